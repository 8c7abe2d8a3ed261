/-
  Texts joined.
-/
import Derived.Test.YtfhkmgcalcfibaaGreatSta1
import Derived.Laws.Externs
import Derived.Lib.Overlaps
import Derived.Lib.BytesEntry
import Derived.MapKept
import Derived.Shelf.SlSortCmp.WholeK
import Derived.Shelf.SlSortCmp.NoneTotal
import Derived.Lib.BitFns
set_option linter.unusedVariables false
set_option linter.unusedSimpArgs false
set_option maxHeartbeats 64000000
namespace Go.Proofs.YtfhkmgcalcfibaaGreat
open Go.RowKit
theorem sg_eq : ∀ (cs : List Value) (off n : Nat), seg cs off n = if off + n ≤ cs.length then some ((cs.drop off).take n) else none
 | [], 0, 0 => by simp [seg]
 | [], 0, n + 1 => by simp [seg]
 | [], off + 1, n => by simp [seg]
 | x :: xs, 0, 0 => by simp [seg]
 | x :: xs, 0, n + 1 => by
  rw [seg, sg_eq xs 0 n]
  by_cases h : n ≤ xs.length
  ·rw [if_pos (by omega), if_pos (by simp;omega)];simp
  ·rw [if_neg (by omega), if_neg (by simp;omega)]
 | x :: xs, off + 1, n => by
  rw [seg, sg_eq xs off n]
  by_cases h : off + n ≤ xs.length
  ·rw [if_pos h, if_pos (by simp;omega)];simp
  ·rw [if_neg h, if_neg (by simp;omega)]
theorem sg_seg {cs ys zs : List Value} {o n off k q : Nat} (h : seg cs o n = some ys) (h2 : seg ys off k = some zs) (hq : q = o + off) : seg cs q k = some zs := by
 subst hq
 rw [sg_eq] at *
 split at h
 ·rename_i h1
  simp only [Option.some.injEq] at h
  subst h
  split at h2
  ·rename_i h3
   simp only [List.length_take, List.length_drop] at h3
   simp only [Option.some.injEq] at h2
   subst h2
   rw [if_pos (by omega)]
   congr 1
   rw [List.drop_take, List.take_take, List.drop_drop]
   congr 1
   omega
  ·cases h2
 ·cases h
theorem sg_nth {cs ys : List Value} {o n off q : Nat} {v : Value} (h : seg cs o n = some ys) (h2 : nth ys off = some v) (hq : q = o + off) : nth cs q = some v := by
 subst hq
 obtain ⟨h3, h4⟩ := seg_spec _ _ _ _ h
 rw [nth_spec] at *
 have hlt : off < n := by rw [← h3];exact (List.getElem?_eq_some_iff.1 h2).1
 rw [h4 off hlt, h2]
theorem sg_all {xs : List Value} {k : Nat} (h : xs.length = k) : seg xs 0 k = some xs := by
 rw [sg_eq, if_pos (by omega)];simp [← h]
def encL {α : Type} (enc : α → List Value) (ls : List α) : List Value := ls.flatMap enc
theorem encL_nil {α : Type} (enc : α → List Value) : encL enc [] = [] := rfl
theorem encL_app {α : Type} (enc : α → List Value) (xs ys : List α) : encL enc (xs ++ ys) = encL enc xs ++ encL enc ys := by simp [encL]
theorem encL_cons {α : Type} (enc : α → List Value) (x : α) (ys : List α) : encL enc (x :: ys) = enc x ++ encL enc ys := by simp [encL]
theorem encL_one {α : Type} (enc : α → List Value) (x : α) : encL enc [x] = enc x := by simp [encL]
theorem encL_len {α : Type} {enc : α → List Value} {sz : Nat} {ls : List α} (h : ∀ x ∈ ls, (enc x).length = sz) : (encL enc ls).length = ls.length * sz := by
 induction ls with
 | nil => simp [encL]
 | cons x ls ih =>
  rw [encL_cons, List.length_append, h x (by simp), ih fun y hy => h y (by simp [hy]), List.length_cons, Nat.add_mul];omega
theorem encL_take {α : Type} {enc : α → List Value} {sz : Nat} {ls : List α} (h : ∀ x ∈ ls, (enc x).length = sz) (i : Nat) : (encL enc ls).take (i * sz) = encL enc (ls.take i) := by
 rcases Nat.lt_or_ge i ls.length with hi | hi
 ·conv => lhs;rw [← List.take_append_drop i ls, encL_app]
  have := encL_len (ls := ls.take i) (sz := sz) (enc := enc) fun x hx => h x (List.mem_of_mem_take hx)
  rw [List.length_take, Nat.min_eq_left (by omega)] at this
  rw [← this, List.take_left']
  rfl
 ·rw [List.take_of_length_le hi, List.take_of_length_le]
  rw [encL_len h];exact Nat.mul_le_mul_right _ hi
theorem encL_drop {α : Type} {enc : α → List Value} {sz : Nat} {ls : List α} (h : ∀ x ∈ ls, (enc x).length = sz) (i : Nat) : (encL enc ls).drop (i * sz) = encL enc (ls.drop i) := by
 have h1 := List.take_append_drop (i * sz) (encL enc ls)
 have h2 : encL enc (ls.take i) ++ encL enc (ls.drop i) = encL enc ls := by rw [← encL_app, List.take_append_drop]
 rw [encL_take h] at h1
 exact List.append_cancel_left (h1.trans h2.symm)
theorem encL_all {α : Type} {enc : α → List Value} {ls : List α} (h : ∀ x ∈ ls, (enc x).all (·.oneCell') = true) : (encL enc ls).all (·.oneCell') = true := by
 simp only [encL, List.all_eq_true, List.mem_flatMap] at *
 rintro v ⟨x, hx, hv⟩
 exact h x hx v hv
theorem seg_el {α : Type} {enc : α → List Value} {sz : Nat} {ls : List α} (hsz : ∀ x ∈ ls, (enc x).length = sz) {cs : List Value} {o n : Nat} (h : seg cs o (n * sz) = some (encL enc ls)) {i : Nat} (hi : i < ls.length) {q : Nat} (hq : q = o + i * sz) : seg cs q sz = some (enc ls[i]) := by
 refine sg_seg h ?_ hq
 have hl := encL_len hsz
 have hi' : i * sz + sz ≤ ls.length * sz := by rw [← Nat.succ_mul];exact Nat.mul_le_mul_right _ hi
 rw [sg_eq, if_pos (by omega), encL_drop hsz, List.drop_eq_getElem_cons hi, encL_cons]
 congr 1
 rw [← hsz ls[i] (List.getElem_mem hi), List.take_left']
 rfl
def SlAt (W : World) (sz : Nat) (v : Value) (n : Nat) (xs : List Value) : Prop :=
 ∃ p cap, v = .slice p n cap ∧ n ≤ cap ∧ (∀ a : Addr, p = some a → True) ∧ xs.length = n * sz ∧ (0 < n → ∃ b o cs t fz, p = some ⟨b, o, none⟩ ∧ W.heap[b]? = some (.cells (List.toArray cs) t fz) ∧ seg cs o (n * sz) = some xs)
theorem SlAt.later {W w : World} {sz : Nat} {v : Value} {n : Nat} {xs : List Value} (h : SlAt W sz v n xs) (E : Ext [] W w) : SlAt w sz v n xs := by
 obtain ⟨p, cap, h1, h2, h3, h4, h5⟩ := h
 refine ⟨p, cap, h1, h2, h3, h4, fun hn => ?_⟩
 obtain ⟨b, o, cs, t, fz, h6, h7, h8⟩ := h5 hn
 exact ⟨b, o, cs, t, fz, h6, by rw [E.block b (Array.getElem?_eq_some_iff.1 h7).1 (by simp)];exact h7, h8⟩
theorem SlAt.nil (W : World) (sz : Nat) : SlAt W sz (.slice none 0 0) 0 [] := ⟨none, 0, rfl, Nat.le_refl _, by simp, by simp, fun h => absurd h (by omega)⟩
theorem OwnS.slAt {e : TypeId} {sz : Nat} {v : Value} {n : Nat} {xs : List Value} {ent : List (Nat × Obj)} (h : OwnS e sz v n xs ent) {S : List Nat} {W0 w : World} {l : List (Nat × Obj)} (M : Mem S W0 w l) (hs : ∀ p ∈ ent, p ∈ l) : SlAt w sz v n xs := by
 rcases h with ⟨rfl, rfl, rfl, rfl⟩ | ⟨b, cap, junk, rfl, rfl, hxl, hjl, hnc⟩
 ·exact SlAt.nil _ _
 ·refine ⟨_, _, rfl, hnc, by simp, hxl, fun _ => ⟨b, 0, xs ++ junk, e, (0, 0), rfl, M.at_ (b, _) (hs _ (by simp)), ?_⟩⟩
  have := seg_of [] xs junk
  simpa [hxl] using this
theorem SlAt.src {P : Program} {W : World} {sz : Nat} {v : Value} {n : Nat} {xs : List Value} (h : SlAt W sz v n xs) (h1 : xs.all (·.oneCell') = true) : SrcOf P W v n sz xs := by
 obtain ⟨p, cap, rfl, h2, h3, h4, h5⟩ := h
 rcases Nat.eq_zero_or_pos n with hn | hn
 ·subst hn
  have : xs = [] := List.length_eq_zero_iff.1 (by simpa using h4)
  subst this
  refine ⟨by simp [Builtin.lenOf], fun d => ?_, by simp, by simp⟩
  cases p with
  | none => simp [Builtin.firstCells]
  | some a => exact run_firstCells_some _ sz 0 _ _ _ [] (by simp) (fun j v hj => by simp at hj)
 ·obtain ⟨b, o, cs, t, fz, rfl, h7, h8⟩ := h5 hn
  exact SrcOf.cells' h7 h8 h1
section
variable {P : Program} {ρ : Operand → Value} {w W0 : World} {S : List Nat} {l l' : List (Nat × Obj)} {R : Value → World → Prop} {d : Option Tmp} {ty : TypeId} {pos : String} {af : Array Edge} {g : Option (Nat × Bool)}
theorem o_capSl {x : Operand} {t e : TypeId} {p : Option Addr} {n c : Nat} (hx : ρ x = .slice p n c) [ht : TU P t (.slice e)] (h : R (.int .i64 c) w) : OpTo P ⟨d, .call ⟨.builtin .cap, #[x], #[t]⟩, ty, pos, af, g⟩ ρ w R :=
 OpTo.val (v := .int .i64 c) (w' := w) (by simp [execOp, resolve, invoke, builtin, hx, Builtin.cap_, run_underlying ht.h, goInt]) h
theorem o_slL {t e : TypeId} {x i : Operand} {k : IntKind} {b o len cap : Nat} {m : Int} (hx : ρ x = .slice (some ⟨b, o, none⟩) len cap) (hi : ρ i = .int k m) [ht : TU P t (.slice e)] {sz : Nat} [hs : TSz P e sz] (h0 : 0 ≤ m) (h1 : m ≤ len) (h3 : m < cap) (h : R (.slice (some ⟨b, o + m.toNat * sz, none⟩) (len - m.toNat) (cap - m.toNat)) w) : OpTo P ⟨d, .slice t x (some i) none none, ty, pos, af, g⟩ ρ w R := by
 have h6 : ¬ cap = m.toNat := by omega
 exact OpTo.val (v := .slice (some ⟨b, o + m.toNat * sz, none⟩) (len - m.toNat) (cap - m.toNat)) (w' := w) (by simp [execOp, Instr.sliceAt, Instr.slice, Instr.sliceBounds, Instr.sliceBound, asIntOf, hx, hi, run_underlying ht.h, run_sizeOf hs.h, h0, h1, h6, addr_add]) h
theorem o_entry {c : Operand} {f : FuncId} {fn : Func} {e : Array Value → Sem Value} {xs : Array Operand} {ts : Array TypeId} {vs : Array Value} {v : Value} (hc : ρ c = .func (.func f) #[] #[]) (hf : P.funcs[f]? = some fn) (hname : (fn.name == "runtime.NumGoroutine") = false)
  (hb : fn.body.isNone = true) (hn : Extern.findNext fn = none) (he : Extern.find fn = some e) (ha : xs.map ρ = vs) (hr : (e vs).run P w = .ok v w) (h : R v w) : OpTo P ⟨d, .call ⟨.value c, xs, ts⟩, ty, pos, af, g⟩ ρ w R := by
 refine OpTo.val (v := v) (w' := w) ?_ h
 have := run_callFunc_extern hf hname hb hn he vs w
 rw [hr] at this
 simp [execOp, resolve, invoke, Deferred.ofValue, hc, ha, this]
end
def cmpL : List Int → List Int → Int
 | [], [] => 0
 | [], _ :: _ => -1
 | _ :: _, [] => 1
 | x :: xs, y :: ys => if x < y then -1 else if y < x then 1 else cmpL xs ys
theorem find_range_succ (n : Nat) (p : Nat → Bool) : (List.range (n + 1)).find? p = if p 0 then some 0 else ((List.range n).find? fun i => p (i + 1)).map (· + 1) := by
 rw [List.range_succ_eq_map, List.find?_cons]
 cases h : p 0 with
 | true => simp
 | false => simp [List.find?_map];rfl
theorem ba_get (bs : List UInt8) (i : Nat) : (⟨bs.toArray⟩ : ByteArray)[i]! = bs.getD i default := by
 rw [getElem!_def]
 rcases Nat.lt_or_ge i bs.length with h | h
 ·rw [mkS_get h];simp [h]
 ·have : (⟨bs.toArray⟩ : ByteArray)[i]? = none := by
   rw [getElem?_neg]
   rw [mkS_size];omega
  rw [this];simp [h]
theorem cmp_cmpL : ∀ (xs ys : List UInt8), Extern.BytealgCompare.cmp ⟨xs.toArray⟩ ⟨ys.toArray⟩ = cmpL (xs.map fun c => (c.toNat : Int)) (ys.map fun c => (c.toNat : Int))
 | [], [] => by decide
 | [], y :: ys => by
  unfold Extern.BytealgCompare.cmp
  rw [mkS_size, mkS_size]
  simp [cmpL]
 | x :: xs, [] => by
  unfold Extern.BytealgCompare.cmp
  rw [mkS_size, mkS_size]
  simp [cmpL]
 | x :: xs, y :: ys => by
  have ih := cmp_cmpL xs ys
  unfold Extern.BytealgCompare.cmp at *
  rw [mkS_size, mkS_size] at *
  simp only [List.length_cons] at *
  have hm : min (xs.length + 1) (ys.length + 1) = min xs.length ys.length + 1 := by omega
  rw [hm, find_range_succ]
  have hg0 : ∀ (z : UInt8) (zs : List UInt8), (⟨(z :: zs).toArray⟩ : ByteArray)[0]! = z := fun z zs => by rw [ba_get];rfl
  have hg1 : ∀ (z : UInt8) (zs : List UInt8) (i : Nat), (⟨(z :: zs).toArray⟩ : ByteArray)[i + 1]! = (⟨zs.toArray⟩ : ByteArray)[i]! := by
   intro z zs i
   rw [ba_get, ba_get];simp
  simp only [hg0, hg1]
  by_cases hxy : x = y
  ·subst hxy
   simp only [bne_self_eq_false, Bool.false_eq_true, if_false, List.map_cons, cmpL, Int.lt_irrefl]
   rw [← ih]
   cases List.find? (fun i => (⟨xs.toArray⟩ : ByteArray)[i]! != (⟨ys.toArray⟩ : ByteArray)[i]!) (List.range (min xs.length ys.length)) with
   | none => simp
   | some i => simp [hg1]
  ·have hne : (x != y) = true := by simpa using hxy
   simp only [hne, if_true, hg0, List.map_cons, cmpL]
   have hnn : x.toNat ≠ y.toNat := fun h => hxy (UInt8.toNat_inj.1 h)
   by_cases hlt : x < y
   ·have : x.toNat < y.toNat := hlt
    rw [if_pos hlt, if_pos (by omega)]
   ·have : ¬ x.toNat < y.toNat := hlt
    rw [if_neg hlt, if_neg (by omega), if_pos (by omega)]
theorem cmpL_self : ∀ xs : List Int, cmpL xs xs = 0
 | [] => rfl
 | x :: xs => by simp [cmpL, cmpL_self xs]
theorem cmpL_anti : ∀ xs ys : List Int, cmpL ys xs = - cmpL xs ys
 | [], [] => rfl
 | [], _ :: _ => rfl
 | _ :: _, [] => rfl
 | x :: xs, y :: ys => by
  simp only [cmpL]
  rcases Int.lt_trichotomy x y with h | h | h
  ·rw [if_neg (by omega), if_pos h, if_pos h];rfl
  ·subst h;simp [cmpL_anti xs ys]
  ·rw [if_pos h, if_neg (by omega), if_pos h]
theorem cmpL_zero : ∀ {xs ys : List Int}, cmpL xs ys = 0 → xs = ys
 | [], [], _ => rfl
 | [], _ :: _, h => by simp [cmpL] at h
 | _ :: _, [], h => by simp [cmpL] at h
 | x :: xs, y :: ys, h => by
  simp only [cmpL] at h
  split at h
  ·cases h
  ·split at h
   ·cases h
   ·rw [cmpL_zero h, show x = y by omega]
theorem cmpL_lt_trans : ∀ {xs ys zs : List Int}, cmpL xs ys < 0 → cmpL ys zs < 0 → cmpL xs zs < 0
 | [], [], _, h, _ => by simp [cmpL] at h
 | [], _ :: _, [], _, h => by simp [cmpL] at h
 | [], _ :: _, _ :: _, _, _ => by simp [cmpL]
 | _ :: _, [], _, h, _ => by simp [cmpL] at h
 | _ :: _, _ :: _, [], _, h => by simp [cmpL] at h
 | x :: xs, y :: ys, z :: zs, h, k => by
  simp only [cmpL] at *
  rcases Int.lt_trichotomy x y with h1 | h1 | h1
  ·rcases Int.lt_trichotomy y z with k1 | k1 | k1
   ·rw [if_pos (by omega)];omega
   ·subst k1;rw [if_pos h1];omega
   ·rw [if_neg (by omega), if_pos k1] at k;omega
  ·subst h1
   rw [if_neg (by omega), if_neg (by omega)] at h
   rcases Int.lt_trichotomy x z with k1 | k1 | k1
   ·rw [if_pos k1];omega
   ·subst k1
    rw [if_neg (by omega), if_neg (by omega)] at *
    exact cmpL_lt_trans h k
   ·rw [if_neg (by omega), if_pos k1] at k;omega
  ·rw [if_neg (by omega), if_pos h1] at h;omega
theorem run_bytesOf {P : Program} {w : World} {v : Value} {n : Nat} {xs : List Int} (h : SlAt w 1 v n (xs.map (Value.int .u8))) : (Extern.Bytes.bytesOf v).run P w = .ok ⟨(Lib.bytesOf xs).toArray⟩ w := by
 obtain ⟨p, cap, rfl, h2, h3, h4, h5⟩ := h
 simp only [List.length_map, Nat.mul_one] at h4
 rcases Nat.eq_zero_or_pos n with hn | hn
 ·have : xs = [] := List.length_eq_zero_iff.1 (by omega)
  subst this;subst hn
  cases p with
  | none => simp [Extern.Bytes.bytesOf, Lib.bytesOf];rfl
  | some a => simp [Extern.Bytes.bytesOf, Lib.bytesOf, Extern.Bytes.loadBytes];rfl
 ·obtain ⟨b, o, cs, t, fz, rfl, h7, h8⟩ := h5 hn
  have := Lib.run_loadBytesX (P := P) w xs ⟨b, o, none⟩ .empty (fun j x hj => by
   obtain ⟨h9, h10⟩ := seg_spec _ _ _ _ h8
   have hjl : j < xs.length := (List.getElem?_eq_some_iff.1 hj).1
   have := h10 j (by omega)
   rw [addr_add]
   refine cell_at h7 ?_
   simp only [List.getElem?_toArray, this]
   simp [hj])
  simp only [Extern.Bytes.bytesOf, ← h4]
  rw [this]
  simp [ByteArray.empty, ByteArray.emptyWithCapacity]
  rfl
theorem bytes_nums {xs : List Int} (h : ∀ x ∈ xs, 0 ≤ x ∧ x < 256) : (Lib.bytesOf xs).map (fun c => (c.toNat : Int)) = xs := by
 induction xs with
 | nil => rfl
 | cons x xs ih =>
  have h1 := h x (by simp)
  have e : (Lib.bytesOf (x :: xs)) = x.toNat.toUInt8 :: Lib.bytesOf xs := by simp [Lib.bytesOf]
  rw [e, List.map_cons, ih fun y hy => h y (by simp [hy])]
  congr 1
  simp only [Nat.toUInt8, UInt8.toNat_ofNat']
  omega
theorem run_compare {P : Program} {w : World} {v u : Value} {n m : Nat} {xs ys : List Int} (h : SlAt w 1 v n (xs.map (Value.int .u8))) (k : SlAt w 1 u m (ys.map (Value.int .u8))) (hx : ∀ x ∈ xs, 0 ≤ x ∧ x < 256) (hy : ∀ x ∈ ys, 0 ≤ x ∧ x < 256) :
  (Extern.BytealgCompare.compare #[v, u]).run P w = .ok (.int .i64 (cmpL xs ys)) w := by
 change Sem.run P (do pure (goInt (Extern.BytealgCompare.cmp (← Extern.Bytes.bytesOf v) (← Extern.Bytes.bytesOf u)))) w = _
 simp only [Sem.run_bind, run_bytesOf h, run_bytesOf k, Result.andThen_ok, Sem.run_pure, cmp_cmpL, bytes_nums hx, bytes_nums hy, goInt]
section
variable {P : Program} {ρ : Operand → Value} {w W0 : World} {S : List Nat} {l l' : List (Nat × Obj)} {R : Value → World → Prop} {d : Option Tmp} {ty : TypeId} {pos : String} {af : Array Edge} {g : Option (Nat × Bool)}
theorem o_storeAE {t : TypeId} {x y : Operand} {b off n : Nat} {cs cs' vs : List Value} {t' : TypeId} [hs : TAgg P t n] (M : Mem S W0 w l) (hx : ρ x = .pointer (some ⟨b, off, none⟩)) (hy : ρ y = .agg vs.toArray) (hn : vs.length = n) (h1 : vs.all (·.oneCell') = true) (hb : Has l b (.cells cs.toArray t' (0, 0))) (hp : put cs off vs = some cs')
  (hu : Upd l b (.cells cs.toArray t' (0, 0)) (.cells cs'.toArray t' (0, 0)) l') (h : ∀ w', Ext [b] w w' → Mem S W0 w' l' → R undef w') : OpTo P ⟨d, .store t x y, ty, pos, af, g⟩ ρ w R := by
 obtain ⟨hle, rfl⟩ := put_splice _ _ _ _ hp
 obtain ⟨w', hr, he, hh⟩ := run_storeRow (P := P) (off := off) vs 0 cs w (M.heap hb) (by simpa using hle) (fun v hv => List.all_eq_true.1 h1 v hv)
 refine OpTo.skip (w' := w') ?_ (h _ he (M.turned hu he (by simpa using hh)))
 simp only [execOp, Instr.storeAt, Instr.sureAddr, hx, hy, storeVar, Sem.run_bind, Sem.run_pure, Result.andThen_ok, run_sizeOf_agg hs.h, Value.cells]
 simp [hr, hn]
end
structure Sh (n0 : Nat) (B : List Nat) (w w' : World) : Prop where
 os : w'.os = w.os
 tape : w'.tape = w.tape
 output : w'.output = w.output
 size : w.heap.size ≤ w'.heap.size
 dr : w.drawn ≤ w'.drawn
 old : ∀ k, k < n0 → k < w.heap.size → k ∉ B → w'.heap[k]? = w.heap[k]?
 new : ∀ k cs t, n0 ≤ k → w.heap[k]? = some (.cells cs t (0, 0)) → ∃ cs', w'.heap[k]? = some (.cells cs' t (0, 0)) ∧ cs'.size = cs.size
theorem Sh.of_ext {n0 : Nat} {B : List Nat} {w w' : World} (h : Ext [] w w') : Sh n0 B w w' :=
 ⟨h.os, h.tape, h.output, h.size, h.dr, fun k _ hk _ => h.block k hk (by simp), fun k cs t _ hb => ⟨cs, by rw [h.block k (Array.getElem?_eq_some_iff.1 hb).1 (by simp)];exact hb, rfl⟩⟩
theorem Sh.trans {n0 : Nat} {B : List Nat} {a b c : World} (h : Sh n0 B a b) (k : Sh n0 B b c) : Sh n0 B a c :=
 ⟨k.os.trans h.os, k.tape.trans h.tape, k.output.trans h.output, Nat.le_trans h.size k.size, Nat.le_trans h.dr k.dr, fun i hi hs hb => (k.old i hi (Nat.lt_of_lt_of_le hs h.size) hb).trans (h.old i hi hs hb), fun i cs t hn hb => by
  obtain ⟨cs1, h1, h2⟩ := h.new i cs t hn hb
  obtain ⟨cs2, h3, h4⟩ := k.new i cs1 t hn h1
  exact ⟨cs2, h3, h4.trans h2⟩⟩
def keepSh (n0 : Nat) (B : List Nat) : Keep := ⟨Ext [], Sh n0 B, fun w => Ext.refl [] w, Sh.of_ext, Sh.trans, fun h => h.size⟩
theorem Sh.ext {B : List Nat} {w w' : World} (h : Sh w.heap.size B w w') : Ext B w w' := ⟨h.os, h.tape, h.output, h.size, h.dr, fun k hk hb => h.old k hk hk hb⟩
def AlS (n0 : Nat) (t : TypeId) (len : Nat) : Pred := fun v w => ∃ b cs, v = ptrTo b ∧ n0 ≤ b ∧ w.heap[b]? = some (.cells cs t (0, 0)) ∧ cs.size = len
theorem AlS.stays (n0 : Nat) (B : List Nat) (t : TypeId) (len : Nat) : Stays (keepSh n0 B) (AlS n0 t len) := fun v w w' ⟨b, cs, h1, h2, h3, h4⟩ h => by
 obtain ⟨cs', h5, h6⟩ := Sh.new h b cs t h2 h3
 exact ⟨b, cs', h1, h2, h5, h6.trans h4⟩
section
variable {c : RC} {fr : List (Nat × Value)} {Vs : List Pred} {T T' : SPred} {rest : List Oper} {d : Nat} {op : Op} {ty : TypeId} {pos : String} {af : Array Edge} {ix : Nat}
def effX (Ef : List Nat) (Rl : List (Nat × Nat)) (Pp : List PairI) (n ix : Nat) (op : Op) : Bool := Nat.blt ix n && Ef.contains ix && !isAl op && Pp.isEmpty && relFree Rl ix
theorem effX_spec {Ef : List Nat} {Rl : List (Nat × Nat)} {Pp : List PairI} {n ix : Nat} {op : Op} (h : effX Ef Rl Pp n ix op = true) : ix < n ∧ ix ∈ Ef ∧ isAl op = false ∧ Pp = [] ∧ relFree Rl ix = true := by
 simp only [effX, Bool.and_eq_true, Bool.not_eq_true'] at h
 exact ⟨Nat.le_of_ble_eq_true h.1.1.1.1, by simpa using h.1.1.1.2, h.1.1.2, List.isEmpty_iff.1 h.1.2, h.2⟩
theorem xDone (hn : Nat.beq ix c.n = true)
  (h : ∀ a w, Frm a c.nt c.df fr → c.K.e c.w1 w → (∀ (j : Nat) (V : Pred), Vs[j]? = some V → V (slotV c.ops j a) w) → T (slotE c.Ef c.X c.ops a) w →
   (∀ i j oi oj, i < c.n → j < c.n → i ≠ j → c.ops[i]? = some oi → c.ops[j]? = some oj → isAl oi.op = true → isAl oj.op = true → slotV c.ops i a ≠ slotV c.ops j a) →
   (∀ q ∈ c.Rl, ∃ oq, c.ops[q.1]? = some oq ∧ relV oq.op (slotV c.ops q.2 a) = some (slotV c.ops q.1 a)) → wpListIn (FW c.r) 0 c.P c.ops c.Q rest a w) : MW c ix rest fr Vs T := by
 rintro rfl hT0 hPK
 have hn' : Vs.length = c.n := Nat.eq_of_beq_eq_true hn
 intro hdrop hC hle h1
 refine ⟨[], fun _ => T, by simp [hn'], by simp, rfl, fun _ _ => hT0.1, fun _ _ _ => rfl, fun k hk x hx hkx => hT0.2 x hx (by omega), fun Ts' hTs' => ⟨by simp, fun listed a w M hall hT => ?_⟩⟩
 rw [List.append_nil] at M
 rw [hn'] at hdrop
 rw [hdrop]
 rw [hTs' c.n (by omega)] at hT
 refine h a w ⟨M.size, M.defers, fun t v ht => ?_⟩ M.ext (fun j V hV => M.vals j V (by rw [← hn'];exact (List.getElem?_eq_some_iff.1 hV).1) (hall j (by rw [← hn'];exact (List.getElem?_eq_some_iff.1 hV).1)) hV) hT (fun i j oi oj hi hj hne hoi hoj hai haj => M.dist i j oi oj hi hj hne hoi hoj hai haj (hall i hi) (hall j hj)) (fun q hq => by
  have h := List.all_eq_true.1 hPK.1.2 q hq
  simp only [Bool.and_eq_true, decide_eq_true_eq] at h
  exact M.rel q hq (hall q.1 h.1.1))
 rcases hC.c t v ht with ⟨hb, hb2⟩ | ⟨j, oj, hj, hoj, hdj, hV, _⟩
 ·rw [M.base t (fun j oj hj hoj _ => hb j oj (by omega) hoj), hb2]
 ·have h0 := M.vals j _ (by omega) (hall j (by omega)) hV
  unfold slotV at h0
  rw [hoj] at h0
  simp only [Option.bind_some, hdj] at h0
  exact h0
end
section
variable {P : Program} {ρ : Operand → Value} {w : World} {R : Value → World → Prop} {d : Option Tmp} {ty : TypeId} {pos : String} {af : Array Edge} {g : Option (Nat × Bool)}
theorem o_loadHA {t : TypeId} {x : Operand} {b off n : Nat} {cs : List Value} {t' : TypeId} {fz : Nat × Nat} {vs : List Value} [ht : TAgg P t n] (hx : ρ x = .pointer (some ⟨b, off, none⟩)) (hb : w.heap[b]? = some (.cells cs.toArray t' fz)) (hv : seg cs off n = some vs) (h : R (.agg vs.toArray) w) : OpTo P ⟨d, .load t x, ty, pos, af, g⟩ ρ w R :=
 o_load hx (run_loadVar_agg ht.h hb (by simpa using hv)) h
theorem o_loadH1 {t : TypeId} {x : Operand} {b off : Nat} {cs : List Value} {t' : TypeId} {fz : Nat × Nat} {v : Value} [ht : TOne P t] (hx : ρ x = .pointer (some ⟨b, off, none⟩)) (hb : w.heap[b]? = some (.cells cs.toArray t' fz)) (hv : nth cs off = some v) (h : R v w) : OpTo P ⟨d, .load t x, ty, pos, af, g⟩ ρ w R :=
 o_load hx (run_loadVar_one ht.h (cell_at hb (by rw [nth_spec] at hv;simpa using hv))) h
end
theorem c_drawX {P : Program} {r : Option Nat} {Q : Exit → Act → World → Prop} {a : Act} {w : World} {nt : Nat} {df : List Deferred} {fr : List (Nat × Value)} {id : Nat} {ol : List Oper} (K : Keep) (Ef X : List Nat) (Rl : List (Nat × Nat)) (T : SPred) (n : Nat) [hm : TMix P] (F : Frm a nt df fr)
  (hchk : (regOk ol.toArray n && tailOk ol.toArray n && Nat.ble n ol.length && dstOk ol.toArray n nt && effOk ol.toArray n Ef && xOk ol.toArray n Ef X && relOk ol.toArray n Rl) = true) (hsT : StaysT K T) (hX0 : ∀ x ∈ X, irrT T x) (hT : ∀ σ d, w.drawn ≤ d → T σ { w with drawn := d })
  (h : ∀ w1, Ext [] w w1 → w1.heap.size = w.heap.size → regOk ol.toArray n = true → MW ⟨K, Ef, [], P, r, ol.toArray, n, nt, df, a, w1, Q, X, Rl⟩ 0 ol fr [] T) : Wp r P (.region id ol.toArray true) Q a w := by
 simp only [Bool.and_eq_true] at hchk
 obtain ⟨⟨⟨⟨⟨⟨h1, h2⟩, h3⟩, h4⟩, h6⟩, h7⟩, h8⟩ := hchk
 have hw1 : Ext [] w { w with drawn := w.drawn + 1 } := Ext.drawn w _ (Nat.le_succ _)
 have hpo : pairOk ol.toArray n Ef [] = true := rfl
 obtain ⟨Us, Ts, hl, hs, hT1, hT2, hT3, hT4, hgt⟩ := h _ hw1 rfl h1 rfl ⟨hsT, fun x hx _ => hX0 x hx⟩ ⟨⟨hpo, h8⟩, fun h => absurd rfl h⟩ (by simp) ⟨fun t v hv => .inl ⟨fun j o hj => absurd hj (by simp), F.at_ t v hv⟩⟩ (Nat.zero_le _) F.size
 simp only [List.nil_append, List.length_nil] at hl hT1 hT2 hT3 hT4 hgt
 obtain ⟨hg, ht⟩ := hgt Ts (fun _ _ => rfl)
 have hst : ∀ k, StaysT K (Ts k) := fun k => by
  rcases Nat.eq_zero_or_pos k with rfl | h
  ·rw [hT1];exact hsT
  ·exact hT2 k h
 refine region_mid (K := K) (Pp := []) (Ef := Ef) (X := X) (Rl := Rl) (Ts := Ts) (nt := nt) (df := df) hm.h h1 h2 (by have := Nat.le_of_ble_eq_true h3;simpa using this) hl hs h6 hst (fun k hk => hT3 k (Nat.zero_le _) hk) h7 (fun x hx p hp => hT4 p (Nat.zero_le _) x hx hp) h8 (by rw [hT1];exact hT _ _ (Nat.le_succ _)) hpo (fun h => absurd rfl h) (fun i o d hi ho hd => ?_) F.size F.defers rfl (fun i V hV => by simpa using hg i V hV) (fun listed a w M hall => ?_)
 ·have := List.all_eq_true.1 h4 i (List.mem_range.2 hi)
  rw [ho] at this
  simp only [hd] at this
  simpa using this
 ·obtain ⟨m, _, hm1, hm2⟩ := M.last h6 (fun k hk => hT3 k (Nat.zero_le _) hk) hall
  exact ht listed a w M hall (by rw [← hm2];exact hm1)
structure NewM (n0 : Nat) (w : World) (l : List (Nat × Obj)) : Prop where
 at_ : ∀ p ∈ l, w.heap[p.1]? = some p.2
 nd : (l.map (·.1)).Nodup
 ge : ∀ p ∈ l, n0 ≤ p.1
theorem NewM.lt {n0 : Nat} {w : World} {l : List (Nat × Obj)} (h : NewM n0 w l) {p : Nat × Obj} (hp : p ∈ l) : p.1 < w.heap.size := (Array.getElem?_eq_some_iff.1 (h.at_ p hp)).1
theorem NewM.later {n0 : Nat} {w w' : World} {l : List (Nat × Obj)} (h : NewM n0 w l) (E : Ext [] w w') : NewM n0 w' l :=
 ⟨fun p hp => by rw [E.block _ (h.lt hp) (by simp)];exact h.at_ p hp, h.nd, h.ge⟩
theorem Mem.new {n0 : Nat} {w w' : World} {l : List (Nat × Obj)} (M : Mem [] w w' l) (h : n0 ≤ w.heap.size) : NewM n0 w' l :=
 ⟨M.at_, M.nd, fun p hp => Nat.le_trans h ((M.own p hp).resolve_left (by simp))⟩
theorem NewM.app {n0 : Nat} {w w' : World} {l new : List (Nat × Obj)} (h : NewM n0 w l) (M : Mem [] w w' new) (hn : n0 ≤ w.heap.size) : NewM n0 w' (new ++ l) := by
 have h' := h.later M.ext
 have h2 := M.new hn
 refine ⟨fun p hp => (List.mem_append.1 hp).elim (h2.at_ p) (h'.at_ p), ?_, fun p hp => (List.mem_append.1 hp).elim (h2.ge p) (h'.ge p)⟩
 rw [List.map_append, List.nodup_append]
 refine ⟨h2.nd, h'.nd, ?_⟩
 rintro a ha b hb rfl
 obtain ⟨p, hp, rfl⟩ := List.mem_map.1 ha
 obtain ⟨q, hq, e⟩ := List.mem_map.1 hb
 have h3 := h.lt hq
 have h4 := (M.own p hp).resolve_left (by simp)
 omega
def NewP (n0 : Nat) (Φ : Value → List (Nat × Obj) → Prop) : Pred := fun v w => ∃ ent, Φ v ent ∧ NewM n0 w ent
theorem NewP.stays (n0 : Nat) (Φ : Value → List (Nat × Obj) → Prop) : Stays keepAll (NewP n0 Φ) := fun _ _ _ ⟨ent, h, N⟩ E => ⟨ent, h, N.later E⟩
theorem put_in {A B C C' Y : List Value} {off q : Nat} (hq : q = A.length + off) (h : put C off Y = some C') : put (A ++ (C ++ B)) q Y = some (A ++ (C' ++ B)) := by
 subst hq
 obtain ⟨h1, rfl⟩ := put_splice _ _ _ _ h
 rw [put_of _ _ _ (by simp;omega)]
 congr 1
 unfold splice
 rw [List.take_append, List.drop_append, List.take_of_length_le (by omega), List.drop_of_length_le (by omega), List.nil_append, show A.length + off - A.length = off by omega, show A.length + off + Y.length - A.length = off + Y.length by omega, List.take_append_of_le_length (by omega), List.drop_append_of_le_length (by omega)]
 simp only [List.append_assoc]
theorem encL_put {α : Type} {enc : α → List Value} {sz : Nat} {ls : List α} (hsz : ∀ x ∈ ls, (enc x).length = sz) (junk : List Value) {i : Nat} (hi : i < ls.length) {off q : Nat} {Y : List Value} {x' : α} (h : put (enc ls[i]) off Y = some (enc x')) (hq : q = i * sz + off) :
  put (encL enc ls ++ junk) q Y = some (encL enc (ls.set i x') ++ junk) := by
 have e1 : ls = ls.take i ++ ls[i] :: ls.drop (i + 1) := by rw [List.getElem_cons_drop, List.take_append_drop]
 have e2 : ls.set i x' = ls.take i ++ x' :: ls.drop (i + 1) := by rw [List.set_eq_take_append_cons_drop, if_pos hi]
 have hA : (encL enc (ls.take i)).length = i * sz := by
  rw [encL_len fun x hx => hsz x (List.mem_of_mem_take hx), List.length_take, Nat.min_eq_left (by omega)]
 have f1 : encL enc ls ++ junk = encL enc (ls.take i) ++ (enc ls[i] ++ (encL enc (ls.drop (i + 1)) ++ junk)) := by
  conv => lhs;rw [e1]
  rw [encL_app, encL_cons]
  simp only [List.append_assoc]
 have f2 : encL enc (ls.set i x') ++ junk = encL enc (ls.take i) ++ (enc x' ++ (encL enc (ls.drop (i + 1)) ++ junk)) := by
  rw [e2, encL_app, encL_cons]
  simp only [List.append_assoc]
 rw [f1, f2]
 exact put_in (by rw [hA];omega) h
theorem own_seg {e : TypeId} {sz n : Nat} {α : Type} {enc : α → List Value} {ls : List α} {junk : List Value} (h : (encL enc ls).length = n * sz) : seg (encL enc ls ++ junk) 0 (n * sz) = some (encL enc ls) := by
 have := seg_of [] (encL enc ls) junk
 simpa [h] using this
theorem own_el {sz : Nat} {α : Type} {enc : α → List Value} {ls : List α} (hsz : ∀ x ∈ ls, (enc x).length = sz) (junk : List Value) {i : Nat} (hi : i < ls.length) {q : Nat} (hq : q = i * sz) : seg (encL enc ls ++ junk) q sz = some (enc ls[i]) :=
 seg_el hsz (o := 0) (n := ls.length) (own_seg (e := 0) (encL_len hsz)) hi (by omega)
def NewV (n0 : Nat) (v : Value) : Prop := ∀ b o s n c, v = .slice (some ⟨b, o, s⟩) n c → n0 ≤ b
theorem NewV.nil (n0 n c : Nat) : NewV n0 (.slice none n c) := fun _ _ _ _ _ h => by cases h
theorem SlAt.laterB {W w : World} {sz : Nat} {v : Value} {n : Nat} {xs : List Value} {B : List Nat} (h : SlAt W sz v n xs) (hn : ∀ b o s k c, v = .slice (some ⟨b, o, s⟩) k c → b ∉ B) (E : Ext B W w) : SlAt w sz v n xs := by
 obtain ⟨p, cap, rfl, h1, h2, h3, h4⟩ := h
 refine ⟨p, cap, rfl, h1, h2, h3, fun h0 => ?_⟩
 obtain ⟨b, o, cs, t, fz, rfl, hb, hs⟩ := h4 h0
 exact ⟨b, o, cs, t, fz, rfl, by rw [E.block b (Array.getElem?_eq_some_iff.1 hb).1 (hn b o none n cap rfl)];exact hb, hs⟩
def findA {κ : Type} [DecidableEq κ] (x : κ) : List (κ × Value) → Nat → Option (Nat × Value)
 | [], _ => none
 | p :: m, i => if x = p.1 then some (i, p.2) else findA x m (i + 1)
def getA {κ ν : Type} [DecidableEq κ] (x : κ) : List (κ × ν) → Option ν
 | [] => none
 | p :: m => if x = p.1 then some p.2 else getA x m
def putA {κ ν : Type} [DecidableEq κ] (x : κ) (v : ν) : List (κ × ν) → List (κ × ν)
 | [] => [(x, v)]
 | p :: m => if x = p.1 then (x, v) :: m else p :: putA x v m
section plain
variable {κ ν μ : Type} [DecidableEq κ]
theorem findA_get (x : κ) : ∀ (m : List (κ × Value)) (i : Nat), (findA x m i).map (·.2) = getA x m
 | [], _ => rfl
 | p :: m, i => by
  unfold findA getA
  split
  ·rfl
  ·exact findA_get x m (i + 1)
theorem findA_none {x : κ} {v : Value} : ∀ {m : List (κ × Value)} {i : Nat}, findA x m i = none → putA x v m = m ++ [(x, v)]
 | [], _, _ => rfl
 | p :: m, i, h => by
  unfold findA at h
  split at h
  ·cases h
  ·rename_i hn
   simp only [putA, hn, if_false, List.cons_append]
   rw [findA_none h]
theorem findA_some {x : κ} {v u : Value} : ∀ {m : List (κ × Value)} {i j : Nat}, findA x m i = some (j, u) → ∃ k, j = i + k ∧ k < m.length ∧ putA x v m = m.set k (x, v) ∧ ∃ y, m[k]? = some (x, y)
 | [], _, _, h => by cases h
 | p :: m, i, j, h => by
  unfold findA at h
  split at h
  ·rename_i hx
   simp only [Option.some.injEq, Prod.mk.injEq] at h
   subst hx
   exact ⟨0, by omega, by simp, by simp [putA], p.2, by simp⟩
  ·rename_i hn
   obtain ⟨k, e, hk, hp, y, hy⟩ := findA_some (v := v) h
   exact ⟨k + 1, by omega, by simpa using hk, by simp [putA, hn, hp], y, by simpa using hy⟩
end plain
structure KeyLw (P : Program) (k : TypeId) {κ : Type} [DecidableEq κ] (kv : κ → Value) (ok : κ → Prop) : Prop where
 check : ∀ (em : Bool) (w : World) (x : κ), ok x → (Instr.checkKey em 10000 k (kv x)).run P w = .ok () w
 find : ∀ (w : World) (x : κ) (m : List (κ × Value)) (es : List MapEntry), ok x → (∀ p ∈ m, ok p.1) → es.map (fun e => (e.key, e.val)) = m.map (fun p => (kv p.1, p.2)) → (Instr.findKey k (kv x) es).run P w = .ok (findA x m 0) w
 stays : ∀ (w : World) (x : κ), ok x → (Instr.keyThatStays (kv x) (kv x)).run P w = .ok (kv x) w
theorem sameBits_int (n : Nat) (q : IntKind) (x : Int) : Instr.sameBits n (.int q x) (.int q x) = true := by
 cases n <;> simp [Instr.sameBits]
theorem check_int {P : Program} {k : TypeId} {q : IntKind} (hk : P.underlying k = some (.int q)) (em : Bool) (w : World) (x : Int) (n : Nat) : (Instr.checkKey em (n + 1) k (.int q x)).run P w = .ok () w := by
 simp [Instr.checkKey, run_underlying hk]
theorem keyLw_int {P : Program} {k : TypeId} {q : IntKind} (hk : P.underlying k = some (.int q)) : KeyLw P k (Value.int q) (fun _ => True) where
 check em w x _ := check_int hk em w x 9999
 find w x m es _ _ he := by
  have key : ∀ (m : List (Int × Value)) (es : List MapEntry) (i : Nat), es.map (fun e => (e.key, e.val)) = m.map (fun p => (Value.int q p.1, p.2)) → Instr.findNow (.int q) (.int q x) es i = some (findA x m i) := by
   intro m
   induction m with
   | nil =>
    intro es i h
    have : es = [] := by simpa using h
    subst this
    rfl
   | cons p m ih =>
    intro es i h
    cases es with
    | nil => simp at h
    | cons e es =>
     simp only [List.map_cons, List.cons.injEq, Prod.mk.injEq] at h
     obtain ⟨⟨h1, h2⟩, h3⟩ := h
     simp only [Instr.findNow, h1, Instr.sameNow, if_true, findA, h2]
     by_cases hx : x = p.1
     ·simp [hx]
     ·have : (x == p.1) = false := by simpa using hx
      rw [this]
      simp only [hx, if_false]
      exact ih es (i + 1) h3
  simp [Instr.findKey, run_underlying hk, key m es 0 he]
 stays w x _ := by
  unfold Instr.keyThatStays
  rw [if_pos (sameBits_int _ _ _)]
  rfl
theorem sameBits_fits : ∀ {ks : List LK} {xs : List Value}, fitsK ks xs = true → ∀ (n : Nat), ((xs.zip xs).all fun (x, y) => Instr.sameBits n x y) = true
 | [], [], _, _ => rfl
 | k :: ks, x :: xs, h, n => by
  simp only [fitsK, Bool.and_eq_true] at h
  simp only [List.zip_cons_cons, List.all_cons, sameBits_fits h.2 n, Bool.and_true]
  cases k <;> cases x <;> simp [fitK] at h <;> cases n <;> simp [Instr.sameBits]
 | [], _ :: _, h, _ => by cases h
 | _ :: _, [], h, _ => by cases h
section
variable {P : Program}
theorem check_leaf (em : Bool) : ∀ (d : Nat) (t : TypeId) (ks : List LK), leafK P d t = some ks → ∀ (e : Nat) (w : World) (xs : List Value), fitsK ks xs = true → (Instr.checkKey em (e + d) t (mkT P t xs)).run P w = .ok () w
 | 0, _, _, h => by simp [leafK] at h
 | d + 1, t, ks, hk => by
  intro e w xs hx
  unfold leafK at hk
  cases hu : P.underlying t with
  | none => simp [hu] at hk
  | some dsc =>
   rw [hu] at hk
   cases dsc with
   | int k =>
    simp at hk;subst hk
    obtain ⟨x, rfl⟩ : ∃ x, xs = [.int k x] := by
     match xs, hx with
     | [.int k' x], h => simp [fitsK, fitK] at h;subst h;exact ⟨x, rfl⟩
     | .int _ _ :: _ :: _, h => simp [fitsK] at h
    simp only [mkT, isAggT, hu, Bool.false_eq_true, if_false, List.headD_cons]
    rw [show e + (d + 1) = (e + d) + 1 by omega]
    simp [Instr.checkKey, run_underlying hu]
   | bool =>
    simp at hk;subst hk
    obtain ⟨x, rfl⟩ : ∃ x, xs = [.bool x] := by
     match xs, hx with
     | [.bool x], _ => exact ⟨x, rfl⟩
    simp only [mkT, isAggT, hu, Bool.false_eq_true, if_false, List.headD_cons]
    rw [show e + (d + 1) = (e + d) + 1 by omega]
    simp [Instr.checkKey, run_underlying hu]
   | array n el =>
    simp only at hk
    cases hke : leafK P d el with
    | none => simp [hke] at hk
    | some ke =>
     rw [hke] at hk
     simp only at hk
     split at hk
     ·rename_i hc
      simp only [Option.some.injEq] at hk
      subst hk
      obtain ⟨i, hi⟩ := Option.isSome_iff_exists.1 hc.2
      obtain ⟨lx, fx⟩ := fits_flat _ _ _ hx
      simp only [mkT, isAggT, hu, if_true]
      have hsz : i.size = ke.length := by rw [← hc.1];simp [Program.cellsOf, hi]
      rw [show e + (d + 1) = (e + d) + 1 by omega, Instr.checkKey]
      simp only [Sem.run_bind, run_underlying hu, Result.andThen_ok]
      simp only [Std.Legacy.Range.forIn_eq_forIn_range', Std.Legacy.Range.size, Nat.sub_zero, Nat.add_one_sub_one, Nat.div_one]
      have each : ∀ j ∈ List.range' 0 n, j < n := fun j hj => by simp [List.mem_range'] at hj;omega
      generalize List.range' 0 n = is at each
      induction is with
      | nil => simp
      | cons j is ih =>
       have hjn := each j (by simp)
       have hmul : j * ke.length + ke.length ≤ n * ke.length := by
        rw [show j * ke.length + ke.length = (j + 1) * ke.length by rw [Nat.add_mul];omega]
        exact Nat.mul_le_mul_right _ (by omega)
       have p1 := run_part_mk (w := w) hke hc.1 (show j * ke.length + ke.length ≤ xs.length by omega)
       have p2 := check_leaf em d el ke hke e w _ (fx j hjn)
       simp only [List.forIn_cons, Sem.run_bind, _root_.Go.run_sizeOf w hi, hc.1, Result.andThen_ok, p1, p2, Sem.run_pure]
       exact ih (fun y hy => each y (by simp [hy]))
     ·cases hk
   | struct fs =>
    simp only at hk
    split at hk
    ·cases hk
    ·simp only [mkT, isAggT, hu, if_true]
     rw [show e + (d + 1) = (e + d) + 1 by omega, Instr.checkKey]
     simp only [Sem.run_bind, run_underlying hu, Result.andThen_ok]
     rw [← Array.forIn_toList]
     have key : ∀ (l : List Field) (off : Nat) (ks : List LK), leafF P (leafK P d) l off = some ks → fitsK ks (xs.drop off) = true → off ≤ xs.length →
       (∀ f ∈ l, f.name ≠ "_" ∧ ∃ v, (part f.type xs.toArray f.offset).run P w = .ok v w ∧ (Instr.checkKey em (e + d) f.type v).run P w = .ok () w) := by
      intro l
      induction l with
      | nil => intro _ _ _ _ _ f hf;simp at hf
      | cons f l ih =>
       intro off ks hl hx ox g hg
       simp only [leafF] at hl
       split at hl
       ·cases hl
       ·rename_i hno
        have hname : f.name ≠ "_" := fun h => hno (.inl h)
        have hoff : f.offset = off := Classical.byContradiction fun h => hno (.inr h)
        cases hkf : leafK P d f.type with
        | none => simp [hkf] at hl
        | some kf =>
         rw [hkf] at hl
         simp only at hl
         split at hl
         ·rename_i hc
          cases hr : leafF P (leafK P d) l (off + kf.length) with
          | none => simp [hr] at hl
          | some kr =>
           simp only [hr, Option.map_some, Option.some.injEq] at hl
           subst hl
           obtain ⟨x1, x2⟩ := fitsK_append hx
           have lx := fitsK_length x1
           simp only [List.length_take, List.length_drop] at lx
           rw [List.drop_drop] at x2
           rcases List.mem_cons.1 hg with rfl | hg
           ·exact ⟨hname, _, by rw [hoff];exact run_part_mk (w := w) hkf hc (show off + kf.length ≤ xs.length by omega), check_leaf em d g.type kf hkf e w _ x1⟩
           ·exact ih (off + kf.length) kr hr x2 (by omega) g hg
         ·cases hl
     have each := key fs.toList 0 ks hk (by simpa using hx) (Nat.zero_le _)
     generalize fs.toList = L at each
     induction L with
     | nil => simp
     | cons f L ih =>
      obtain ⟨hn, v, p1, p2⟩ := each f (by simp)
      simp only [List.forIn_cons, Sem.run_bind, hn, ne_eq, not_false_eq_true, if_true, Result.andThen_ok, p1, p2, Sem.run_pure]
      exact ih (fun y hy => each y (by simp [hy]))
   | _ => simp at hk
theorem keyLw_leaf {t : TypeId} {ks : List LK} (ht : eqB P t ks = true) {κ : Type} [DecidableEq κ] {ok : κ → Prop} (ec : κ → List Value) (fit : ∀ x, ok x → fitsK ks (ec x) = true) (eq : ∀ x y, ok x → ok y → eqVs (ec x) (ec y) = decide (x = y)) :
  KeyLw P t (fun x : κ => .agg (ec x).toArray) ok := by
 simp only [eqB, Bool.and_eq_true, decide_eq_true_eq, Bool.not_eq_true'] at ht
 obtain ⟨⟨hl, ha⟩, _⟩ := ht
 refine ⟨fun em w x hx => ?_, fun w x m es hx hm he => ?_, fun w x hx => ?_⟩
 ·have := check_leaf em 8 t ks hl 9992 w _ (fit x hx)
  simpa [mkT, ha] using this
 ·have hwide : (match P.underlying t with | some (.array _ _) | some (.struct _) => true | _ => false) = true := by
   unfold isAggT at ha
   cases hu : P.underlying t with
   | none => simp [hu] at ha
   | some dd => cases dd <;> simp [hu] at ha ⊢
  have hfind : (Instr.findKey t (.agg (ec x).toArray) es).run P w = (Instr.findAsking t (.agg (ec x).toArray) es).run P w := by
   cases hu : P.underlying t with
   | none => simp [hu] at hwide
   | some kd =>
    cases es with
    | nil => simp [Instr.findKey, run_underlying hu, Instr.findNow, Instr.findAsking]
    | cons e es => cases kd <;> simp [hu] at hwide <;> simp [Instr.findKey, run_underlying hu, Instr.findNow, Instr.sameNow]
  rw [hfind]
  clear hfind
  have key : ∀ (m : List (κ × Value)) (es : List MapEntry) (i : Nat), (∀ p ∈ m, ok p.1) → es.map (fun e => (e.key, e.val)) = m.map (fun p => (Value.agg (ec p.1).toArray, p.2)) → (Instr.findAsking t (.agg (ec x).toArray) es i).run P w = .ok (findA x m i) w := by
   intro m
   induction m with
   | nil =>
    intro es i _ h
    have : es = [] := by simpa using h
    subst this
    simp [Instr.findAsking, findA]
   | cons p m ih =>
    intro es i hm h
    cases es with
    | nil => simp at h
    | cons e es =>
     simp only [List.map_cons, List.cons.injEq, Prod.mk.injEq] at h
     obtain ⟨⟨h1, h2⟩, h3⟩ := h
     have hp := hm p List.mem_cons_self
     have heq := equal_leaf 8 t ks hl 9992 w _ _ (fit x hx) (fit p.1 hp)
     simp only [mkT, ha, if_true, eq x p.1 hx hp] at heq
     simp only [Instr.findAsking, h1, h2, Op.equal, Op.maxDepth, Sem.run_bind, heq, Result.andThen_ok, findA]
     by_cases hxp : x = p.1
     ·simp [hxp]
     ·simp only [hxp, decide_false, Bool.false_eq_true, if_false]
      exact ih es (i + 1) (fun q hq => hm q (List.mem_cons_of_mem _ hq)) h3
  exact key m es 0 hm he
 ·have : Instr.sameBits 10000 (.agg (ec x).toArray) (.agg (ec x).toArray) = true := by
   have := sameBits_fits (fit x hx) 9999
   simp [Instr.sameBits, this]
  simp [Instr.keyThatStays, this]
end
def MapAt {κ : Type} (kv : κ → Value) (m : List (κ × Value)) (o : Obj) : Prop := ∃ es clock, o = .map es clock ∧ es.toList.map (fun e => (e.key, e.val)) = m.map fun p => (kv p.1, p.2)
theorem MapAt.empty {κ : Type} (kv : κ → Value) : MapAt kv [] (.map #[] 0) := ⟨#[], 0, rfl, rfl⟩
def MapIn {κ : Type} (w : World) (kv : κ → Value) (v : Value) (m : List (κ × Value)) : Prop := ∃ b o, v = .map (some b) ∧ w.heap[b]? = some o ∧ MapAt kv m o
theorem MapIn.later {κ : Type} {W w : World} {kv : κ → Value} {v : Value} {m : List (κ × Value)} (h : MapIn W kv v m) (E : Ext [] W w) : MapIn w kv v m := by
 obtain ⟨b, o, rfl, hb, h⟩ := h
 exact ⟨b, o, rfl, by rw [E.block b (Array.getElem?_eq_some_iff.1 hb).1 (by simp)];exact hb, h⟩
def OwnM {κ : Type} (kv : κ → Value) (v : Value) (m : List (κ × Value)) (ent : List (Nat × Obj)) : Prop := ∃ b o, v = .map (some b) ∧ ent = [(b, o)] ∧ MapAt kv m o
def zeroIs (P : Program) (t : TypeId) (z : Value) : Prop := (P.info? t).bind (·.zero) = some z
theorem run_zeroIs {P : Program} {t : TypeId} {z : Value} {w : World} (h : zeroIs P t z) : (zeroValue t).run P w = .ok z w := by
 unfold zeroIs at h
 cases hi : P.info? t with
 | none => simp [hi] at h
 | some i =>
  simp [hi] at h
  simp [zeroValue, typeInfo, hi, h]
section
variable {P : Program} {ρ : Operand → Value} {w W0 : World} {S : List Nat} {l l' : List (Nat × Obj)} {R : Value → World → Prop} {d : Option Tmp} {ty : TypeId} {pos : String} {af : Array Edge} {g : Option (Nat × Bool)}
variable {κ : Type} [DecidableEq κ] {kv : κ → Value} {ok : κ → Prop}
theorem o_makeMap {t k e : TypeId} {x : Operand} {q : IntKind} {n : Int} [ht : TU P t (.map k e)] (M : Mem S W0 w l) (hx : ρ x = .int q n) (h : ∀ b w', Mem S W0 w' ((b, .map #[] 0) :: l) → R (.map (some b)) w') : OpTo P ⟨d, .makeMap t (some x), ty, pos, af, g⟩ ρ w R :=
 OpTo.val (v := .map (some w.heap.size)) (w' := w.alloc (.map #[] 0)) (by simp [execOp, Instr.makeMap, hx, run_underlying ht.h, asInt, asIntOf, Result.andThen]) (h _ _ (M.alloc _))
theorem o_makeMap0 {t : TypeId} (M : Mem S W0 w l) (h : ∀ b w', Mem S W0 w' ((b, .map #[] 0) :: l) → R (.map (some b)) w') : OpTo P ⟨d, .makeMap t none, ty, pos, af, g⟩ ρ w R :=
 OpTo.val (v := .map (some w.heap.size)) (w' := w.alloc (.map #[] 0)) (by simp [execOp, Instr.makeMap, Result.andThen]) (h _ _ (M.alloc _))
theorem run_lookup {t k e : TypeId} {v z : Value} {m : List (κ × Value)} {c : Bool} (ht : P.underlying t = some (.map k e)) (K : KeyLw P k kv ok) (hz : zeroIs P e z) (hM : MapIn w kv v m) (hm : ∀ p ∈ m, ok p.1) {x : κ} (hx : ok x) :
  (Instr.lookup t v (kv x) c).run P w = .ok (if c then .tuple #[(getA x m).getD z, .bool (getA x m).isSome] else (getA x m).getD z) w := by
 obtain ⟨b, o, rfl, hb, es, clock, rfl, he⟩ := hM
 have hf := K.find w x m es.toList hx hm he
 rw [← findA_get x m 0]
 cases hr : findA x m 0 with
 | none => simp [Instr.lookup, run_underlying ht, MapKept.run_getObj_map hb, K.check es.isEmpty w x hx, hf, hr, run_zeroIs hz, Result.andThen]
 | some q => simp [Instr.lookup, run_underlying ht, MapKept.run_getObj_map hb, K.check es.isEmpty w x hx, hf, hr, Result.andThen]
theorem o_lookup2 {t k e : TypeId} {x y : Operand} {v z : Value} {m : List (κ × Value)} [ht : TU P t (.map k e)] (K : KeyLw P k kv ok) (hz : zeroIs P e z) (hM : MapIn w kv v m) (hm : ∀ p ∈ m, ok p.1) {a : κ} (ha : ok a) (hx : ρ x = v) (hy : ρ y = kv a)
  (h : R (.tuple [(getA a m).getD z, .bool (getA a m).isSome].toArray) w) : OpTo P ⟨d, .lookup t x y true, ty, pos, af, g⟩ ρ w R :=
 OpTo.val (v := .tuple [(getA a m).getD z, .bool (getA a m).isSome].toArray) (w' := w) (by simp [execOp, hx, hy, run_lookup (c := true) ht.h K hz hM hm ha]) h
theorem o_lookup1 {t k e : TypeId} {x y : Operand} {v z : Value} {m : List (κ × Value)} [ht : TU P t (.map k e)] (K : KeyLw P k kv ok) (hz : zeroIs P e z) (hM : MapIn w kv v m) (hm : ∀ p ∈ m, ok p.1) {a : κ} (ha : ok a) (hx : ρ x = v) (hy : ρ y = kv a)
  (h : R ((getA a m).getD z) w) : OpTo P ⟨d, .lookup t x y false, ty, pos, af, g⟩ ρ w R :=
 OpTo.val (v := (getA a m).getD z) (w' := w) (by simp [execOp, hx, hy, run_lookup (c := false) ht.h K hz hM hm ha]) h
theorem run_mapUpdate {t k e : TypeId} {b : Nat} {o : Obj} {u : Value} {m : List (κ × Value)} (ht : P.underlying t = some (.map k e)) (K : KeyLw P k kv ok) (hb : w.heap[b]? = some o) (hA : MapAt kv m o) (hm : ∀ p ∈ m, ok p.1) {x : κ} (hx : ok x) :
  ∃ o', MapAt kv (putA x u m) o' ∧ (Instr.mapUpdate t (.map (some b)) (kv x) u).run P w = .ok () (w.putObj b o') := by
 obtain ⟨es, clock, rfl, he⟩ := hA
 have hf := K.find w x m es.toList hx hm he
 have hlen : es.toList.length = m.length := by simpa using congrArg List.length he
 cases hr : findA x m 0 with
 | none =>
  refine ⟨.map (es.push { key := kv x, val := u, born := clock }) (clock + 1), ⟨_, _, rfl, ?_⟩, ?_⟩
  ·rw [findA_none hr]
   simp [he]
  ·simp [Instr.mapUpdate, run_underlying ht, MapKept.run_getObj_map hb, K.check false w x hx, hf, hr, MapKept.run_setObj_map _ hb, Result.andThen, World.putObj]
 | some q =>
  obtain ⟨j, y⟩ := q
  obtain ⟨i, e1, hi, hp, y', hy⟩ := findA_some (v := u) hr
  rw [Nat.zero_add] at e1
  subst e1
  have hil : j < es.toList.length := by omega
  have hkey : (es[j]?).map (·.key) = some (kv x) := by
   have h2 : (es.toList.map fun e => (e.key, e.val))[j]? = (m.map fun p => (kv p.1, p.2))[j]? := by rw [he]
   rw [List.getElem?_map, List.getElem?_map, hy] at h2
   simp only [Option.map_some, Option.map_eq_some_iff, Prod.mk.injEq, Array.getElem?_toList] at h2
   obtain ⟨e0, h3, h4, _⟩ := h2
   rw [h3, Option.map_some, h4]
  refine ⟨.map (es.modify j fun e => { e with key := kv x, val := u }) clock, ⟨_, _, rfl, ?_⟩, ?_⟩
  ·rw [hp]
   apply List.ext_getElem?
   intro n
   have h2 : (es.toList.map fun e => (e.key, e.val))[n]? = (m.map fun p => (kv p.1, p.2))[n]? := by rw [he]
   rw [List.getElem?_map, List.getElem?_map] at h2
   rw [List.getElem?_map, List.getElem?_map, Array.toList_modify, List.getElem?_modify, List.getElem?_set]
   split
   ·rename_i h3
    subst h3
    rw [List.getElem?_eq_getElem hil]
    rfl
   ·simpa using h2
  ·simp [Instr.mapUpdate, run_underlying ht, MapKept.run_getObj_map hb, K.check false w x hx, hf, hr, hkey, K.stays w x hx, MapKept.run_setObj_map _ hb, Result.andThen, World.putObj]
omit [DecidableEq κ] in
theorem OwnM.at_ {v : Value} {m : List (κ × Value)} {ent : List (Nat × Obj)} (h : OwnM kv v m ent) (hb : ∀ p ∈ ent, w.heap[p.1]? = some p.2) : MapIn w kv v m := by
 obtain ⟨b, o, rfl, rfl, hA⟩ := h
 exact ⟨b, o, rfl, hb (b, o) (by simp), hA⟩
end
end Go.Proofs.YtfhkmgcalcfibaaGreat
namespace Go.Proofs.YtfhkmgcalcfibaaGreat
open Go.RowKit Go.Sort Go.Shelf
theorem ext_grow {w w' : World} (h : Ext [] w w') : ∃ q os', w' = grow (w.drewN q) os' := by
 refine ⟨w'.drawn - w.drawn, w'.heap.extract w.heap.size w'.heap.size, ?_⟩
 obtain ⟨hp, tp, dr, os, ou⟩ := w'
 obtain ⟨h1, h2, h3, h4, h5, h6⟩ := h
 simp only at h1 h2 h3 h4 h5 h6
 subst h1 h2 h3
 simp only [grow, World.drewN]
 congr 1
 ·apply Array.ext'
  apply List.ext_getElem?
  intro i
  simp only [Array.getElem?_toList]
  rcases Nat.lt_or_ge i w.heap.size with h | h
  ·rw [Array.getElem?_append_left h]
   exact h6 i h (by simp)
  ·rw [Array.getElem?_append_right h, Array.getElem?_extract]
   split
   ·rename_i h7
    congr 1
    omega
   ·rename_i h7
    exact Array.getElem?_eq_none (by omega)
 ·omega
theorem encL_get {α : Type} {enc : α → List Value} {k : Nat} (hk : ∀ x, (enc x).length = k) (h0 : 0 < k) : ∀ (ls : List α) (j : Nat), j < ls.length * k → (encL enc ls)[j]? = (ls[j / k]?).bind fun x => (enc x)[j % k]?
 | [], j, h => by simp at h
 | x :: xs, j, h => by
  rw [encL_cons]
  rcases Nat.lt_or_ge j k with hj | hj
  ·rw [List.getElem?_append_left (by rw [hk];exact hj), Nat.div_eq_of_lt hj, Nat.mod_eq_of_lt hj]
   rfl
  ·have e1 : j / k = (j - k) / k + 1 := by
    rw [show j = (j - k) + k by omega, Nat.add_div_right _ h0]
    simp
   have e2 : j % k = (j - k) % k := by
    rw [show j = (j - k) + k by omega, Nat.add_mod_right]
    simp
   rw [List.getElem?_append_right (by rw [hk];exact hj), hk, e1, e2, encL_get hk h0 xs (j - k) (by simp only [List.length_cons, Nat.add_mul] at h;omega)]
   simp
theorem flat_enc {α : Type} [Inhabited α] {enc : α → List Value} {k : Nat} (hk : ∀ x, (enc x).length = k) (h0 : 0 < k) (d : Array α) : (flatK enc k d).toList = encL enc d.toList := by
 have hl : (encL enc d.toList).length = d.size * k := by rw [encL_len (fun x _ => hk x)];simp
 apply List.ext_getElem?
 intro j
 rcases Nat.lt_or_ge j (d.size * k) with h | h
 ·have hd : j / k < d.size := Nat.div_lt_of_lt_mul (by rwa [Nat.mul_comm] at h)
  have hm : j % k < k := Nat.mod_lt _ h0
  rw [encL_get hk h0 _ _ (by simpa using h)]
  simp only [flatK, Array.toList_map, Array.toList_range]
  rw [List.getElem?_map, List.getElem?_range h]
  simp only [Option.map_some, Array.getElem?_toList]
  rw [Array.getElem?_eq_getElem hd]
  simp only [Option.bind_some]
  rw [getElem!_pos d (j / k) hd, getElem!_pos (enc d[j / k]) (j % k) (by rw [hk];exact hm), List.getElem?_eq_getElem (by rw [hk];exact hm)]
 ·rw [List.getElem?_eq_none (by simpa using h), List.getElem?_eq_none (by omega)]
section
variable {α : Type} [Inhabited α] {P : Program} {ρ : Ren} {enc : α → List Value} {k : Nat}
end
end Go.Proofs.YtfhkmgcalcfibaaGreat
namespace Go.Proofs.YtfhkmgcalcfibaaGreat
open Go.RowKit
def Chg (w : World) (k : Nat) : Prop := ∃ cs t, w.heap[k]? = some (.cells cs t (0, 0)) ∧ 20 < cs.size
structure BigE (n0 : Nat) (w w' : World) : Prop where
 os : w'.os = w.os
 tape : w'.tape = w.tape
 output : w'.output = w.output
 size : w.heap.size ≤ w'.heap.size
 dr : w.drawn ≤ w'.drawn
 block : ∀ k, k < w.heap.size → (k < n0 ∨ ¬ Chg w k) → w'.heap[k]? = w.heap[k]?
theorem BigE.of_ext {n0 : Nat} {w w' : World} (h : Ext [] w w') : BigE n0 w w' := ⟨h.os, h.tape, h.output, h.size, h.dr, fun k hk _ => h.block k hk (by simp)⟩
theorem BigE.trans {n0 : Nat} {a b c : World} (h : BigE n0 a b) (k : BigE n0 b c) : BigE n0 a c :=
 ⟨k.os.trans h.os, k.tape.trans h.tape, k.output.trans h.output, Nat.le_trans h.size k.size, Nat.le_trans h.dr k.dr, fun i hi hc => by
  have h1 := h.block i hi hc
  rw [k.block i (Nat.lt_of_lt_of_le hi h.size) (hc.imp_right fun hn hx => hn (by
   obtain ⟨cs, t, e, hs⟩ := hx
   exact ⟨cs, t, by rw [← h1];exact e, hs⟩)), h1]⟩
theorem BigE.ext {w w' : World} (h : BigE w.heap.size w w') : Ext [] w w' := ⟨h.os, h.tape, h.output, h.size, h.dr, fun k hk _ => h.block k hk (.inl hk)⟩
section
variable {P : Program} {ρ : Operand → Value} {w W0 : World} {S : List Nat} {l l' : List (Nat × Obj)} {R : Value → World → Prop} {d : Option Tmp} {ty : TypeId} {pos : String} {af : Array Edge} {g : Option (Nat × Bool)}
theorem run_appendG {st xt e tyy : TypeId} {sz by_ n m cap : Nat} {base : Option Addr} {xv : Value} {xs ys : List Value} (hst : P.underlying st = some (.slice e)) (hel : elB P e sz by_ = true) (hxt : notInt P xt = true)
  (hV : SrcOf P w (.slice base n cap) n sz xs) (hX : SrcOf P w xv m sz ys) (hgt : cap < n + m) (hnc' : n ≤ cap) (hbd : (n + m) * by_ ≤ 140737488355328) (hln : n + m ≤ 9223372036854775807) :
  ∃ v' w' ent', (Builtin.append_ #[st, xt] tyy #[.slice base n cap, xv]).run P w = .ok v' w' ∧ OwnS e sz v' (n + m) (xs ++ ys) ent' ∧ Mem [] w w' ent' := by
 obtain ⟨i, z, hi, rfl, rfl, hz, hzs⟩ := elB_spec hel
 have hdx := notInt_spec hxt
 have h48 : ¬ (281474976710656 < Builtin.nextslicecap (n + m) cap * i.bytes) := by
  have := growslice_fits (need := n + m) (old := cap) (bytes := i.bytes) (by omega) hbd
  omega
 have hnc : n + m ≤ grownCap w (n + m) cap e := grownCap_ge w _ _ _
 have hrun := run_append_grow' (tyy := tyy) (w := w) hst hi hz hdx hX.len (by omega) hln h48 (hV.cells (w.drawn + 1)) (hX.cells (w.drawn + 1))
 have e1 : (xs.toArray ++ ys.toArray ++ Builtin.zeroCells z.cells (grownCap w (n + m) cap e - (n + m))) = (xs ++ ys ++ (Builtin.zeroCells z.cells (grownCap w (n + m) cap e - (n + m))).toList).toArray := by
  apply Array.ext';rw [Array.toList_append, Array.toList_append]
 rw [e1] at hrun
 exact ⟨_, _, [(w.heap.size, .cells (xs ++ ys ++ (Builtin.zeroCells z.cells (grownCap w (n + m) cap e - (n + m))).toList).toArray e (0, 0))], hrun, .inr ⟨w.heap.size, grownCap w (n + m) cap e, (Builtin.zeroCells z.cells (grownCap w (n + m) cap e - (n + m))).toList, rfl, rfl, by rw [List.length_append, hV.size, hX.size, Nat.add_mul], by rw [Array.length_toList, size_zeroCells, hzs], hnc⟩, ((Mem.start [] w).later (Ext.drawn w (w.drawn + 1) (Nat.le_succ _))).alloc _⟩
end
section
variable {P : Program} {ρ : Operand → Value} {w W0 : World} {S : List Nat} {l l' : List (Nat × Obj)} {R : Value → World → Prop} {d : Option Tmp} {ty : TypeId} {pos : String} {af : Array Edge} {g : Option (Nat × Bool)}
theorem o_eqlNil {t t' e : TypeId} {x y : Operand} {p : Option Addr} {n c : Nat} (hx : ρ x = .slice p n c) (hy : ρ y = .slice none 0 0) [ht : TU P t (.slice e)] (h : R (.bool p.isNone) w) : OpTo P ⟨d, .binOp .eql t x y t', ty, pos, af, g⟩ ρ w R := by
 have hr0 : ∀ k : Nat, (Op.equalIn (k + 1) t (.slice p n c) (.slice none 0 0)).run P w = .ok p.isNone w := fun k => by
  cases p <;> simp [Op.equalIn, run_underlying ht.h]
 have hr := hr0 9999
 exact OpTo.val (v := .bool p.isNone) (w' := w) (by simp [execOp, eqGuard, binOp, Op.equal, Op.maxDepth, hx, hy, hr]) h
theorem o_append0 {st xt e : TypeId} {x y : Operand} {sz by_ b n cap : Nat} {xv : Value} [hst : TU P st (.slice e)] [hel : TEl P e sz by_] [hxt : TNI P xt] (hx : ρ x = .slice (some ⟨b, 0, none⟩) n cap) (hy : ρ y = xv) (hnc : n ≤ cap) (hX : SrcOf P w xv 0 sz [])
  (h : R (.slice (some ⟨b, 0, none⟩) n cap) w) : OpTo P ⟨d, .call ⟨.builtin .append, #[x, y], #[st, xt]⟩, ty, pos, af, g⟩ ρ w R := by
 obtain ⟨i, z, hi, rfl, rfl, hz, hzs⟩ := elB_spec hel.h
 have hrun := run_append_room' (tyy := ty) (b := b) (n := n) (cap := cap) (w' := w) hst.h hi (notInt_spec hxt.h) hX.len (by omega) (hX.cells w.drawn) (by simp [storeCells])
 exact OpTo.val (v := .slice (some ⟨b, 0, none⟩) (n + 0) cap) (w' := w) (by simp [execOp, resolve, invoke, builtin, hx, hy, hrun]) h
end
theorem b_split {a : Act} {n : Nat} {df : List Deferred} {fr : List (Nat × Value)} {b : Bool} {p : Prop} (F : Frm a n df fr) (t : Nat) (h : look fr t = some (.bool b)) (ht : b = true → p) (hf : b = false → p) : p := by
 cases b
 ·exact hf rfl
 ·exact ht rfl
theorem ne_of_bne {x y : Int} (h : (x != y) = true) : x ≠ y := bne_iff_ne.1 h
theorem eq_of_bne_false {x y : Int} (h : (x != y) = false) : x = y := by simpa using h
theorem false_of_not {b : Bool} (h : (!b) = true) : b = false := by cases b <;> simp_all
theorem true_of_not {b : Bool} (h : (!b) = false) : b = true := by cases b <;> simp_all
section
variable {P : Program} {ρ : Operand → Value} {w W0 : World} {S : List Nat} {l l' : List (Nat × Obj)} {R : Value → World → Prop} {d : Option Tmp} {ty : TypeId} {pos : String} {af : Array Edge} {g : Option (Nat × Bool)}
theorem o_append1 {α : Type} {enc : α → List Value} {out : List α} {x0 : α} {st xt e : TypeId} {x y : Operand} {sz by_ : Nat} {v xv : Value} {ent : List (Nat × Obj)} {f : List (Nat × Obj) → List (Nat × Obj)} [hst : TU P st (.slice e)] [hel : TEl P e sz by_] [hxt : TNI P xt] (hO : OwnS e sz v out.length (encL enc out) ent) (M : Mem S W0 w l) (hl : TailAt ent l f)
  (hx : ρ x = v) (hy : ρ y = xv) (hX : SrcOf P w xv 1 sz (enc x0)) (hbd : (out.length + 1) * by_ ≤ 140737488355328)
  (h : ∀ v' ent' w', OwnS e sz v' (out ++ [x0]).length (encL enc (out ++ [x0])) ent' → Mem S W0 w' (f ent') → R v' w') (hln : out.length + 1 ≤ 9223372036854775807 := by first | omega | (simp only [List.length_append, List.length_singleton];omega)) : OpTo P ⟨d, .call ⟨.builtin .append, #[x, y], #[st, xt]⟩, ty, pos, af, g⟩ ρ w R := by
 refine o_append hO M hl hx hy hX hbd hln fun v' ent' w' hO' M' => h v' ent' w' ?_ M'
 rw [encL_app, encL_one, List.length_append, List.length_singleton]
 exact hO'
theorem o_eqlAE {t t' : TypeId} {x y : Operand} {ks : List LK} {xs ys : List Value} {b : Bool} [ht : TEq P t ks] (hx : ρ x = .agg xs.toArray) (hy : ρ y = .agg ys.toArray) (fx : fitsK ks xs = true) (fy : fitsK ks ys = true) (he : eqVs xs ys = b) (h : R (.bool b) w) : OpTo P ⟨d, .binOp .eql t x y t', ty, pos, af, g⟩ ρ w R := o_eqlA hx hy fx fy (by rw [he];exact h)
theorem o_neqAE {t t' : TypeId} {x y : Operand} {ks : List LK} {xs ys : List Value} {b : Bool} [ht : TEq P t ks] (hx : ρ x = .agg xs.toArray) (hy : ρ y = .agg ys.toArray) (fx : fitsK ks xs = true) (fy : fitsK ks ys = true) (he : eqVs xs ys = b) (h : R (.bool !b) w) : OpTo P ⟨d, .binOp .neq t x y t', ty, pos, af, g⟩ ρ w R := o_neqA hx hy fx fy (by rw [he];exact h)
theorem o_lenOwn {x : Operand} {t e e' : TypeId} {v : Value} {sz n : Nat} {xs : List Value} {ent : List (Nat × Obj)} (hx : ρ x = v) (hO : OwnS e' sz v n xs ent) [ht : TU P t (.slice e)] (h : R (.int .i64 n) w) : OpTo P ⟨d, .call ⟨.builtin .len, #[x], #[t]⟩, ty, pos, af, g⟩ ρ w R := by
 obtain ⟨p, c, rfl⟩ := hO.slice
 exact o_lenSl hx h
end
theorem SlAt.memB {W : World} {sz : Nat} {q : Option Addr} {n cap : Nat} {cs : List Value} (h : SlAt W sz (.slice q n cap) n cs) (S : List Nat) (hn : ∀ b o s, q = some ⟨b, o, s⟩ → b ∉ S) : 0 < n → ∃ b o xs t fz, q = some ⟨b, o, none⟩ ∧ (∀ w', Ext S W w' → w'.heap[b]? = some (.cells (List.toArray xs) t fz)) ∧ seg xs o (n * sz) = some cs := by
 obtain ⟨p, cap', e, _, _, _, h5⟩ := h
 cases e
 intro h0
 obtain ⟨b, o, xs, t, fz, rfl, hb, hs⟩ := h5 h0
 refine ⟨b, o, xs, t, fz, rfl, fun w' E => ?_, hs⟩
 rw [E.block b (Array.getElem?_eq_some_iff.1 hb).1 (hn b o none rfl)]
 exact hb
section
variable {α : Type} (c : α → Int) (x : α)
def mergeG : Bool → List α → List α
 | done, [] => if done then [] else [x]
 | done, y :: l => (if decide (0 ≤ c y) && !done then [x] else []) ++ ((if c y = 0 then [] else [y]) ++ mergeG (done || decide (0 ≤ c y)) l)
theorem mergeG_cons {y : α} {l : List α} {done : Bool} : mergeG c x done (y :: l) = (if decide (0 ≤ c y) && !done then [x] else []) ++ ((if c y = 0 then [] else [y]) ++ mergeG c x (done || decide (0 ≤ c y)) l) := by
 conv => lhs;unfold mergeG
theorem mergeG_nil {done : Bool} : mergeG c x done [] = if done then [] else [x] := rfl
theorem mergeG_len : ∀ {done : Bool} {l : List α}, (mergeG c x done l).length ≤ l.length + (if done then 0 else 1)
 | done, [] => by
  rw [mergeG_nil]
  cases done <;> simp
 | done, y :: l => by
  rw [mergeG_cons]
  have := mergeG_len (done := done || decide (0 ≤ c y)) (l := l)
  generalize decide (0 ≤ c y) = g at *
  have h1 : (if c y = 0 then [] else [y]).length ≤ 1 := by split <;> simp
  generalize (if c y = 0 then [] else [y]) = ys at *
  rw [List.length_append, List.length_append, List.length_cons]
  cases done <;> cases g <;> simp at this ⊢ <;> omega
theorem mergeG_is {l : List α} (ha : l.Pairwise fun a b => 0 ≤ c a → 0 < c b) {done : Bool} : mergeG c x done l = l.filter (fun y => decide (c y < 0)) ++ ((if done then [] else [x]) ++ l.filter (fun y => decide (0 < c y))) := by
 induction l generalizing done with
 | nil => rw [mergeG_nil];simp
 | cons y l ih =>
  obtain ⟨h1, h2⟩ := List.pairwise_cons.1 ha
  rw [mergeG_cons, ih h2]
  rcases Int.lt_trichotomy (c y) 0 with hc | hc | hc
  ·rw [dqF (show ¬ 0 ≤ c y by omega), if_neg (show ¬ c y = 0 by omega), List.filter_cons_of_pos (by simpa using hc), List.filter_cons_of_neg (by simp;omega)]
   simp
  ·have hl : l.filter (fun y => decide (c y < 0)) = [] := by
    rw [List.filter_eq_nil_iff]
    intro z hz
    have := h1 z hz (by omega)
    simp
    omega
   rw [dqT (show 0 ≤ c y by omega), if_pos hc, List.filter_cons_of_neg (by simp;omega), List.filter_cons_of_neg (by simp;omega), hl]
   cases done <;> simp
  ·have hl : l.filter (fun y => decide (c y < 0)) = [] := by
    rw [List.filter_eq_nil_iff]
    intro z hz
    have := h1 z hz (by omega)
    simp
    omega
   rw [dqT (show 0 ≤ c y by omega), if_neg (show ¬ c y = 0 by omega), List.filter_cons_of_neg (by simp;omega), List.filter_cons_of_pos (by simpa using hc), hl]
   cases done <;> simp
end
def isSlB (P : Program) (t : TypeId) : Bool := match P.underlying t with | some (.slice _) => true | _ => false
structure Cx where
 P : Program
 r : Option Nat
 n : Nat
 df : List Deferred
 S : List Nat
 W : World
 flds : List (Nat × Nat × Nat)
 slcs : List Nat
 hf : (flds.all fun q => fieldAtB P q.1 q.2.1 q.2.2) = true
 hs : (slcs.all fun t => isSlB P t) = true
inductive KF
 | seq (y : Code)
 | blk (id : Nat)
inductive St
 | code (x : Code)
 | ops (all : Array Oper) (rest : List Oper)
 | ext (e : Exit)
def KQ (c : Cx) (Q : Exit → Act → World → Prop) : List KF → Exit → Act → World → Prop
 | [] => Q
 | .seq y :: ks => Exit.then (Wp c.r c.P y (KQ c Q ks)) (KQ c Q ks)
 | .blk id :: ks => Exit.inBlock id (KQ c Q ks)
def GS (c : Cx) (Q : Exit → Act → World → Prop) (ks : List KF) : St → Act → World → Prop
 | .code x => Wp c.r c.P x (KQ c Q ks)
 | .ops all rest => wpListIn (FW c.r) 0 c.P all (KQ c Q ks) rest
 | .ext e => KQ c Q ks e
abbrev Row := List (List (Nat × Obj))
def G (c : Cx) (Q : Exit → Act → World → Prop) (ks : List KF) (st : St) (fr : List (Nat × Value)) (l : Row) : Prop :=
 ∀ a w, Frm a c.n c.df fr → Mem c.S c.W w l.flatten → GS c Q ks st a w
def fldOf : List (Nat × Nat × Nat) → Nat → Nat → Option Nat
 | [], _, _ => none
 | (s, i, o) :: r, t, j => match Nat.beq s t && Nat.beq i j with
  | true => some o
  | false => fldOf r t j
theorem fldOf_ok {P : Program} : ∀ {l : List (Nat × Nat × Nat)} {t j o : Nat}, (l.all fun q => fieldAtB P q.1 q.2.1 q.2.2) = true → fldOf l t j = some o → fieldAtB P t j o = true
 | [], _, _, _, _, h => by simp [fldOf] at h
 | (s, i, q) :: r, t, j, o, ha, h => by
  simp only [List.all_cons, Bool.and_eq_true] at ha
  unfold fldOf at h
  split at h
  ·rename_i hb
   simp only [Bool.and_eq_true] at hb
   obtain rfl := Nat.eq_of_beq_eq_true hb.1
   obtain rfl := Nat.eq_of_beq_eq_true hb.2
   cases h
   exact ha.1
  ·exact fldOf_ok ha.2 h
def memN : List Nat → Nat → Bool
 | [], _ => false
 | s :: r, t => match Nat.beq s t with
  | true => true
  | false => memN r t
theorem memN_ok : ∀ {l : List Nat} {t : Nat}, memN l t = true → t ∈ l
 | [], _, h => by simp [memN] at h
 | s :: r, t, h => by
  unfold memN at h
  split at h
  ·rename_i hb
   simp [Nat.eq_of_beq_eq_true hb]
  ·exact List.mem_cons_of_mem _ (memN_ok h)
def kEq : IntKind → IntKind → Bool
 | .i8, .i8 | .i16, .i16 | .i32, .i32 | .i64, .i64 | .u8, .u8 | .u16, .u16 | .u32, .u32 | .u64, .u64 => true
 | _, _ => false
theorem kEq_ok {a b : IntKind} (h : kEq a b = true) : a = b := by
 cases a <;> cases b <;> first | rfl | cases h
def cmpOp : BinOp → Int → Int → Option Bool
 | .lss, m, n => some (decide (m < n))
 | .leq, m, n => some (decide (m ≤ n))
 | .gtr, m, n => some (decide (n < m))
 | .geq, m, n => some (decide (n ≤ m))
 | .eql, m, n => some (m == n)
 | .neq, m, n => some (m != n)
 | _, _, _ => none
def evCmp (b : BinOp) : Value → Value → Option Value
 | .int k m, .int k' n => match kEq k k' with
  | true => match cmpOp b m n with
   | some v => some (.bool v)
   | none => none
  | false => none
 | _, _ => none
def evO (c : Cx) (fr : List (Nat × Value)) : Op → Option Value
 | .move x => Ev fr x
 | .assign x => Ev fr x
 | .extract x i => match Ev fr x with
  | some (.tuple vs) => nth vs.toList i
  | _ => none
 | .fieldAddr s x i => match Ev fr x with
  | some (.pointer (some ⟨b, o, none⟩)) => match fldOf c.flds s i with
   | some off => some (.pointer (some ⟨b, o + off, none⟩))
   | none => none
  | _ => none
 | .unOp .not _ x => match Ev fr x with
  | some (.bool b) => some (.bool (!b))
  | _ => none
 | .binOp b _ x y _ => match Ev fr x with
  | some v => match Ev fr y with
   | some u => evCmp b v u
   | none => none
  | none => none
 | .pick q x y => match Ev fr q with
  | some (.bool true) => match Ev fr y with
   | some _ => Ev fr x
   | none => none
  | some (.bool false) => match Ev fr x with
   | some _ => Ev fr y
   | none => none
  | _ => none
 | .call q => match q.callee with
  | .builtin .len => match q.args.toList with
   | [x] => match q.argTypes.toList with
    | [t] => match Ev fr x with
     | some (.slice _ n _) => match memN c.slcs t with
      | true => some (.int .i64 n)
      | false => none
     | _ => none
    | _ => none
   | _ => none
  | _ => none
 | _ => none
def gOk (all : Array Oper) (fr : List (Nat × Value)) : Option (Nat × Bool) → Option Bool
 | none => some true
 | some (j, b) => match (all[j]?).bind (·.dst) with
  | some t => match look fr t with
   | some (.bool true) => some b
   | some (.bool false) => some (!b)
   | some (.tuple _) => some false
   | _ => none
  | none => none
def run1 (c : Cx) : List KF → St → List (Nat × Value) → Option (List KF × St × List (Nat × Value))
 | ks, .ops all [], fr => some (ks, .ext .normal, fr)
 | ks, .ops all (o :: rest), fr => match o.dst with
  | some d => match Nat.blt d c.n with
   | true => match gOk all fr o.guard with
    | some true => match evO c fr o.op with
     | some v => some (ks, .ops all rest, (d, v) :: fr)
     | none => none
    | some false => some (ks, .ops all rest, (d, undef) :: fr)
    | none => none
   | false => none
  | none => none
 | ks, .code x, fr => match x with
  | .skip => some (ks, .ext .normal, fr)
  | .region _ ops false => some (ks, .ops ops ops.toList, fr)
  | .seq x y => some (.seq y :: ks, .code x, fr)
  | .block id x => some (.blk id :: ks, .code x, fr)
  | .exit id => some (ks, .ext (.exit id), fr)
  | .ret => some (ks, .ext .ret, fr)
  | .cond o x y => match Ev fr o with
   | some (.bool true) => some (ks, .code x, fr)
   | some (.bool false) => some (ks, .code y, fr)
   | _ => none
  | _ => none
 | .seq y :: ks, .ext e, fr => match e with
  | .normal => some (ks, .code y, fr)
  | .exit id => some (ks, .ext (.exit id), fr)
  | .ret => some (ks, .ext .ret, fr)
  | _ => none
 | .blk id :: ks, .ext e, fr => match e with
  | .normal => some (ks, .ext .normal, fr)
  | .exit id' => match Nat.beq id' id with
   | true => some (ks, .ext .normal, fr)
   | false => some (ks, .ext (.exit id'), fr)
  | .ret => some (ks, .ext .ret, fr)
  | _ => none
 | [], .ext _, _ => none
def runN (c : Cx) : Nat → List KF → St → List (Nat × Value) → List KF × St × List (Nat × Value)
 | 0, ks, st, fr => (ks, st, fr)
 | k + 1, ks, st, fr => match run1 c ks st fr with
  | some (ks', st', fr') => runN c k ks' st' fr'
  | none => (ks, st, fr)
theorem evCmp_ok {P : Program} {b : BinOp} {t t' : TypeId} {x y : Operand} {ρ : Operand → Value} {w : World} {R : Value → World → Prop} {d : Option Tmp} {ty : TypeId} {pos : String} {af : Array Edge} {g : Option (Nat × Bool)} {v : Value}
  (h : evCmp b (ρ x) (ρ y) = some v) (hR : R v w) : OpTo P ⟨d, .binOp b t x y t', ty, pos, af, g⟩ ρ w R := by
 unfold evCmp at h
 split at h
 ·rename_i k m k' n hx hy
  split at h
  ·rename_i hk
   obtain rfl := kEq_ok hk
   split at h
   ·rename_i q hq
    cases h
    cases b <;> simp only [cmpOp, Option.some.injEq] at hq <;> first | cases hq | subst hq
    all_goals first | exact o_lss hx hy hR | exact o_leq hx hy hR | exact o_gtr hx hy hR | exact o_geq hx hy hR | exact o_eql hx hy hR | exact o_neq hx hy hR
   ·cases h
  ·cases h
 ·cases h
theorem evO_ok {c : Cx} {fr : List (Nat × Value)} {op : Op} {v : Value} {a : Act} {n : Nat} {df : List Deferred} {w : World} {R : Value → World → Prop} {d : Option Tmp} {ty : TypeId} {pos : String} {af : Array Edge} {g : Option (Nat × Bool)}
  (F : Frm a n df fr) (h : evO c fr op = some v) (hR : R v w) : OpTo c.P ⟨d, op, ty, pos, af, g⟩ a.eval w R := by
 unfold evO at h
 split at h
 ·exact o_move (F.e h) hR
 ·exact o_assign (F.e h) hR
 ·split at h
  ·rename_i vs hx
   exact o_extract (vs := vs.toList) (by simpa using F.e hx) h hR
  ·cases h
 ·split at h
  ·rename_i b o hx
   split at h
   ·rename_i off hf
    cases h
    haveI : TFld c.P _ _ off := ⟨fldOf_ok c.hf hf⟩
    exact o_fieldAddr (F.e hx) hR
   ·cases h
  ·cases h
 ·split at h
  ·rename_i b hx
   cases h
   exact o_not (F.e hx) hR
  ·cases h
 ·split at h
  ·rename_i v1 hx
   split at h
   ·rename_i v2 hy
    rw [← F.e hx, ← F.e hy] at h
    exact evCmp_ok h hR
   ·cases h
  ·cases h
 ·split at h
  ·rename_i hq
   split at h
   ·rename_i u hy
    exact o_pick (F.e hq) (F.e h) (F.e hy) (by simpa using hR)
   ·cases h
  ·rename_i hq
   split at h
   ·rename_i u hx
    exact o_pick (F.e hq) (F.e hx) (F.e h) (by simpa using hR)
   ·cases h
  ·cases h
 ·rename_i q
  obtain ⟨callee, args, tys⟩ := q
  split at h
  ·rename_i hc
   split at h
   ·rename_i x hx1
    split at h
    ·rename_i t ht1
     split at h
     ·rename_i p k q hx
      split at h
      ·rename_i hm
       cases h
       dsimp only at hc hx1 ht1
       subst hc
       obtain rfl : args = #[x] := by cases args;simp_all
       obtain rfl : tys = #[t] := by cases tys;simp_all
       have h1 := List.all_eq_true.1 c.hs _ (memN_ok hm)
       unfold isSlB at h1
       split at h1
       ·rename_i e he
        haveI : TU c.P _ (.slice e) := ⟨he⟩
        exact o_lenSl (F.e hx) hR
       ·cases h1
      ·cases h
     ·cases h
    ·cases h
   ·cases h
  ·cases h
 ·cases h
theorem evO_plain {c : Cx} {fr : List (Nat × Value)} {op : Op} {v : Value} (h : evO c fr op = some v) : plainOp op = true := by
 cases op <;> first | rfl | (simp [evO] at h)
section
variable {c : Cx} {Q : Exit → Act → World → Prop} {ks ks' : List KF} {st st' : St} {fr fr' : List (Nat × Value)} {l : Row}
theorem gOk_true {all : Array Oper} {g : Option (Nat × Bool)} (h : gOk all fr g = some true) : g = none ∨ ∃ j b t, g = some (j, b) ∧ (all[j]?).bind (·.dst) = some t ∧ look fr t = some (.bool b) := by
 unfold gOk at h
 split at h
 ·exact .inl rfl
 ·rename_i j b
  split at h
  ·rename_i t ht
   split at h
   ·rename_i hl
    cases h
    exact .inr ⟨j, true, t, rfl, ht, hl⟩
   ·rename_i hl
    have : b = false := by cases b <;> simp_all
    subst this
    exact .inr ⟨j, false, t, rfl, ht, hl⟩
   ·cases h
   ·cases h
  ·cases h
theorem gOk_false {all : Array Oper} {g : Option (Nat × Bool)} (h : gOk all fr g = some false) : ∃ j b t v, g = some (j, b) ∧ (all[j]?).bind (·.dst) = some t ∧ look fr t = some v ∧ offGuard b v = true := by
 unfold gOk at h
 split at h
 ·cases h
 ·rename_i j b
  split at h
  ·rename_i t ht
   split at h
   ·rename_i hl
    cases h
    exact ⟨j, false, t, _, rfl, ht, hl, rfl⟩
   ·rename_i hl
    have : b = true := by cases b <;> simp_all
    subst this
    exact ⟨j, true, t, _, rfl, ht, hl, rfl⟩
   ·rename_i vs hl
    exact ⟨j, b, t, _, rfl, ht, hl, rfl⟩
   ·cases h
  ·cases h
theorem g_op {all : Array Oper} {d : Nat} {op : Op} {ty : TypeId} {pos : String} {af : Array Edge} {g : Option (Nat × Bool)} {rest : List Oper} (hp : plainOp op = true) (hd : Nat.blt d c.n = true) (hg : gOk all fr g = some true)
  (h : ∀ a w, Frm a c.n c.df fr → Mem c.S c.W w l.flatten → OpTo c.P ⟨some d, op, ty, pos, af, g⟩ a.eval w fun v w' => ∀ a', Frm a' c.n c.df ((d, v) :: fr) → GS c Q ks (.ops all rest) a' w') :
  G c Q ks (.ops all (⟨some d, op, ty, pos, af, g⟩ :: rest)) fr l := fun a w F M => by
 rcases gOk_true hg with rfl | ⟨j, b, t, rfl, ht, hl⟩
 ·exact stepD hp F hd (h a w F M)
 ·exact stepG hp F hd ht hl (h a w F M)
theorem run1_ok (h : run1 c ks st fr = some (ks', st', fr')) (hk : G c Q ks' st' fr' l) : G c Q ks st fr l := by
 unfold run1 at h
 split at h
 ·rename_i all
  cases h
  exact fun a w F M => (l_nil (hk a w F M) : wpListIn (FW c.r) 0 c.P all (KQ c Q ks) [] a w)
 ·rename_i all o rest
  obtain ⟨dst, op, ty, pos, af, g⟩ := o
  cases dst with
  | none => cases h
  | some d =>
   simp only at h
   split at h
   ·rename_i hd
    split at h
    ·rename_i hg
     split at h
     ·rename_i v hv
      cases h
      exact g_op (evO_plain hv) hd hg fun a w F M => evO_ok F hv fun a' F' => hk a' w F' M
     ·cases h
    ·rename_i hg
     cases h
     obtain ⟨j, b, t, v, rfl, ht, hl, ho⟩ := gOk_false hg
     exact fun a w F M => stepOff F hd ht hl ho fun a' F' => hk a' w F' M
    ·cases h
   ·cases h
 ·split at h
  ·cases h
   exact fun a w F M => c_skip (hk a w F M)
  ·rename_i id ops
   cases h
   intro a w F M
   have := c_region (id := id) (hk a w F M)
   simpa [GS] using this
  ·cases h
   exact fun a w F M => c_seq (hk a w F M)
  ·cases h
   exact fun a w F M => c_block (hk a w F M)
  ·cases h
   exact fun a w F M => c_exit (hk a w F M)
  ·cases h
   exact fun a w F M => c_ret (hk a w F M)
  ·split at h
   ·rename_i ho
    cases h
    exact fun a w F M => c_true F ho rfl (hk a w F M)
   ·rename_i ho
    cases h
    exact fun a w F M => c_false F ho rfl (hk a w F M)
   ·cases h
  ·cases h
 ·split at h
  ·cases h
   exact fun a w F M => hk a w F M
  ·cases h
   exact fun a w F M => hk a w F M
  ·cases h
   exact fun a w F M => hk a w F M
  ·cases h
 ·split at h
  ·cases h
   exact fun a w F M => hk a w F M
  ·split at h
   ·rename_i hb
    cases h
    obtain rfl := Nat.eq_of_beq_eq_true hb
    exact fun a w F M => q_inBX (hk a w F M)
   ·rename_i hb
    cases h
    exact fun a w F M => q_inBY hb (hk a w F M)
  ·cases h
   exact fun a w F M => hk a w F M
  ·cases h
 ·cases h
theorem runN_ok : ∀ (k : Nat) {ks ks' : List KF} {st st' : St} {fr fr' : List (Nat × Value)}, runN c k ks st fr = (ks', st', fr') → G c Q ks' st' fr' l → G c Q ks st fr l
 | 0, _, _, _, _, _, _, h, hk => by
  cases h
  exact hk
 | k + 1, ks, ks', st, st', fr, fr', h, hk => by
  unfold runN at h
  split at h
  ·rename_i h1
   exact run1_ok h1 (runN_ok k h hk)
  ·cases h
   exact hk
theorem gR (k : Nat) (h : runN c k ks st fr = (ks', st', fr')) (hk : G c Q ks' st' fr' l) : G c Q ks st fr l := runN_ok k h hk
end
theorem bneF {x y : Int} (h : x = y) : (x != y) = false := by simp [h]
theorem notT {b : Bool} (h : b = false) : (!b) = true := by simp [h]
theorem notF {b : Bool} (h : b = true) : (!b) = false := by simp [h]
def nthO {α : Type} : List α → Nat → Option α
 | [], _ => none
 | x :: _, 0 => some x
 | _ :: r, i + 1 => nthO r i
theorem nthO_sub : ∀ {l : Row} {i : Nat} {e : List (Nat × Obj)}, nthO l i = some e → ∀ x ∈ e, x ∈ l.flatten
 | [], _, _, h => by simp [nthO] at h
 | y :: _, 0, x, h => by
  simp only [nthO, Option.some.injEq] at h
  intro z hz
  simp [h, hz]
 | _ :: r, i + 1, x, h => fun z hz => List.mem_append_right _ (nthO_sub (l := r) h z hz)
theorem nthO_mem {l : Row} {i : Nat} {x : Nat × Obj} (h : nthO l i = some [x]) : x ∈ l.flatten := nthO_sub h x (by simp)
def setO : Row → Nat → List (Nat × Obj) → Option Row
 | [], _, _ => none
 | _ :: r, 0, o => some (o :: r)
 | p :: r, i + 1, o => match setO r i o with
  | some q => some (p :: q)
  | none => none
theorem subO {l l' : Row} (h : l.Sublist l') : l.flatten.Sublist l'.flatten := by
 induction h with
 | slnil => exact .refl _
 | cons x h ih => exact ih.trans (List.sublist_append_right _ _)
 | cons_cons x h ih => exact List.Sublist.append (.refl _) ih
theorem setO_upd : ∀ {l l' : Row} {i b : Nat} {o o' : Obj}, nthO l i = some [(b, o)] → setO l i [(b, o')] = some l' → Upd l.flatten b o o' l'.flatten
 | [], _, _, _, _, _, h, _ => by simp [nthO] at h
 | p :: r, l', 0, b, o, o', h, k => by
  simp only [nthO, Option.some.injEq] at h
  simp only [setO, Option.some.injEq] at k
  subst h
  subst k
  exact .here
 | p :: r, l', i + 1, b, o, o', h, k => by
  simp only [nthO] at h
  simp only [setO] at k
  split at k
  ·rename_i q hq
   cases k
   exact (setO_upd h hq).append _
  ·cases k
theorem nthO_perm : ∀ {l l' : Row} {i : Nat} {e e' : List (Nat × Obj)}, nthO l i = some e → setO l i e' = some l' → ∃ r, l.flatten.Perm (e ++ r) ∧ l'.flatten.Perm (e' ++ r)
 | [], _, _, _, _, h, _ => by simp [nthO] at h
 | p :: r, l', 0, e, e', h, k => by
  simp only [nthO, Option.some.injEq] at h
  simp only [setO, Option.some.injEq] at k
  subst h
  subst k
  exact ⟨r.flatten, .refl _, .refl _⟩
 | p :: r, l', i + 1, e, e', h, k => by
  simp only [nthO] at h
  simp only [setO] at k
  split at k
  ·rename_i q hq
   cases k
   obtain ⟨s, h1, h2⟩ := nthO_perm h hq
   refine ⟨p ++ s, ?_, ?_⟩
   ·refine (List.Perm.append_left p h1).trans ?_
    rw [← List.append_assoc, ← List.append_assoc]
    exact List.Perm.append_right _ List.perm_append_comm
   ·refine (List.Perm.append_left p h2).trans ?_
    rw [← List.append_assoc, ← List.append_assoc]
    exact List.Perm.append_right _ List.perm_append_comm
  ·cases k
theorem OwnS.nilL {α : Type} (enc : α → List Value) (e : TypeId) (sz : Nat) : OwnS e sz (.slice none 0 0) ([] : List α).length (encL enc []) [] := OwnS.nil _ _
section
variable {c : Cx} {Q : Exit → Act → World → Prop} {ks : List KF} {fr : List (Nat × Value)} {l l' : Row} {all : Array Oper} {rest : List Oper} {d : Nat} {ty : TypeId} {pos : String} {af : Array Edge} {g : Option (Nat × Bool)}
theorem g_v {op : Op} {v : Value} (h : ∀ a w, Frm a c.n c.df fr → Mem c.S c.W w l.flatten → ∀ R : Value → World → Prop, R v w → OpTo c.P ⟨some d, op, ty, pos, af, g⟩ a.eval w R)
  (k : G c Q ks (.ops all rest) ((d, v) :: fr) l) (hp : plainOp op = true := by rfl) (hd : Nat.blt d c.n = true := by rfl) (hg : gOk all fr g = some true := by rfl) : G c Q ks (.ops all (⟨some d, op, ty, pos, af, g⟩ :: rest)) fr l :=
 g_op hp hd hg fun a w F M => h a w F M _ fun a' F' => k a' w F' M
section arith
variable {t t' : TypeId} {x y : Operand} {k : IntKind} {m n s : Int}
theorem g_add (hx : Ev fr x = some (.int k m)) (hy : Ev fr y = some (.int k n)) (hs : k.wrap (m + n) = s) (hk : G c Q ks (.ops all rest) ((d, .int k s) :: fr) l) (hd : Nat.blt d c.n = true := by rfl) (hg : gOk all fr g = some true := by rfl) :
  G c Q ks (.ops all (⟨some d, .binOp .add t x y t', ty, pos, af, g⟩ :: rest)) fr l := g_v (fun a w F M R r => o_add (F.e hx) (F.e hy) hs r) hk rfl hd hg
theorem g_sub (hx : Ev fr x = some (.int k m)) (hy : Ev fr y = some (.int k n)) (hs : k.wrap (m - n) = s) (hk : G c Q ks (.ops all rest) ((d, .int k s) :: fr) l) (hd : Nat.blt d c.n = true := by rfl) (hg : gOk all fr g = some true := by rfl) :
  G c Q ks (.ops all (⟨some d, .binOp .sub t x y t', ty, pos, af, g⟩ :: rest)) fr l := g_v (fun a w F M R r => o_sub (F.e hx) (F.e hy) hs r) hk rfl hd hg
theorem g_mul (hx : Ev fr x = some (.int k m)) (hy : Ev fr y = some (.int k n)) (hs : k.wrap (m * n) = s) (hk : G c Q ks (.ops all rest) ((d, .int k s) :: fr) l) (hd : Nat.blt d c.n = true := by rfl) (hg : gOk all fr g = some true := by rfl) :
  G c Q ks (.ops all (⟨some d, .binOp .mul t x y t', ty, pos, af, g⟩ :: rest)) fr l := g_v (fun a w F M R r => o_mul (F.e hx) (F.e hy) hs r) hk rfl hd hg
theorem g_conv {t1 t2 : TypeId} {ds : TypeDesc} {k' : IntKind} (hx : Ev fr x = some (.int k m)) [hs : TU c.P t1 ds] [ht : TU c.P t2 (.int k')] (hm : k'.wrap m = n) (hk : G c Q ks (.ops all rest) ((d, .int k' n) :: fr) l) (hd : Nat.blt d c.n = true := by rfl) (hg : gOk all fr g = some true := by rfl) :
  G c Q ks (.ops all (⟨some d, .convert t1 t2 x, ty, pos, af, g⟩ :: rest)) fr l := g_v (fun a w F M R r => o_conv (F.e hx) hm r) hk rfl hd hg
end arith
theorem g_ld1 (i : Nat) {t : TypeId} {x : Operand} {b off : Nat} {cs : List Value} {t' : TypeId} {fz : Nat × Nat} {v : Value} [ht : TOne c.P t] (hx : Ev fr x = some (.pointer (some ⟨b, off, none⟩))) (hl : nthO l i = some [(b, .cells cs.toArray t' fz)]) (hv : nth cs off = some v)
  (hk : G c Q ks (.ops all rest) ((d, v) :: fr) l) (hd : Nat.blt d c.n = true := by rfl) (hg : gOk all fr g = some true := by rfl) : G c Q ks (.ops all (⟨some d, .load t x, ty, pos, af, g⟩ :: rest)) fr l :=
 g_v (fun a w F M R r => o_loadH1 (F.e hx) (M.at_ _ (nthO_mem hl)) hv r) hk rfl hd hg
theorem g_ldA (i : Nat) {t : TypeId} {x : Operand} {b off n : Nat} {cs : List Value} {t' : TypeId} {fz : Nat × Nat} {vs : List Value} [ht : TAgg c.P t n] (hx : Ev fr x = some (.pointer (some ⟨b, off, none⟩))) (hl : nthO l i = some [(b, .cells cs.toArray t' fz)]) (hv : seg cs off n = some vs)
  (hk : G c Q ks (.ops all rest) ((d, .agg vs.toArray) :: fr) l) (hd : Nat.blt d c.n = true := by rfl) (hg : gOk all fr g = some true := by rfl) : G c Q ks (.ops all (⟨some d, .load t x, ty, pos, af, g⟩ :: rest)) fr l :=
 g_v (fun a w F M R r => o_loadHA (F.e hx) (M.at_ _ (nthO_mem hl)) hv r) hk rfl hd hg
theorem g_le1 {t : TypeId} {x : Operand} {b off : Nat} {cs : List Value} {t' : TypeId} {fz : Nat × Nat} {v : Value} [ht : TOne c.P t] (hx : Ev fr x = some (.pointer (some ⟨b, off, none⟩))) (hb : ∀ w', Ext c.S c.W w' → w'.heap[b]? = some (.cells cs.toArray t' fz)) (hv : nth cs off = some v)
  (hk : G c Q ks (.ops all rest) ((d, v) :: fr) l) (hd : Nat.blt d c.n = true := by rfl) (hg : gOk all fr g = some true := by rfl) : G c Q ks (.ops all (⟨some d, .load t x, ty, pos, af, g⟩ :: rest)) fr l :=
 g_v (fun a w F M R r => o_loadH1 (F.e hx) (hb w M.ext) hv r) hk rfl hd hg
theorem g_leA {t : TypeId} {x : Operand} {b off n : Nat} {cs : List Value} {t' : TypeId} {fz : Nat × Nat} {vs : List Value} [ht : TAgg c.P t n] (hx : Ev fr x = some (.pointer (some ⟨b, off, none⟩))) (hb : ∀ w', Ext c.S c.W w' → w'.heap[b]? = some (.cells cs.toArray t' fz)) (hv : seg cs off n = some vs)
  (hk : G c Q ks (.ops all rest) ((d, .agg vs.toArray) :: fr) l) (hd : Nat.blt d c.n = true := by rfl) (hg : gOk all fr g = some true := by rfl) : G c Q ks (.ops all (⟨some d, .load t x, ty, pos, af, g⟩ :: rest)) fr l :=
 g_v (fun a w F M R r => o_loadHA (F.e hx) (hb w M.ext) hv r) hk rfl hd hg
theorem g_ixS {t e : TypeId} {x i : Operand} {k : IntKind} {b o len cap sz : Nat} {j : Int} (hx : Ev fr x = some (.slice (some ⟨b, o, none⟩) len cap)) (hi : Ev fr i = some (.int k j)) [ht : TU c.P t (.slice e)] [hs : TSz c.P e sz] (h0 : 0 ≤ j) (h1 : j < len)
  (hk : G c Q ks (.ops all rest) ((d, .pointer (some ⟨b, o + j.toNat * sz, none⟩)) :: fr) l) (hd : Nat.blt d c.n = true := by rfl) (hg : gOk all fr g = some true := by rfl) : G c Q ks (.ops all (⟨some d, .indexAddr t x i, ty, pos, af, g⟩ :: rest)) fr l :=
 g_v (fun a w F M R r => o_indexSl (F.e hx) (F.e hi) h0 h1 r) hk rfl hd hg
theorem g_len {x : Operand} {t e e' : TypeId} {v : Value} {sz n : Nat} {xs : List Value} {ent : List (Nat × Obj)} (hx : Ev fr x = some v) (hO : OwnS e' sz v n xs ent) [ht : TU c.P t (.slice e)]
  (hk : G c Q ks (.ops all rest) ((d, .int .i64 n) :: fr) l) (hd : Nat.blt d c.n = true := by rfl) (hg : gOk all fr g = some true := by rfl) : G c Q ks (.ops all (⟨some d, .call ⟨.builtin .len, #[x], #[t]⟩, ty, pos, af, g⟩ :: rest)) fr l :=
 g_v (fun a w F M R r => o_lenOwn (F.e hx) hO r) hk rfl hd hg
theorem g_eqA {t t' : TypeId} {x y : Operand} {kk : List LK} {xs ys : List Value} {b : Bool} [ht : TEq c.P t kk] (hx : Ev fr x = some (.agg xs.toArray)) (hy : Ev fr y = some (.agg ys.toArray)) (fx : fitsK kk xs = true) (fy : fitsK kk ys = true) (he : eqVs xs ys = b)
  (hk : G c Q ks (.ops all rest) ((d, .bool b) :: fr) l) (hd : Nat.blt d c.n = true := by rfl) (hg : gOk all fr g = some true := by rfl) : G c Q ks (.ops all (⟨some d, .binOp .eql t x y t', ty, pos, af, g⟩ :: rest)) fr l :=
 g_v (fun a w F M R r => o_eqlAE (F.e hx) (F.e hy) fx fy he r) hk rfl hd hg
theorem g_alloc {t : TypeId} {cs : List Value} [hz : TZero c.P t cs] (hk : ∀ b, G c Q ks (.ops all rest) ((d, .pointer (some ⟨b, 0, none⟩)) :: fr) ([(b, .cells cs.toArray t (0, 0))] :: l)) (hd : Nat.blt d c.n = true := by rfl) (hg : gOk all fr g = some true := by rfl) :
  G c Q ks (.ops all (⟨some d, .alloc t, ty, pos, af, g⟩ :: rest)) fr l :=
 g_op rfl hd hg fun a w F M => o_alloc M fun b w' M' a' F' => hk b a' w' F' M'
theorem g_box {t : TypeId} {x : Operand} {v : Value} {cs : List Value} (hx : Ev fr x = some v) (hv : v.cells = cs.toArray) (hk : ∀ b, G c Q ks (.ops all rest) ((d, .pointer (some ⟨b, 0, none⟩)) :: fr) ([(b, .cells cs.toArray t (0, 0))] :: l)) (hd : Nat.blt d c.n = true := by rfl) (hg : gOk all fr g = some true := by rfl) :
  G c Q ks (.ops all (⟨some d, .box t x, ty, pos, af, g⟩ :: rest)) fr l :=
 g_op rfl hd hg fun a w F M => o_box M (F.e hx) hv fun b w' M' a' F' => hk b a' w' F' M'
theorem g_st1 (i : Nat) {t : TypeId} {x y : Operand} {b off : Nat} {cs cs' : List Value} {t' : TypeId} {v : Value} [hs : TSz c.P t 1] (hx : Ev fr x = some (.pointer (some ⟨b, off, none⟩))) (hy : Ev fr y = some v) (h1 : v.oneCell' = true) (hl : nthO l i = some [(b, .cells cs.toArray t' (0, 0))]) (hp : put cs off [v] = some cs') (hl' : setO l i [(b, .cells cs'.toArray t' (0, 0))] = some l')
  (hk : G c Q ks (.ops all rest) fr l') : G c Q ks (.ops all (⟨none, .store t x y, ty, pos, af, none⟩ :: rest)) fr l := fun a w F M =>
 stepN rfl F (o_store1 M (F.e hx) (F.e hy) h1 (setO_upd hl hl').has hp (setO_upd hl hl') fun w' M' a' F' => hk a' w' F' M')
theorem g_stA (i : Nat) {t : TypeId} {x y : Operand} {b off n : Nat} {cs cs' vs : List Value} {t' : TypeId} [hs : TAgg c.P t n] (hx : Ev fr x = some (.pointer (some ⟨b, off, none⟩))) (hy : Ev fr y = some (.agg vs.toArray)) (hn : vs.length = n) (h1 : vs.all (·.oneCell') = true) (hl : nthO l i = some [(b, .cells cs.toArray t' (0, 0))]) (hp : put cs off vs = some cs') (hl' : setO l i [(b, .cells cs'.toArray t' (0, 0))] = some l')
  (hk : G c Q ks (.ops all rest) fr l') : G c Q ks (.ops all (⟨none, .store t x y, ty, pos, af, none⟩ :: rest)) fr l := fun a w F M =>
 stepN rfl F (o_storeA M (F.e hx) (F.e hy) hn h1 (setO_upd hl hl').has hp (setO_upd hl hl') fun w' M' a' F' => hk a' w' F' M')
theorem g_call {x : Operand} {f : FuncId} {xs : List Operand} {ts : Array TypeId} {vs : List Value} {v : Value} [hb : TBody c.P f] (hx : Ev fr x = some (.func (.func f) #[] #[])) (ha : evL fr xs = some vs) (hc : ∀ w, Mem c.S c.W w l.flatten → Cal c.P f vs.toArray w fun u w' => u = v ∧ Ext [] w w')
  (hk : G c Q ks (.ops all rest) ((d, v) :: fr) l) (hd : Nat.blt d c.n = true := by rfl) (hg : gOk all fr g = some true := by rfl) : G c Q ks (.ops all (⟨some d, .call ⟨.value x, xs.toArray, ts⟩, ty, pos, af, g⟩ :: rest)) fr l :=
 g_op rfl hd hg fun a w F M => o_call (F.e hx) (F.evs ha) (Cal.mono (hc w M) fun u w' h a' F' => hk a' w' (h.1 ▸ F') (M.later h.2))
theorem g_if {o : Operand} {x y : Code} {t : Bool} (hx : Ev fr o = some (.bool t)) (ht : t = true → G c Q ks (.code x) fr l) (hf : t = false → G c Q ks (.code y) fr l) : G c Q ks (.code (.cond o x y)) fr l := fun a w F M =>
 c_if F hx (fun h => ht h a w F M) (fun h => hf h a w F M)
theorem g_split (s : Nat) {st : St} {b : Bool} (h : look fr s = some (.bool b)) (ht : b = true → G c Q ks st ((s, .bool true) :: fr) l) (hf : b = false → G c Q ks st ((s, .bool false) :: fr) l) : G c Q ks st fr l := fun a w F M => by
 cases b
 ·exact hf rfl a w (F.know (F.at_ s _ h)) M
 ·exact ht rfl a w (F.know (F.at_ s _ h)) M
theorem g_ret {fn : Func} {R : Value → World → Prop} {rvs : List ResultVar} {vs : List Value} {c : Cx} (hdf : c.df = []) (hr : fn.results = rvs.toArray) (hv : ∀ a w, Frm a c.n c.df fr → Mem c.S c.W w l.flatten → ResVs c.P a w rvs vs) (h : ∀ w, Mem c.S c.W w l.flatten → R (oneOr vs) w) : G c (Post c.P fn R) [] (.ext .ret) fr l := fun a w F M => by
 have F' := F
 rw [hdf] at F'
 exact p_ret F' hr (hv a w F M) (h w M)
theorem g_ret1 {fn : Func} {R : Value → World → Prop} {t : Nat} {v : Value} {c : Cx} (hdf : c.df = []) (hr : fn.results = [ResultVar.tmp t].toArray) (hv : look fr t = some v) (h : ∀ w, Mem c.S c.W w l.flatten → R v w) : G c (Post c.P fn R) [] (.ext .ret) fr l :=
 g_ret hdf hr (fun a w F M => .cons (.tmp (F.e hv)) .nil) h
theorem g_ret2 {fn : Func} {R : Value → World → Prop} {t t' : Nat} {v v' : Value} {c : Cx} (hdf : c.df = []) (hr : fn.results = [ResultVar.tmp t, ResultVar.tmp t'].toArray) (hv : look fr t = some v) (hv' : look fr t' = some v') (h : ∀ w, Mem c.S c.W w l.flatten → R (.tuple [v, v'].toArray) w) : G c (Post c.P fn R) [] (.ext .ret) fr l :=
 g_ret hdf hr (fun a w F M => .cons (.tmp (F.e hv)) (.cons (.tmp (F.e hv')) .nil)) h
theorem g_retC (i : Nat) {fn : Func} {R : Value → World → Prop} {q b off n : Nat} {ty : TypeId} {cs vs : List Value} {t' : TypeId} {fz : Nat × Nat} {c : Cx} [ht : TAgg c.P ty n] (hdf : c.df = []) (hr : fn.results = [ResultVar.cell q ty].toArray) (hq : look fr q = some (.pointer (some ⟨b, off, none⟩))) (hl : nthO l i = some [(b, .cells cs.toArray t' fz)]) (hv : seg cs off n = some vs)
  (h : ∀ w, Mem c.S c.W w l.flatten → R (.agg vs.toArray) w) : G c (Post c.P fn R) [] (.ext .ret) fr l :=
 g_ret hdf hr (fun a w F M => .cons (.cell (F.e hq) (run_loadVar_agg ht.h (M.at_ _ (nthO_mem hl)) (by simpa using hv))) .nil) h
theorem g_retC2 (i : Nat) {fn : Func} {R : Value → World → Prop} {q b off n s : Nat} {u : Value} {ty : TypeId} {cs vs : List Value} {t' : TypeId} {fz : Nat × Nat} {c : Cx} [ht : TAgg c.P ty n] (hdf : c.df = []) (hr : fn.results = [ResultVar.cell q ty, ResultVar.tmp s].toArray) (hq : look fr q = some (.pointer (some ⟨b, off, none⟩))) (hl : nthO l i = some [(b, .cells cs.toArray t' fz)]) (hv : seg cs off n = some vs) (hu : look fr s = some u)
  (h : ∀ w, Mem c.S c.W w l.flatten → R (.tuple [.agg vs.toArray, u].toArray) w) : G c (Post c.P fn R) [] (.ext .ret) fr l :=
 g_ret hdf hr (fun a w F M => .cons (.cell (F.e hq) (run_loadVar_agg ht.h (M.at_ _ (nthO_mem hl)) (by simpa using hv))) (.cons (.tmp (F.e hu)) .nil)) h
theorem g_start {P : Program} {f : FuncId} {fn : Func} {x : Code} {vs : List Value} {W : World} {R : Value → World → Prop} {n : Nat} {S : List Nat} {flds : List (Nat × Nat × Nat)} {slcs : List Nat} (hf : (flds.all fun q => fieldAtB P q.1 q.2.1 q.2.2) = true) (hs : (slcs.all fun t => isSlB P t) = true)
  (hfn : P.funcs[f]? = some fn) (hb : fn.body = some x) (hn : fn.ntmps = n) (hle : Nat.ble vs.length n = true)
  (h : G ⟨P, none, n, [], S, W, flds, slcs, hf, hs⟩ (Post P fn R) [] (.code x) (number 0 vs) []) : Cal P f vs.toArray W R :=
 fn_ofM S hfn hb hn hle fun a w F M _ => h a w F M
theorem g_ifT {o : Operand} {x y : Code} {t : Bool} (hx : Ev fr o = some (.bool t)) (ht : t = true) (hk : G c Q ks (.code x) fr l) : G c Q ks (.code (.cond o x y)) fr l := fun a w F M => c_true F hx ht (hk a w F M)
theorem g_ifF {o : Operand} {x y : Code} {t : Bool} (hx : Ev fr o = some (.bool t)) (ht : t = false) (hk : G c Q ks (.code y) fr l) : G c Q ks (.code (.cond o x y)) fr l := fun a w F M => c_false F hx ht (hk a w F M)
theorem g_know (s : Nat) {st : St} {b b' : Bool} (h : look fr s = some (.bool b)) (hb : b = b') (hk : G c Q ks st ((s, .bool b') :: fr) l) : G c Q ks st fr l := fun a w F M => by
 subst hb
 exact hk a w (F.know (F.at_ s _ h)) M
structure LI (ι : Type) where
 μ : ι → Nat
 p : ι → Prop
 fi : ι → List (Nat × Value)
 li : ι → Row
def LQ {ι : Type} (J : LI ι) (c : Cx) (Q : Exit → Act → World → Prop) (ks : List KF) (i : ι) : Exit → Act → World → Prop
 | .normal, a, w => ∃ j, J.μ j < J.μ i ∧ J.p j ∧ Frm a c.n c.df (J.fi j) ∧ Mem c.S c.W w (J.li j).flatten
 | e, a, w => KQ c Q ks e a w
theorem g_loop {ι : Type} (J : LI ι) (i0 : ι) {x : Code} (h0 : J.p i0) (hfr : ∀ a, Frm a c.n c.df fr → Frm a c.n c.df (J.fi i0)) (hl : (J.li i0).Sublist l)
  (h : ∀ i, J.p i → G c (LQ J c Q ks i) [] (.code x) (J.fi i) (J.li i)) : G c Q ks (.code (.loop x)) fr l := fun a w F M => by
 refine c_loop (fun m a w => ∃ i, m = J.μ i ∧ J.p i ∧ Frm a c.n c.df (J.fi i) ∧ Mem c.S c.W w (J.li i).flatten) (J.μ i0) ⟨i0, rfl, h0, hfr a F, M.sub (subO hl)⟩ ?_
 rintro m a w ⟨i, rfl, hp, F, M⟩
 refine wpIn_mono (h i hp a w F M) fun e a w hq => ?_
 cases e with
 | normal =>
  obtain ⟨j, h1, h2, h3, h4⟩ := hq
  exact ⟨_, h1, j, rfl, h2, h3, h4⟩
 | exit _ => exact hq
 | goto _ => exact hq
 | ret => exact hq
 | panic _ => exact hq
 | outgrown => exact hq
theorem g_next {ι : Type} {J : LI ι} {i : ι} (j : ι) (h2 : J.p j) (h1 : J.μ j < J.μ i) (hfr : ∀ a, Frm a c.n c.df fr → Frm a c.n c.df (J.fi j)) (hl : (J.li j).Sublist l) : G c (LQ J c Q ks i) [] (.ext .normal) fr l := fun a w F M => ⟨j, h1, h2, hfr a F, M.sub (subO hl)⟩
theorem g_outX {ι : Type} {J : LI ι} {i : ι} {id : Nat} (h : G c Q ks (.ext (.exit id)) fr l) : G c (LQ J c Q ks i) [] (.ext (.exit id)) fr l := h
theorem g_outR {ι : Type} {J : LI ι} {i : ι} (h : G c Q ks (.ext .ret) fr l) : G c (LQ J c Q ks i) [] (.ext .ret) fr l := h
theorem g_bs {t e : TypeId} {len sz : Nat} {xs : List (Nat × Operand)} {parts : List (Nat × List Value)} {zs cs : List Value} [ht : TU c.P t (.slice e)] [hs : TSz c.P e sz] [hz : TZero c.P e zs] (hv : evP fr xs = some parts)
  (hle : Nat.ble (len * sz) 16777216 = true) (hzl : Nat.beq zs.length sz = true) (hp : putAll (placesL len sz) (zerosL zs (len * sz)) parts = some cs)
  (hk : ∀ b, G c Q ks (.ops all rest) ((d, .slice (some ⟨b, 0, none⟩) len len) :: fr) ([(b, .cells cs.toArray e (0, 0))] :: l)) (hd : Nat.blt d c.n = true := by rfl) (hg : gOk all fr g = some true := by rfl) : G c Q ks (.ops all (⟨some d, .buildSlice t len xs.toArray, ty, pos, af, g⟩ :: rest)) fr l :=
 g_op rfl hd hg fun a w F M => o_buildSlice F M hv hle hzl hp fun b w' M' a' F' => hk b a' w' F' M'
theorem g_app (i j : Nat) {α : Type} {enc : α → List Value} {out : List α} {x0 : α} {st xt e : TypeId} {x y : Operand} {sz by_ bx kx : Nat} {v : Value} {ent : List (Nat × Obj)} {f : List (Nat × Obj) → Row} {t' : TypeId} {fz : Nat × Nat} [hst : TU c.P st (.slice e)] [hel : TEl c.P e sz by_] [hxt : TNI c.P xt]
  (hx : Ev fr x = some v) (hy : Ev fr y = some (.slice (some ⟨bx, 0, none⟩) 1 kx)) (hO : OwnS e sz v out.length (encL enc out) ent) (hi : nthO l i = some ent) (hj : nthO l j = some [(bx, .cells (enc x0).toArray t' fz)]) (hz : (enc x0).length = sz) (hbd : (out.length + 1) * by_ ≤ 140737488355328)
  (hf : ∀ e', setO l i e' = some (f e')) (hk : ∀ v' ent', OwnS e sz v' (out ++ [x0]).length (encL enc (out ++ [x0])) ent' → G c Q ks (.ops all rest) ((d, v') :: fr) (f ent')) (h1 : (enc x0).all (·.oneCell') = true) (hd : Nat.blt d c.n = true := by rfl) (hg : gOk all fr g = some true := by rfl) (hln : out.length + 1 ≤ 9223372036854775807 := by first | omega | (simp only [List.length_nil];omega)) :
  G c Q ks (.ops all (⟨some d, .call ⟨.builtin .append, #[x, y], #[st, xt]⟩, ty, pos, af, g⟩ :: rest)) fr l := by
 refine g_op rfl hd hg fun a w F M => ?_
 obtain ⟨r, p1, _⟩ := nthO_perm hi (hf ent)
 have hp : ∀ e', (f e').flatten.Perm (e' ++ r) := fun e' => by
  obtain ⟨r', q1, q2⟩ := nthO_perm hi (hf e')
  exact q2.trans (List.Perm.append_left _ ((List.perm_append_left_iff ent).1 (q1.symm.trans p1)))
 have hX : SrcOf c.P w (.slice (some ⟨bx, 0, none⟩) 1 kx) 1 sz (enc x0) := SrcOf.cells' (M.at_ _ (nthO_mem hj)) (by rw [Nat.one_mul, ← hz];simpa using seg_of [] (enc x0) []) h1
 refine o_append1 (f := fun e' => r ++ e') hO (M.perm (p1.trans List.perm_append_comm)) ?_ (F.e hx) (F.e hy) hX hbd (fun v' ent' w' hO' M' => ?_) hln
 ·exact .app .here
 ·exact fun a' F' => hk v' ent' hO' a' w' F' (M'.perm (List.perm_append_comm.trans (hp ent').symm))
theorem g_pad {st : St} (hk : G c Q ks st fr ([] :: l)) : G c Q ks st fr l := hk
end
def fldT : List (Nat × Nat × Nat) := [(7, 0, 0), (7, 1, 1), (7, 2, 2), (7, 3, 3), (8, 0, 0), (8, 1, 1), (8, 2, 2), (8, 3, 3), (13, 0, 0), (13, 1, 1), (14, 0, 0), (14, 1, 1), (18, 0, 0), (19, 0, 0), (29, 0, 0), (29, 1, 1), (29, 2, 2), (29, 3, 3), (29, 4, 4), (30, 0, 0), (30, 1, 1), (30, 2, 2), (30, 3, 3), (30, 4, 4), (50, 0, 0), (50, 1, 1), (51, 0, 0), (51, 1, 1), (52, 0, 0), (52, 1, 1), (52, 2, 2), (52, 3, 3), (52, 4, 4), (52, 5, 5), (52, 6, 6), (52, 7, 7), (52, 8, 8), (52, 9, 9), (52, 10, 10), (52, 11, 11), (52, 12, 12), (53, 0, 0), (53, 1, 1), (53, 2, 2), (53, 3, 3), (53, 4, 4), (53, 5, 5), (53, 6, 6), (53, 7, 7), (53, 8, 8), (53, 9, 9), (53, 10, 10), (53, 11, 11), (53, 12, 12), (60, 0, 0), (60, 1, 1), (61, 0, 0), (61, 1, 1), (64, 0, 0), (64, 1, 16), (65, 0, 0), (65, 1, 16), (66, 0, 0), (66, 1, 17), (66, 2, 34), (67, 0, 0), (67, 1, 17), (67, 2, 34), (68, 0, 0), (68, 1, 1), (68, 2, 2), (68, 3, 3), (68, 4, 4), (68, 5, 39), (69, 0, 0), (69, 1, 1), (69, 2, 2), (69, 3, 3), (69, 4, 4), (69, 5, 39), (71, 0, 0), (71, 1, 1), (72, 0, 0), (72, 1, 1), (73, 0, 0), (73, 1, 35), (73, 2, 36), (73, 3, 38), (73, 4, 39), (74, 0, 0), (74, 1, 35), (74, 2, 36), (74, 3, 38), (74, 4, 39), (75, 0, 0), (75, 1, 35), (75, 2, 36), (75, 3, 38), (76, 0, 0), (76, 1, 35), (76, 2, 36), (76, 3, 38), (84, 0, 0), (84, 1, 17), (85, 0, 0), (85, 1, 17), (95, 0, 0), (95, 1, 1), (96, 0, 0), (96, 1, 1), (99, 0, 0), (99, 1, 35), (100, 0, 0), (100, 1, 35), (112, 0, 0), (112, 1, 1), (113, 0, 0), (113, 1, 1), (116, 0, 0), (116, 1, 1), (116, 2, 2), (116, 3, 3), (116, 4, 4), (117, 0, 0), (117, 1, 1), (117, 2, 2), (117, 3, 3), (117, 4, 4), (121, 0, 0), (121, 1, 1), (121, 2, 2), (121, 3, 3), (121, 4, 4), (122, 0, 0), (122, 1, 1), (122, 2, 2), (122, 3, 3), (122, 4, 4), (123, 0, 0), (123, 1, 1), (123, 2, 6), (123, 3, 7), (124, 0, 0), (124, 1, 1), (124, 2, 6), (124, 3, 7), (141, 0, 0), (141, 1, 14), (141, 2, 15), (141, 3, 16), (141, 4, 17), (142, 0, 0), (142, 1, 14), (142, 2, 15), (142, 3, 16), (142, 4, 17), (165, 0, 0), (165, 1, 35), (165, 2, 37), (166, 0, 0), (166, 1, 35), (166, 2, 37), (170, 0, 0), (170, 1, 35), (170, 2, 36), (170, 3, 37), (170, 4, 38), (170, 5, 39), (171, 0, 0), (171, 1, 35), (171, 2, 36), (171, 3, 37), (171, 4, 38), (171, 5, 39), (309, 0, 0), (309, 1, 1), (309, 2, 2), (310, 0, 0), (310, 1, 1), (310, 2, 2), (364, 0, 0), (364, 1, 1), (364, 2, 2), (364, 3, 3), (365, 0, 0), (365, 1, 1), (365, 2, 2), (365, 3, 3), (376, 0, 0), (376, 1, 1), (376, 2, 2), (376, 3, 3), (376, 4, 4), (376, 5, 5), (376, 6, 6), (376, 7, 7), (376, 8, 8), (376, 9, 9), (376, 10, 10), (377, 0, 0), (377, 1, 1), (377, 2, 2), (377, 3, 3), (377, 4, 4), (377, 5, 5), (377, 6, 6), (377, 7, 7), (377, 8, 8), (377, 9, 9), (377, 10, 10)]
def slcT : List Nat := [22, 26, 27, 28, 32, 43, 44, 45, 46, 47, 48, 49, 55, 59, 87, 94, 126, 216, 235]
theorem fldT_ok : (fldT.all fun q => fieldAtB Tryz.prog q.1 q.2.1 q.2.2) = true := by kernel_rfl
theorem slcT_ok : (slcT.all fun t => isSlB Tryz.prog t) = true := by kernel_rfl
def FD (c : Cx) (Q : Exit → Act → World → Prop) (ks : List KF) (ol : List Oper) (n k : Nat) (rest : List Oper) (fr : List (Nat × Value)) (l : Row) : Prop :=
 ∀ a w Vs, Mem c.S c.W w l.flatten → regOk ol.toArray n = true → MW ⟨keepAll, [], [], c.P, c.r, ol.toArray, n, c.n, c.df, a, w, KQ c Q ks, [], []⟩ k rest fr Vs noT
section
variable {c : Cx} {Q : Exit → Act → World → Prop} {ks : List KF} {fr fr' : List (Nat × Value)} {l : Row} {ol rest rest' : List Oper} {n k k' : Nat} {d : Nat} {op : Op} {ty : TypeId} {pos : String} {af : Array Edge} {g : Option (Nat × Bool)}
theorem g_draw {id : Nat} (n nt : Nat) [hm : TMix c.P] (hnt : c.n = nt) (hchk : (regOk ol.toArray n && tailOk ol.toArray n && Nat.ble n ol.length && dstOk ol.toArray n nt && effOk ol.toArray n []) = true) (h : FD c Q ks ol n 0 ol fr l) : G c Q ks (.code (.region id ol.toArray true)) fr l := fun a w F M =>
 c_draw n F (by rw [hnt];exact hchk) fun w1 hE hok => h a w1 [] (M.later hE) hok
theorem fd_c {v : Value} (h : ∀ a w, Frm a c.n c.df fr → Mem c.S c.W w l.flatten → OpTo c.P ⟨some d, op, ty, pos, af, g⟩ a.eval w fun x w' => Ext [] w w' ∧ x = v)
  (hk : FD c Q ks ol n (k + 1) rest ((d, v) :: fr) l) (hlt : flo [] [] [] n k op = true := by rfl) (hd : Nat.blt d c.n = true := by rfl) (hg : gOk ol.toArray fr g = some true := by rfl) : FD c Q ks ol n k (⟨some d, op, ty, pos, af, g⟩ :: rest) fr l := fun a w Vs M hok => by
 rcases gOk_true hg with rfl | ⟨j, b, t, rfl, ht, hl⟩
 ·exact mK hok hlt hd (fun a' w' F he => h a' w' F (M.later he)) (hk a w _ M hok)
 ·exact mKG hok hlt hd ht hl (fun a' w' F he => h a' w' F (M.later he)) (hk a w _ M hok)
theorem fd_v {v : Value} (h : ∀ a w, Frm a c.n c.df fr → Mem c.S c.W w l.flatten → ∀ R : Value → World → Prop, R v w → OpTo c.P ⟨some d, op, ty, pos, af, g⟩ a.eval w R)
  (hk : FD c Q ks ol n (k + 1) rest ((d, v) :: fr) l) (hlt : flo [] [] [] n k op = true := by rfl) (hd : Nat.blt d c.n = true := by rfl) (hg : gOk ol.toArray fr g = some true := by rfl) : FD c Q ks ol n k (⟨some d, op, ty, pos, af, g⟩ :: rest) fr l :=
 fd_c (fun a w F M => h a w F M _ ⟨Ext.refl _ _, rfl⟩) hk hlt hd hg
theorem fd_call {x : Operand} {f : FuncId} {xs : List Operand} {ts : Array TypeId} {vs : List Value} {v : Value} [hb : TBody c.P f] (hx : Ev fr x = some (.func (.func f) #[] #[])) (ha : evL fr xs = some vs) (hc : ∀ w, Mem c.S c.W w l.flatten → Cal c.P f vs.toArray w fun u w' => u = v ∧ Ext [] w w')
  (hk : FD c Q ks ol n (k + 1) rest ((d, v) :: fr) l) (hlt : flo [] [] [] n k (.call ⟨.value x, xs.toArray, ts⟩) = true := by rfl) (hd : Nat.blt d c.n = true := by rfl) (hg : gOk ol.toArray fr g = some true := by rfl) : FD c Q ks ol n k (⟨some d, .call ⟨.value x, xs.toArray, ts⟩, ty, pos, af, g⟩ :: rest) fr l :=
 fd_c (fun a w F M => o_call (F.e hx) (F.evs ha) (Cal.mono (hc w M) fun u w' h => ⟨h.2, h.1⟩)) hk hlt hd hg
theorem fd_off (hk : FD c Q ks ol n (k + 1) rest ((d, undef) :: fr) l) (hlt : flo [] [] [] n k op = true := by rfl) (hd : Nat.blt d c.n = true := by rfl) (hg : gOk ol.toArray fr g = some false := by rfl) : FD c Q ks ol n k (⟨some d, op, ty, pos, af, g⟩ :: rest) fr l := fun a w Vs M hok => by
 obtain ⟨j, b, t, v, rfl, ht, hl, ho⟩ := gOk_false hg
 exact mOff hok hlt hd ht hl ho (hk a w _ M hok)
theorem fd_done (hn : Nat.beq k n = true) (hef : effOk ol.toArray n [] = true) (hk : G c Q ks (.ops ol.toArray rest) fr l) : FD c Q ks ol n k rest fr l := fun a w Vs M hok =>
 mDone hn hef fun a' w' F he _ _ _ _ => hk a' w' F (M.later he)
theorem fd_same (h : ∀ t, look fr' t = look fr t) (hk : FD c Q ks ol n k rest fr' l) : FD c Q ks ol n k rest fr l := fun a w Vs M hok => by
 intro h1 h2 h3 h4 hC
 exact hk a w Vs M hok h1 h2 h3 h4 ⟨fun t v hv => hC.c t v (by rw [← h];exact hv)⟩
theorem look_know {s : Nat} {v : Value} (h : look fr s = some v) (t : Nat) : look ((s, v) :: fr) t = look fr t := by
 cases hb : s.beq t
 ·show (match s.beq t with | true => some v | false => look fr t) = look fr t
  rw [hb]
 ·show (match s.beq t with | true => some v | false => look fr t) = look fr t
  rw [hb, ← Nat.eq_of_beq_eq_true hb, h]
theorem fd_know (s : Nat) {b b' : Bool} (h : look fr s = some (.bool b)) (hb : b = b') (hk : FD c Q ks ol n k rest ((s, .bool b') :: fr) l) : FD c Q ks ol n k rest fr l := by
 subst hb
 exact fd_same (look_know h) hk
theorem fd_split (s : Nat) {b : Bool} (h : look fr s = some (.bool b)) (ht : b = true → FD c Q ks ol n k rest ((s, .bool true) :: fr) l) (hf : b = false → FD c Q ks ol n k rest ((s, .bool false) :: fr) l) : FD c Q ks ol n k rest fr l := by
 cases b
 ·exact fd_know s h rfl (hf rfl)
 ·exact fd_know s h rfl (ht rfl)
def runF (c : Cx) (all : Array Oper) (n : Nat) : Nat → Nat → List Oper → List (Nat × Value) → Nat × List Oper × List (Nat × Value)
 | m + 1, k, o :: rest, fr => match o.dst with
  | some d => match Nat.blt d c.n && flo [] [] [] n k o.op with
   | true => match gOk all fr o.guard with
    | some true => match evO c fr o.op with
     | some v => runF c all n m (k + 1) rest ((d, v) :: fr)
     | none => (k, o :: rest, fr)
    | some false => runF c all n m (k + 1) rest ((d, undef) :: fr)
    | none => (k, o :: rest, fr)
   | false => (k, o :: rest, fr)
  | none => (k, o :: rest, fr)
 | _, k, rest, fr => (k, rest, fr)
theorem fR : ∀ (m : Nat) {k k' : Nat} {rest rest' : List Oper} {fr fr' : List (Nat × Value)}, runF c ol.toArray n m k rest fr = (k', rest', fr') → FD c Q ks ol n k' rest' fr' l → FD c Q ks ol n k rest fr l
 | 0, k, k', rest, rest', fr, fr', h, hk => by
  cases rest <;> cases h <;> exact hk
 | m + 1, k, k', [], rest', fr, fr', h, hk => by
  cases h
  exact hk
 | m + 1, k, k', o :: rest, rest', fr, fr', h, hk => by
  obtain ⟨dst, op, ty, pos, af, g⟩ := o
  unfold runF at h
  split at h
  ·rename_i d hd0
   dsimp only at hd0
   subst hd0
   split at h
   ·rename_i hb
    simp only [Bool.and_eq_true] at hb
    split at h
    ·rename_i hg
     split at h
     ·rename_i v hv
      exact fd_v (fun a w F M R r => evO_ok F hv r) (fR m h hk) hb.2 hb.1 hg
     ·cases h
      exact hk
    ·rename_i hg
     exact fd_off (fR m h hk) hb.2 hb.1 hg
    ·cases h
     exact hk
   ·cases h
    exact hk
  ·cases h
   exact hk
end
section
variable {c : Cx} {Q : Exit → Act → World → Prop} {ks : List KF} {fr : List (Nat × Value)} {l : Row} {ol rest : List Oper} {nn kx : Nat} {d : Nat} {ty : TypeId} {pos : String} {af : Array Edge} {g : Option (Nat × Bool)}
section arith
variable {t t' : TypeId} {x y : Operand} {k : IntKind} {m n s : Int}
theorem fd_sub (hx : Ev fr x = some (.int k m)) (hy : Ev fr y = some (.int k n)) (hs : k.wrap (m - n) = s) (hk : FD c Q ks ol nn (kx + 1) rest ((d, .int k s) :: fr) l) (hlt : flo [] [] [] nn kx (.binOp .sub t x y t') = true := by rfl) (hd : Nat.blt d c.n = true := by rfl) (hg : gOk ol.toArray fr g = some true := by rfl) :
  FD c Q ks ol nn kx (⟨some d, .binOp .sub t x y t', ty, pos, af, g⟩ :: rest) fr l := fd_v (fun a w F M R r => o_sub (F.e hx) (F.e hy) hs r) hk hlt hd hg
theorem fd_conv {t1 t2 : TypeId} {ds : TypeDesc} {k' : IntKind} (hx : Ev fr x = some (.int k m)) [hs : TU c.P t1 ds] [ht : TU c.P t2 (.int k')] (hm : k'.wrap m = n) (hk : FD c Q ks ol nn (kx + 1) rest ((d, .int k' n) :: fr) l) (hlt : flo [] [] [] nn kx (.convert t1 t2 x) = true := by rfl) (hd : Nat.blt d c.n = true := by rfl) (hg : gOk ol.toArray fr g = some true := by rfl) :
  FD c Q ks ol nn kx (⟨some d, .convert t1 t2 x, ty, pos, af, g⟩ :: rest) fr l := fd_v (fun a w F M R r => o_conv (F.e hx) hm r) hk hlt hd hg
end arith
theorem fd_ld1 (i : Nat) {t : TypeId} {x : Operand} {b off : Nat} {cs : List Value} {t' : TypeId} {fz : Nat × Nat} {v : Value} [ht : TOne c.P t] (hx : Ev fr x = some (.pointer (some ⟨b, off, none⟩))) (hl : nthO l i = some [(b, .cells cs.toArray t' fz)]) (hv : nth cs off = some v)
  (hk : FD c Q ks ol nn (kx + 1) rest ((d, v) :: fr) l) (hlt : flo [] [] [] nn kx (.load t x) = true := by rfl) (hd : Nat.blt d c.n = true := by rfl) (hg : gOk ol.toArray fr g = some true := by rfl) : FD c Q ks ol nn kx (⟨some d, .load t x, ty, pos, af, g⟩ :: rest) fr l :=
 fd_v (fun a w F M R r => o_loadH1 (F.e hx) (M.at_ _ (nthO_mem hl)) hv r) hk hlt hd hg
theorem fd_ldA (i : Nat) {t : TypeId} {x : Operand} {b off n : Nat} {cs : List Value} {t' : TypeId} {fz : Nat × Nat} {vs : List Value} [ht : TAgg c.P t n] (hx : Ev fr x = some (.pointer (some ⟨b, off, none⟩))) (hl : nthO l i = some [(b, .cells cs.toArray t' fz)]) (hv : seg cs off n = some vs)
  (hk : FD c Q ks ol nn (kx + 1) rest ((d, .agg vs.toArray) :: fr) l) (hlt : flo [] [] [] nn kx (.load t x) = true := by rfl) (hd : Nat.blt d c.n = true := by rfl) (hg : gOk ol.toArray fr g = some true := by rfl) : FD c Q ks ol nn kx (⟨some d, .load t x, ty, pos, af, g⟩ :: rest) fr l :=
 fd_v (fun a w F M R r => o_loadHA (F.e hx) (M.at_ _ (nthO_mem hl)) hv r) hk hlt hd hg
theorem fd_le1 {t : TypeId} {x : Operand} {b off : Nat} {cs : List Value} {t' : TypeId} {fz : Nat × Nat} {v : Value} [ht : TOne c.P t] (hx : Ev fr x = some (.pointer (some ⟨b, off, none⟩))) (hb : ∀ w', Ext c.S c.W w' → w'.heap[b]? = some (.cells cs.toArray t' fz)) (hv : nth cs off = some v)
  (hk : FD c Q ks ol nn (kx + 1) rest ((d, v) :: fr) l) (hlt : flo [] [] [] nn kx (.load t x) = true := by rfl) (hd : Nat.blt d c.n = true := by rfl) (hg : gOk ol.toArray fr g = some true := by rfl) : FD c Q ks ol nn kx (⟨some d, .load t x, ty, pos, af, g⟩ :: rest) fr l :=
 fd_v (fun a w F M R r => o_loadH1 (F.e hx) (hb w M.ext) hv r) hk hlt hd hg
theorem fd_leA {t : TypeId} {x : Operand} {b off n : Nat} {cs : List Value} {t' : TypeId} {fz : Nat × Nat} {vs : List Value} [ht : TAgg c.P t n] (hx : Ev fr x = some (.pointer (some ⟨b, off, none⟩))) (hb : ∀ w', Ext c.S c.W w' → w'.heap[b]? = some (.cells cs.toArray t' fz)) (hv : seg cs off n = some vs)
  (hk : FD c Q ks ol nn (kx + 1) rest ((d, .agg vs.toArray) :: fr) l) (hlt : flo [] [] [] nn kx (.load t x) = true := by rfl) (hd : Nat.blt d c.n = true := by rfl) (hg : gOk ol.toArray fr g = some true := by rfl) : FD c Q ks ol nn kx (⟨some d, .load t x, ty, pos, af, g⟩ :: rest) fr l :=
 fd_v (fun a w F M R r => o_loadHA (F.e hx) (hb w M.ext) hv r) hk hlt hd hg
theorem fd_ixS {t e : TypeId} {x i : Operand} {k : IntKind} {b o len cap sz : Nat} {j : Int} (hx : Ev fr x = some (.slice (some ⟨b, o, none⟩) len cap)) (hi : Ev fr i = some (.int k j)) [ht : TU c.P t (.slice e)] [hs : TSz c.P e sz] (h0 : 0 ≤ j) (h1 : j < len)
  (hk : FD c Q ks ol nn (kx + 1) rest ((d, .pointer (some ⟨b, o + j.toNat * sz, none⟩)) :: fr) l) (hlt : flo [] [] [] nn kx (.indexAddr t x i) = true := by rfl) (hd : Nat.blt d c.n = true := by rfl) (hg : gOk ol.toArray fr g = some true := by rfl) : FD c Q ks ol nn kx (⟨some d, .indexAddr t x i, ty, pos, af, g⟩ :: rest) fr l :=
 fd_v (fun a w F M R r => o_indexSl (F.e hx) (F.e hi) h0 h1 r) hk hlt hd hg
end
section
variable {c : Cx} {Q : Exit → Act → World → Prop} {ks : List KF} {st : St} {fr : List (Nat × Value)} {l : Row}
structure LJ (ι : Type) where
 p : ι → Prop
 fi : ι → List (Nat × Value)
 li : ι → Row
def JQ {ι : Type} (J : LJ ι) (c : Cx) (Q : Exit → Act → World → Prop) (ks : List KF) : Exit → Act → World → Prop
 | .normal, a, w => ∃ j, J.p j ∧ Frm a c.n c.df (J.fi j) ∧ Mem c.S c.W w (J.li j).flatten
 | e, a, w => KQ c Q ks e a w
theorem JQ.of {ι : Type} {J : LJ ι} {e : Exit} {a : Act} {w : World} (h : JQ J c Q ks e a w) (hk : ∀ j, J.p j → G c Q ks (.ext .normal) (J.fi j) (J.li j)) : KQ c Q ks e a w := by
 cases e with
 | normal =>
  obtain ⟨j, h2, h3, h4⟩ := h
  exact hk j h2 a w h3 h4
 | exit _ => exact h
 | goto _ => exact h
 | ret => exact h
 | panic _ => exact h
 | outgrown => exact h
theorem g_cutC {ι : Type} (J : LJ ι) {x : Code} (h1 : G c (JQ J c Q ks) [] (.code x) fr l) (h2 : ∀ j, J.p j → G c Q ks (.ext .normal) (J.fi j) (J.li j)) : G c Q ks (.code x) fr l := fun a w F M =>
 wpIn_mono (h1 a w F M) fun e a w h => JQ.of h h2
theorem g_join {ι : Type} {J : LJ ι} (j : ι) (h2 : J.p j) (hfr : ∀ a, Frm a c.n c.df fr → Frm a c.n c.df (J.fi j)) (hl : (J.li j).Sublist l) : G c (JQ J c Q ks) [] (.ext .normal) fr l := fun a w F M => ⟨j, h2, hfr a F, M.sub (subO hl)⟩
theorem g_jX {ι : Type} {J : LJ ι} {id : Nat} (h : G c Q ks (.ext (.exit id)) fr l) : G c (JQ J c Q ks) [] (.ext (.exit id)) fr l := h
end
def NwS (n0 len : Nat) (o : Obj) : Pred := fun v w => ∃ b, v = .slice (some ⟨b, 0, none⟩) len len ∧ n0 ≤ b ∧ w.heap[b]? = some o
theorem NwS.stays (n0 len : Nat) (o : Obj) : Stays keepAll (NwS n0 len o) := fun v w w' ⟨b, h1, h2, h3⟩ h => ⟨b, h1, h2, by
 rw [Ext.block h b (Array.getElem?_eq_some_iff.1 h3).1 (by simp)];exact h3⟩
section
variable {c : Cx} {Q : Exit → Act → World → Prop} {ks : List KF} {fr : List (Nat × Value)} {l : Row} {ol rest : List Oper} {n k : Nat} {d : Nat} {ty : TypeId} {pos : String} {af : Array Edge}
theorem fd_bs {t e : TypeId} {len sz : Nat} {xs : List (Nat × Operand)} {parts : List (Nat × List Value)} {zs cs : List Value} [ht : TU c.P t (.slice e)] [hs : TSz c.P e sz] [hz : TZero c.P e zs] (hv : evP fr xs = some parts)
  (hle : Nat.ble (len * sz) 16777216 = true) (hzl : Nat.beq zs.length sz = true) (hp : putAll (placesL len sz) (zerosL zs (len * sz)) parts = some cs)
  (hk : ∀ b, G c Q ks (.ops ol.toArray rest) ((d, .slice (some ⟨b, 0, none⟩) len len) :: fr) ([(b, .cells cs.toArray e (0, 0))] :: l)) (hn : Nat.beq (k + 1) n = true := by rfl) (hef : effOk ol.toArray n [] = true := by rfl) (hlt : flo [] [] [] n k (.buildSlice t len xs.toArray) = true := by rfl) (hd : Nat.blt d c.n = true := by rfl) (hnd : notIn d fr = true := by rfl) (hat : (ol[k]?.bind (·.dst)) = some d := by rfl) :
  FD c Q ks ol n k (⟨some d, .buildSlice t len xs.toArray, ty, pos, af, none⟩ :: rest) fr l := fun a w Vs M hok => by
 intro hlen
 refine mX (V := NwS w.heap.size len (.cells cs.toArray e (0, 0))) hok hlt hnd (NwS.stays _ _ _) (fun a' w' F' E' D' => o_buildSlice F' (Mem.start [] w') hv hle hzl hp fun b w'' M'' => ⟨M''.ext, b, rfl, Nat.le_trans E'.size ((M''.own _ List.mem_cons_self).resolve_left (by simp)), M''.heap .here⟩) (mDone hn hef fun a' w' F he hX _ _ _ => ?_) hlen
 obtain ⟨b, h1, h2, h3⟩ := hX k (NwS w.heap.size len (.cells cs.toArray e (0, 0))) (by rw [← hlen];simp)
 have h4 : a'.tmps.getD d undef = .slice (some ⟨b, 0, none⟩) len len := by
  unfold slotV at h1
  dsimp only at h1
  rw [List.getElem?_toArray, hat] at h1
  exact h1
 exact hk b a' w' (F.know h4) ((M.later he).cons h3 (fun q hq e => by have := M.lt hq;omega) (.inr (Nat.le_trans M.ext.size h2)))
theorem fd_al {t : TypeId} {cs : List Value} [hz : TZero c.P t cs] (hk : ∀ b, G c Q ks (.ops ol.toArray rest) ((d, .pointer (some ⟨b, 0, none⟩)) :: fr) ([(b, .cells cs.toArray t (0, 0))] :: l)) (hn : Nat.beq (k + 1) n = true := by rfl) (hef : effOk ol.toArray n [] = true := by rfl) (hlt : (Nat.blt k n && !([] : List Nat).contains k && (pairFree [] k && relFree [] k)) = true := by rfl) (hd : Nat.blt d c.n = true := by rfl) (hnd : notIn d fr = true := by rfl) (hat : (ol[k]?.bind (·.dst)) = some d := by rfl) :
  FD c Q ks ol n k (⟨some d, .alloc t, ty, pos, af, none⟩ :: rest) fr l := fun a w Vs M hok => by
 intro hlen
 refine mAl (o0 := .cells cs.toArray t (0, 0)) hok hlt hnd (Al.stays _ _) (fun w => Ext.alloc w _) (fun a' w' F' E' => run_al) (mDone hn hef fun a' w' F he hX _ _ _ => ?_) hlen
 obtain ⟨b, h1, h2, h3⟩ := hX k (Al w.heap.size (.cells cs.toArray t (0, 0))) (by rw [← hlen];simp)
 have h4 : a'.tmps.getD d undef = .pointer (some ⟨b, 0, none⟩) := by
  unfold slotV at h1
  dsimp only at h1
  rw [List.getElem?_toArray, hat] at h1
  exact h1
 exact hk b a' w' (F.know h4) ((M.later he).cons h3 (fun q hq e => by have := M.lt hq;omega) (.inr (Nat.le_trans M.ext.size h2)))
end
section
variable {c : Cx} {Q : Exit → Act → World → Prop} {ks : List KF} {fr : List (Nat × Value)} {l : Row} {all rest ol : List Oper} {aa : Array Oper} {nn kx : Nat} {d : Nat} {ty : TypeId} {pos : String} {af : Array Edge} {g : Option (Nat × Bool)}
theorem fd_neA {t t' : TypeId} {x y : Operand} {kk : List LK} {xs ys : List Value} {b : Bool} [ht : TEq c.P t kk] (hx : Ev fr x = some (.agg xs.toArray)) (hy : Ev fr y = some (.agg ys.toArray)) (fx : fitsK kk xs = true) (fy : fitsK kk ys = true) (he : eqVs xs ys = b)
  (hk : FD c Q ks ol nn (kx + 1) rest ((d, .bool !b) :: fr) l) (hlt : flo [] [] [] nn kx (.binOp .neq t x y t') = true := by rfl) (hd : Nat.blt d c.n = true := by rfl) (hg : gOk ol.toArray fr g = some true := by rfl) : FD c Q ks ol nn kx (⟨some d, .binOp .neq t x y t', ty, pos, af, g⟩ :: rest) fr l :=
 fd_v (fun a w F M R r => o_neqAE (F.e hx) (F.e hy) fx fy he r) hk hlt hd hg
end
section
variable {c : Cx} {Q : Exit → Act → World → Prop} {ks : List KF} {fr : List (Nat × Value)} {l : Row}
end
section
variable {c : Cx} {Q : Exit → Act → World → Prop} {ks : List KF} {fr : List (Nat × Value)} {l : Row} {aa : Array Oper} {rest : List Oper} {d : Nat} {ty : TypeId} {pos : String} {af : Array Edge} {g : Option (Nat × Bool)}
theorem g_callN {ι : Type} (val : ι → Value) (p : ι → Prop) (li : ι → Row) {x : Operand} {f : FuncId} {xs : List Operand} {ts : Array TypeId} {vs : List Value} [hb : TBody c.P f] (hx : Ev fr x = some (.func (.func f) #[] #[])) (ha : evL fr xs = some vs)
  (hc : ∀ w, Mem c.S c.W w l.flatten → Cal c.P f vs.toArray w fun v w' => ∃ i, v = val i ∧ p i ∧ Mem [] w w' (li i).flatten)
  (hk : ∀ i, p i → G c Q ks (.ops aa rest) ((d, val i) :: fr) (li i ++ l)) (hd : Nat.blt d c.n = true := by rfl) (hg : gOk aa fr g = some true := by rfl) : G c Q ks (.ops aa (⟨some d, .call ⟨.value x, xs.toArray, ts⟩, ty, pos, af, g⟩ :: rest)) fr l :=
 g_op rfl hd hg fun a w F M => o_call (F.e hx) (F.evs ha) (Cal.mono (hc w M) fun u w' h a' F' => by
  obtain ⟨i, rfl, h2, N⟩ := h
  exact hk i h2 a' w' F' (by rw [List.flatten_append];exact M.joins N))
end
theorem Mem.joinB {S : List Nat} {W0 w w' : World} {l0 r new : List (Nat × Obj)} (M : Mem S W0 w (l0 ++ r)) (N : Mem (l0.map (·.1)) w w' new) : Mem S W0 w' (new ++ r) := by
 have hnd := M.nd
 simp only [List.map_append, List.nodup_append] at hnd
 have hE : Ext S W0 w' := (M.ext.mono (S' := S ++ l0.map (·.1)) fun k hk => List.mem_append_left _ hk).trans (N.ext.mono fun k hk => List.mem_append_right _ hk) |>.fresh fun k hk => by
  rcases List.mem_append.1 hk with h | h
  ·exact .inl h
  ·obtain ⟨q, hq, rfl⟩ := List.mem_map.1 h
   exact M.own q (List.mem_append_left _ hq)
 have hr : ∀ p ∈ r, p.1 ∉ l0.map (·.1) := fun p hp hc => hnd.2.2 _ hc _ (List.mem_map.2 ⟨p, hp, rfl⟩) rfl
 refine ⟨hE, fun p hp => ?_, ?_, fun p hp => ?_⟩
 ·rcases List.mem_append.1 hp with h | h
  ·exact N.at_ p h
  ·exact (N.ext.block p.1 (M.lt (List.mem_append_right _ h)) (hr p h)).trans (M.at_ p (List.mem_append_right _ h))
 ·simp only [List.map_append, List.nodup_append]
  refine ⟨N.nd, hnd.2.1, fun a ha b hb e => ?_⟩
  obtain ⟨p, hp, rfl⟩ := List.mem_map.1 ha
  obtain ⟨q, hq, rfl⟩ := List.mem_map.1 hb
  rcases N.own p hp with h | h
  ·exact hr q hq (e ▸ h)
  ·have := M.lt (List.mem_append_right _ hq)
   omega
 ·rcases List.mem_append.1 hp with h | h
  ·rcases N.own p h with h1 | h1
   ·obtain ⟨q, hq, e⟩ := List.mem_map.1 h1
    rw [← e]
    exact M.own q (List.mem_append_left _ hq)
   ·exact .inr (Nat.le_trans M.ext.size h1)
  ·exact M.own p (List.mem_append_right _ h)
theorem NwS.staysBut {n0 len : Nat} {o : Obj} {B : List Nat} (hB : ∀ b ∈ B, b < n0) : Stays (keepBut B) (NwS n0 len o) := fun v w w' ⟨b, h1, h2, h3⟩ h => ⟨b, h1, h2, by
 rw [Ext.block h b (Array.getElem?_eq_some_iff.1 h3).1 (fun hb => Nat.lt_irrefl _ (Nat.lt_of_lt_of_le (hB b hb) h2))];exact h3⟩
def IsT2 (v : Value) : Prop := ∃ x y, v = .tuple #[x, y]
inductive XP
 | nw (len : Nat) (o : Obj)
 | t2
 | any
 | pt (off : Nat) (o : Obj)
 | sl (sz n : Nat) (cs : List Value)
def XP.pred (n0 : Nat) : XP → Pred
 | .nw len o => NwS n0 len o
 | .t2 => fun v _ => IsT2 v
 | .any => fun _ _ => True
 | .pt off o => fun v w => ∃ b, v = .pointer (some ⟨b, off, none⟩) ∧ n0 ≤ b ∧ w.heap[b]? = some o
 | .sl sz n cs => fun v w => SlAt w sz v n cs ∧ NewV n0 v
theorem XP.stays {n0 : Nat} {B : List Nat} (hB : ∀ b ∈ B, b < n0) : ∀ x : XP, Stays (keepBut B) (x.pred n0)
 | .nw _ _ => NwS.staysBut hB
 | .t2 => fun _ _ _ h _ => h
 | .any => fun _ _ _ h _ => h
 | .pt _ _ => fun v w w' ⟨b, h1, h2, h3⟩ h => ⟨b, h1, h2, by
  rw [Ext.block h b (Array.getElem?_eq_some_iff.1 h3).1 (fun hb => Nat.lt_irrefl _ (Nat.lt_of_lt_of_le (hB b hb) h2))];exact h3⟩
 | .sl _ _ _ => fun v w w' ⟨h1, h2⟩ h => ⟨h1.laterB (fun b o s k c e hb => Nat.lt_irrefl _ (Nat.lt_of_lt_of_le (hB b hb) (h2 b o s k c e))) h, h2⟩
structure RX where
 ol : List Oper
 n : Nat
 B : List Nat
 Ef : List Nat
 Rl : List (Nat × Nat)
 lk : Row
abbrev ESt := List (Nat × Value) → Row → Prop
def ET (c : Cx) (E : ESt) : SPred := fun σ w => ∃ sl l, E sl l ∧ (∀ q ∈ sl, σ q.1 = q.2) ∧ Mem c.S c.W w l.flatten
def FE (c : Cx) (Q : Exit → Act → World → Prop) (ks : List KF) (x : RX) (k : Nat) (rest : List Oper) (fr : List (Nat × Value)) (xs : List (Nat × XP)) (E : ESt) : Prop :=
 (∀ sl l, E sl l → ∀ q ∈ sl, q.1 < k) → ∀ a w Vs, (∀ w', Ext x.B w w' → Mem c.S c.W w' x.lk.flatten) → (∀ b ∈ x.B, b < w.heap.size) → regOk x.ol.toArray x.n = true → (∀ q ∈ xs, Vs[q.1]? = some (q.2.pred w.heap.size)) →
  MW ⟨keepBut x.B, x.Ef, [], c.P, c.r, x.ol.toArray, x.n, c.n, c.df, a, w, KQ c Q ks, [], x.Rl⟩ k rest fr Vs (ET c E)
theorem xs_app {xs : List (Nat × XP)} {n0 : Nat} {Vs : List Pred} {V : Pred} (h : ∀ q ∈ xs, Vs[q.1]? = some (q.2.pred n0)) : ∀ q ∈ xs, (Vs ++ [V])[q.1]? = some (q.2.pred n0) := fun q hq => by
 have := h q hq
 rw [List.getElem?_append_left (List.getElem?_eq_some_iff.1 this).1, this]
def E0 (l : Row) : ESt := fun sl l' => sl = [] ∧ l' = l
section
variable {c : Cx} {Q : Exit → Act → World → Prop} {ks : List KF} {fr fr' : List (Nat × Value)} {l : Row} {x : RX} {rest rest' : List Oper} {k k' : Nat} {xs : List (Nat × XP)} {E : ESt} {d : Nat} {op : Op} {ty : TypeId} {pos : String} {af : Array Edge} {g : Option (Nat × Bool)}
theorem g_drawE {id : Nat} {ol : List Oper} (n nt : Nat) (B Ef : List Nat) (Rl : List (Nat × Nat)) (l0 lk : Row) [hm : TMix c.P] (hnt : c.n = nt) (hchk : (regOk ol.toArray n && tailOk ol.toArray n && Nat.ble n ol.length && dstOk ol.toArray n nt && effOk ol.toArray n Ef && xOk ol.toArray n Ef [] && relOk ol.toArray n Rl) = true)
  (hp : l.flatten.Perm (l0.flatten ++ lk.flatten)) (hB : ∀ b ∈ B, b ∈ l0.flatten.map (·.1)) (h : FE c Q ks ⟨ol, n, B, Ef, Rl, lk⟩ 0 ol fr [] (E0 l)) : G c Q ks (.code (.region id ol.toArray true)) fr l := fun a w F M =>
 c_drawX (keepBut B) Ef [] Rl (ET c (E0 l)) n F (by rw [hnt];exact hchk) (fun σ w w' ⟨sl, l', h1, h2, h3⟩ hE => ⟨sl, l', h1, h2, h3.later hE⟩) (by simp) (fun σ d hd => ⟨[], l, ⟨rfl, rfl⟩, by simp, M.later (Ext.drawn w d hd)⟩) fun w1 hE hs hok => by
  have M1 := (M.later hE).perm hp
  refine h (by rintro _ _ ⟨rfl, _⟩ q hq;cases hq) a w1 [] (fun w' hE' => M1.laterBut hE' hB) (fun b hb => ?_) hok (by simp)
  obtain ⟨q, hq, e⟩ := List.mem_map.1 (hB b hb)
  rw [← e]
  exact M1.lt (List.mem_append_left _ hq)
theorem fe_c {v : Value} (h : ∀ a w, Frm a c.n c.df fr → Mem c.S c.W w x.lk.flatten → OpTo c.P ⟨some d, op, ty, pos, af, g⟩ a.eval w fun u w' => Ext [] w w' ∧ u = v)
  (hk : FE c Q ks x (k + 1) rest ((d, v) :: fr) xs E) (hlt : flo x.Ef x.Rl [] x.n k op = true := by rfl) (hd : Nat.blt d c.n = true := by rfl) (hg : gOk x.ol.toArray fr g = some true := by rfl) : FE c Q ks x k (⟨some d, op, ty, pos, af, g⟩ :: rest) fr xs E := fun hE a w Vs hM hB hok hx => by
 have hE' : ∀ sl l, E sl l → ∀ q ∈ sl, q.1 < k + 1 := fun sl l h q hq => Nat.lt_succ_of_lt (hE sl l h q hq)
 rcases gOk_true hg with rfl | ⟨j, b, t, rfl, ht, hl⟩
 ·exact mK hok hlt hd (fun a' w' F he => h a' w' F (hM w' he)) (hk hE' a w _ hM hB hok (xs_app hx))
 ·exact mKG hok hlt hd ht hl (fun a' w' F he => h a' w' F (hM w' he)) (hk hE' a w _ hM hB hok (xs_app hx))
theorem fe_v {v : Value} (h : ∀ a w, Frm a c.n c.df fr → Mem c.S c.W w x.lk.flatten → ∀ R : Value → World → Prop, R v w → OpTo c.P ⟨some d, op, ty, pos, af, g⟩ a.eval w R)
  (hk : FE c Q ks x (k + 1) rest ((d, v) :: fr) xs E) (hlt : flo x.Ef x.Rl [] x.n k op = true := by rfl) (hd : Nat.blt d c.n = true := by rfl) (hg : gOk x.ol.toArray fr g = some true := by rfl) : FE c Q ks x k (⟨some d, op, ty, pos, af, g⟩ :: rest) fr xs E :=
 fe_c (fun a w F M => h a w F M _ ⟨Ext.refl _ _, rfl⟩) hk hlt hd hg
theorem fe_off (hk : FE c Q ks x (k + 1) rest ((d, undef) :: fr) xs E) (hlt : flo x.Ef x.Rl [] x.n k op = true := by rfl) (hd : Nat.blt d c.n = true := by rfl) (hg : gOk x.ol.toArray fr g = some false := by rfl) : FE c Q ks x k (⟨some d, op, ty, pos, af, g⟩ :: rest) fr xs E := fun hE a w Vs hM hB hok hx => by
 obtain ⟨j, b, t, v, rfl, ht, hl, ho⟩ := gOk_false hg
 exact mOff hok hlt hd ht hl ho (hk (fun sl l h q hq => Nat.lt_succ_of_lt (hE sl l h q hq)) a w _ hM hB hok (xs_app hx))
def runE (c : Cx) (x : RX) : Nat → Nat → List Oper → List (Nat × Value) → Nat × List Oper × List (Nat × Value)
 | m + 1, k, o :: rest, fr => match o.dst with
  | some d => match Nat.blt d c.n && flo x.Ef x.Rl [] x.n k o.op with
   | true => match gOk x.ol.toArray fr o.guard with
    | some true => match evO c fr o.op with
     | some v => runE c x m (k + 1) rest ((d, v) :: fr)
     | none => (k, o :: rest, fr)
    | some false => runE c x m (k + 1) rest ((d, undef) :: fr)
    | none => (k, o :: rest, fr)
   | false => (k, o :: rest, fr)
  | none => (k, o :: rest, fr)
 | _, k, rest, fr => (k, rest, fr)
theorem fe_run : ∀ (m : Nat) {k k' : Nat} {rest rest' : List Oper} {fr fr' : List (Nat × Value)}, runE c x m k rest fr = (k', rest', fr') → FE c Q ks x k' rest' fr' xs E → FE c Q ks x k rest fr xs E
 | 0, k, k', rest, rest', fr, fr', h, hk => by
  cases rest <;> cases h <;> exact hk
 | m + 1, k, k', [], rest', fr, fr', h, hk => by
  cases h
  exact hk
 | m + 1, k, k', o :: rest, rest', fr, fr', h, hk => by
  obtain ⟨dst, op, ty, pos, af, g⟩ := o
  unfold runE at h
  split at h
  ·rename_i d hd0
   dsimp only at hd0
   subst hd0
   split at h
   ·rename_i hb
    simp only [Bool.and_eq_true] at hb
    split at h
    ·rename_i hg
     split at h
     ·rename_i v hv
      exact fe_v (fun a w F M R r => evO_ok F hv r) (fe_run m h hk) hb.2 hb.1 hg
     ·cases h
      exact hk
    ·rename_i hg
     exact fe_off (fe_run m h hk) hb.2 hb.1 hg
    ·cases h
     exact hk
   ·cases h
    exact hk
  ·cases h
   exact hk
theorem fe_bs {t e : TypeId} {len sz : Nat} {ys : List (Nat × Operand)} {parts : List (Nat × List Value)} {zs cs : List Value} [ht : TU c.P t (.slice e)] [hs : TSz c.P e sz] [hz : TZero c.P e zs] (hv : evP fr ys = some parts)
  (hle : Nat.ble (len * sz) 16777216 = true) (hzl : Nat.beq zs.length sz = true) (hp : putAll (placesL len sz) (zerosL zs (len * sz)) parts = some cs)
  (hk : FE c Q ks x (k + 1) rest fr ((k, .nw len (.cells cs.toArray e (0, 0))) :: xs) E) (hlt : flo x.Ef x.Rl [] x.n k (.buildSlice t len ys.toArray) = true := by rfl) (hnd : notIn d fr = true := by rfl) :
  FE c Q ks x k (⟨some d, .buildSlice t len ys.toArray, ty, pos, af, none⟩ :: rest) fr xs E := fun hE a w Vs hM hB hok hx => by
 intro hlen
 refine mX (V := NwS w.heap.size len (.cells cs.toArray e (0, 0))) hok hlt hnd (NwS.staysBut hB) (fun a' w' F' E' D' => o_buildSlice F' (Mem.start [] w') hv hle hzl hp fun b w'' M'' => ⟨M''.ext, b, rfl, Nat.le_trans E'.size ((M''.own _ List.mem_cons_self).resolve_left (by simp)), M''.heap .here⟩) (hk (fun sl l h q hq => Nat.lt_succ_of_lt (hE sl l h q hq)) a w _ hM hB hok fun q hq => ?_) hlen
 rcases List.mem_cons.1 hq with rfl | hq
 ·show (Vs ++ [NwS w.heap.size len (.cells cs.toArray e (0, 0))])[k]? = some (NwS w.heap.size len (.cells cs.toArray e (0, 0)))
  rw [← hlen]
  simp
 ·exact xs_app hx q hq
def OpF (c : Cx) (x : RX) (xs : List (Nat × XP)) (o : Oper) (fr : List (Nat × Value)) (l : Row) (Ψ : Value → Row → Prop) : Prop :=
 ∀ a w, Frm a c.n c.df fr → Mem c.S c.W w l.flatten → (∀ q ∈ xs, q.1 ∈ depsOf o → ∃ n0, q.2.pred n0 (slotV x.ol.toArray q.1 a) w) → OpTo c.P o a.eval w fun v w' => Ext x.B w w' ∧ ∃ r, Ψ v r ∧ Mem c.S c.W w' r.flatten
def dsFr : List (Nat × Nat) → List (Nat × Value) → List (Nat × Value)
 | [], _ => []
 | p :: r, sl => match look sl p.1 with
  | some v => (p.2, v) :: dsFr r sl
  | none => dsFr r sl
def dsOk (ops : Array Oper) (o : Oper) (Ef : List Nat) (ds : List (Nat × Nat)) : Bool := ds.all fun p => (depsOf o).contains p.1 && Ef.contains p.1 && (match (ops[p.1]?).bind (·.dst) with | some t => Nat.beq t p.2 | none => false)
theorem look_mem : ∀ {sl : List (Nat × Value)} {j : Nat} {v : Value}, look sl j = some v → (j, v) ∈ sl
 | [], _, _, h => by simp [look] at h
 | (t, u) :: r, j, v, h => by
  unfold look at h
  split at h
  ·rename_i hb
   cases h
   simp [Nat.eq_of_beq_eq_true hb]
  ·exact List.mem_cons_of_mem _ (look_mem h)
theorem dsFr_frm {o : Oper} {a : Act} {sl : List (Nat × Value)} (F : Frm a c.n c.df fr) (hs : ∀ q ∈ sl, q.1 ∈ x.Ef → q.1 ∈ depsOf o → slotV x.ol.toArray q.1 a = q.2) : ∀ {ds : List (Nat × Nat)}, dsOk x.ol.toArray o x.Ef ds = true → Frm a c.n c.df (dsFr ds sl ++ fr)
 | [], _ => F
 | (j, t) :: r, h => by
  simp only [dsOk, List.all_cons, Bool.and_eq_true] at h
  have ih := dsFr_frm F hs (ds := r) h.2
  unfold dsFr
  split
  ·rename_i v hv
   refine ih.know ?_
   have h1 := hs _ (look_mem hv) (by simpa using h.1.1.2) (by simpa using h.1.1.1)
   have h2 := h.1.2
   dsimp only at h1 h2
   unfold slotV at h1
   revert h1 h2
   cases ((x.ol.toArray[j]?).bind (·.dst)) with
   | none => intro _ h2;cases h2
   | some t' => intro h1 h2;rw [← Nat.eq_of_beq_eq_true h2];exact h1
  ·exact ih
theorem fe_eff (Ψ : List (Nat × Value) → Row → Value → Row → Prop) (ds : List (Nat × Nat)) (p : XP) (h : ∀ sl l, E sl l → OpF c x xs ⟨some d, op, ty, pos, af, none⟩ (dsFr ds sl ++ fr) l (Ψ sl l)) (hp : ∀ sl l v r, E sl l → Ψ sl l v r → ∀ n0 w, p.pred n0 v w)
  (hk : FE c Q ks x (k + 1) rest fr ((k, p) :: xs) (fun s r => ∃ sl l v, E sl l ∧ Ψ sl l v r ∧ s = (k, v) :: sl))
  (hlt : effX x.Ef x.Rl [] x.n k op = true := by rfl) (hnd : notIn d fr = true := by rfl) (hds : dsOk x.ol.toArray ⟨some d, op, ty, pos, af, none⟩ x.Ef ds = true := by rfl) :
  FE c Q ks x k (⟨some d, op, ty, pos, af, none⟩ :: rest) fr xs E := fun hE a w Vs hM hB hok hx => by
 obtain ⟨h1, h2, h3, h4, hrf⟩ := effX_spec hlt
 rintro rfl hT0 hPK
 have hsT : StaysT (keepBut x.B) (ET c fun s r => ∃ sl l v, E sl l ∧ Ψ sl l v r ∧ s = (Vs.length, v) :: sl) := fun σ w w' ⟨sl, l', q1, q2, q3⟩ hE => ⟨sl, l', q1, q2, q3.later hE⟩
 refine mw_gen hok h1 (XP.stays hB p) hsT hT0.2 (fun hh => absurd h2 hh) hPK (fun hC ho' => cov_same (fun d' hd' => by cases hd';exact hnd) hC ho') (fun a' w' σ F he hdp hT hPp hσ hrel => ?_) (hk ?_ a w (Vs ++ [p.pred w.heap.size]) hM hB hok (fun q hq => ?_) (by simp) ⟨hsT, XT.nil rfl⟩ hPK)
 ·simp only [Region.wanted, if_true]
  obtain ⟨sl, l, e1, e2, M⟩ := hT h2
  refine (h sl l e1 a' w' (dsFr_frm F (fun q hq hf hd => ?_) hds) M (fun q hq hd => ⟨_, hdp q.1 hd _ (hx q hq)⟩)).mono fun v w'' ⟨q1, r, q2, q3⟩ => ⟨q1, hp _ _ _ _ e1 q2 _ _, fun hh => absurd (h3.symm.trans hh) Bool.false_ne_true, fun hh => absurd h2 hh, fun _ => ⟨(Vs.length, v) :: sl, r, ⟨sl, l, v, e1, q2, rfl⟩, ?_, q3⟩, .none h4, fun q hq e => (relFree_spec hrf q hq e).elim⟩
  ·rw [← hσ q.1 (.inl hf) hd]
   exact e2 q hq
  ·intro q hq
   rcases List.mem_cons.1 hq with rfl | hq
   ·simp [updS]
   ·have := hE sl l e1 q hq
    simp only [updS]
    rw [if_neg (by omega)]
    exact e2 q hq
 ·rintro s r ⟨sl, l, v, e1, _, rfl⟩ q hq
  rcases List.mem_cons.1 hq with rfl | hq
  ·exact Nat.lt_succ_self _
  ·exact Nat.lt_succ_of_lt (hE sl l e1 q hq)
 ·rcases List.mem_cons.1 hq with rfl | hq
  ·simp
  ·exact xs_app hx q hq
theorem fe_effN (Ψ : List (Nat × Value) → Row → Row → Prop) (ds : List (Nat × Nat)) (h : ∀ sl l, E sl l → OpF c x xs ⟨none, op, ty, pos, af, none⟩ (dsFr ds sl ++ fr) l (fun _ => Ψ sl l))
  (hk : FE c Q ks x (k + 1) rest fr xs (fun s r => ∃ l, E s l ∧ Ψ s l r))
  (hlt : effX x.Ef x.Rl [] x.n k op = true := by rfl) (hds : dsOk x.ol.toArray ⟨none, op, ty, pos, af, none⟩ x.Ef ds = true := by rfl) :
  FE c Q ks x k (⟨none, op, ty, pos, af, none⟩ :: rest) fr xs E := fun hE a w Vs hM hB hok hx => by
 obtain ⟨h1, h2, h3, h4, hrf⟩ := effX_spec hlt
 rintro rfl hT0 hPK
 have hsT : StaysT (keepBut x.B) (ET c fun s r => ∃ l, E s l ∧ Ψ s l r) := fun σ w w' ⟨sl, l', q1, q2, q3⟩ hE => ⟨sl, l', q1, q2, q3.later hE⟩
 refine mw_gen hok h1 (Kn.stays _ undef) hsT hT0.2 (fun hh => absurd h2 hh) hPK (fun hC ho' => cov_same (fun d' hd' => by cases hd') hC ho') (fun a' w' σ F he hdp hT hPp hσ hrel => ?_) (hk ?_ a w (Vs ++ [Kn undef]) hM hB hok (xs_app hx) (by simp) ⟨hsT, XT.nil rfl⟩ hPK)
 ·simp only [Region.wanted, if_true]
  obtain ⟨sl, l, e1, e2, M⟩ := hT h2
  refine (h sl l e1 a' w' (dsFr_frm F (fun q hq hf hd => ?_) hds) M (fun q hq hd => ⟨_, hdp q.1 hd _ (hx q hq)⟩)).mono fun v w'' ⟨q1, r, q2, q3⟩ => ⟨q1, rfl, fun hh => absurd (h3.symm.trans hh) Bool.false_ne_true, fun hh => absurd h2 hh, fun _ => ⟨sl, r, ⟨l, e1, q2⟩, ?_, q3⟩, .none h4, fun q hq e => (relFree_spec hrf q hq e).elim⟩
  ·rw [← hσ q.1 (.inl hf) hd]
   exact e2 q hq
  ·intro q hq
   have := hE sl l e1 q hq
   show updS σ Vs.length undef q.1 = q.2
   simp only [updS]
   rw [if_neg (by omega)]
   exact e2 q hq
 ·rintro s r ⟨l, e1, _⟩ q hq
  exact Nat.lt_succ_of_lt (hE s l e1 q hq)
def relAll (ops : Array Oper) : List (Nat × Nat) → List (Nat × Value) → Option (List (Nat × Value))
 | [], sl => some sl
 | q :: r, sl => match look sl q.2 with
  | some u => match ops[q.1]? with
   | some o => match relV o.op u with
    | some v => relAll ops r ((q.1, v) :: sl)
    | none => none
   | none => none
  | none => none
def toFr (ops : Array Oper) : List (Nat × Value) → List (Nat × Value)
 | [] => []
 | (j, v) :: r => match (ops[j]?).bind (·.dst) with
  | some t => (t, v) :: toFr ops r
  | none => toFr ops r
theorem relAll_ok {ops : Array Oper} {a : Act} : ∀ {Rl : List (Nat × Nat)} {sl sl' : List (Nat × Value)}, (∀ q ∈ Rl, ∃ oq, ops[q.1]? = some oq ∧ relV oq.op (slotV ops q.2 a) = some (slotV ops q.1 a)) → (∀ q ∈ sl, slotV ops q.1 a = q.2) → relAll ops Rl sl = some sl' → ∀ q ∈ sl', slotV ops q.1 a = q.2
 | [], sl, sl', _, h2, h => by
  cases h
  exact h2
 | p :: r, sl, sl', h1, h2, h => by
  unfold relAll at h
  split at h
  ·rename_i u hu
   split at h
   ·rename_i o ho
    split at h
    ·rename_i v hv
     refine relAll_ok (fun q hq => h1 q (List.mem_cons_of_mem _ hq)) (fun q hq => ?_) h
     rcases List.mem_cons.1 hq with rfl | hq
     ·obtain ⟨oq, g1, g2⟩ := h1 p List.mem_cons_self
      rw [ho] at g1
      cases g1
      have h3 := h2 _ (look_mem hu)
      dsimp only at h3
      rw [h3, hv] at g2
      injection g2 with g2
      exact g2.symm
     ·exact h2 q hq
    ·cases h
   ·cases h
  ·cases h
theorem toFr_frm {ops : Array Oper} {a : Act} (F : Frm a c.n c.df fr) : ∀ {sl : List (Nat × Value)}, (∀ q ∈ sl, slotV ops q.1 a = q.2) → Frm a c.n c.df (toFr ops sl ++ fr)
 | [], _ => F
 | (j, v) :: r, h => by
  have ih := toFr_frm F fun q hq => h q (List.mem_cons_of_mem _ hq)
  have h1 := h _ List.mem_cons_self
  unfold slotV at h1
  dsimp only at h1
  unfold toFr
  split
  ·rename_i t ht
   rw [ht] at h1
   exact ih.know h1
  ·exact ih
theorem fe_done (hn : Nat.beq k x.n = true) (hEf : ∀ sl l, E sl l → ∀ q ∈ sl, q.1 ∈ x.Ef) (h : ∀ sl l, E sl l → ∃ s, relAll x.ol.toArray x.Rl sl = some s ∧ G c Q ks (.ops x.ol.toArray rest) (toFr x.ol.toArray s ++ fr) l) : FE c Q ks x k rest fr xs E := fun hE a w Vs hM hB hok hx => by
 refine xDone hn fun a' w' F he hV hT _ hR => ?_
 obtain ⟨sl, l, e1, e2, M⟩ := hT
 obtain ⟨s, h1, h2⟩ := h sl l e1
 refine h2 a' w' (toFr_frm F (relAll_ok hR (fun q hq => ?_) h1)) M
 rw [← e2 q hq]
 simp [slotE, hEf sl l e1 q hq]
theorem opf_v {o : Oper} {v : Value} (h : ∀ a w, Frm a c.n c.df fr → Mem c.S c.W w l.flatten → ∀ R : Value → World → Prop, R v w → OpTo c.P o a.eval w R) : OpF c x xs o fr l (fun u r => u = v ∧ r = l) := fun a w F M _ =>
 h a w F M _ ⟨Ext.refl _ _, l, ⟨rfl, rfl⟩, M⟩
theorem opf_callN {ι : Type} (val : ι → Value) (p : ι → Prop) (li : ι → Row) {y : Operand} {fn : FuncId} {ys : List Operand} {ts : Array TypeId} {vs : List Value} [hb : TBody c.P fn] (hx : Ev fr y = some (.func (.func fn) #[] #[])) (ha : evL fr ys = some vs)
  (hc : ∀ w, Mem c.S c.W w l.flatten → Cal c.P fn vs.toArray w fun v w' => ∃ i, v = val i ∧ p i ∧ Mem [] w w' (li i).flatten) :
  OpF c x xs ⟨some d, .call ⟨.value y, ys.toArray, ts⟩, ty, pos, af, none⟩ fr l (fun u r => ∃ i, u = val i ∧ p i ∧ r = li i ++ l) := fun a w F M _ =>
 o_call (F.e hx) (F.evs ha) (Cal.mono (hc w M) fun u w' h => by
  obtain ⟨i, h1, h2, N⟩ := h
  exact ⟨N.ext.any, _, ⟨i, h1, h2, rfl⟩, by rw [List.flatten_append];exact M.joins N⟩)
theorem opf_callT {ι : Type} (j : Nat) (val : ι → Value) (p : ι → Prop) (ob : ι → Obj) (li : ι → Row) {f : ι → Row} {b : Nat} {o : Obj} {y : Operand} {fn : FuncId} {ys : List Operand} {ts : Array TypeId} {vs : List Value} [hb : TBody c.P fn] (hx : Ev fr y = some (.func (.func fn) #[] #[])) (ha : evL fr ys = some vs)
  (hl : nthO l j = some [(b, o)]) (hB : b ∈ x.B) (hc : ∀ w, Mem c.S c.W w l.flatten → Cal c.P fn vs.toArray w fun v w' => ∃ i, v = val i ∧ p i ∧ Mem [b] w w' ((b, ob i) :: (li i).flatten)) (hf : ∀ i, setO l j [(b, ob i)] = some (f i)) :
  OpF c x xs ⟨some d, .call ⟨.value y, ys.toArray, ts⟩, ty, pos, af, none⟩ fr l (fun u r => ∃ i, u = val i ∧ p i ∧ r = li i ++ f i) := fun a w F M _ =>
 o_call (F.e hx) (F.evs ha) (Cal.mono (hc w M) fun u w' h => by
  obtain ⟨i, h1, h2, N⟩ := h
  refine ⟨N.ext.mono fun k hk => by simp at hk;subst hk;exact hB, _, ⟨i, h1, h2, rfl⟩, ?_⟩
  obtain ⟨r, p1, p2⟩ := nthO_perm hl (hf i)
  have N' : Mem (([(b, o)] : List (Nat × Obj)).map (·.1)) w w' ((b, ob i) :: (li i).flatten) := N
  refine ((M.perm p1).joinB N').perm ?_
  rw [List.flatten_append]
  refine List.Perm.trans ?_ (List.Perm.append_left _ p2.symm)
  simpa using (List.perm_middle (a := (b, ob i)) (l₁ := (li i).flatten) (l₂ := r)).symm)
def EI {ι : Type} (P : ι → Prop) (sl : ι → List (Nat × Value)) (li : ι → Row) : ESt := fun s r => ∃ i, P i ∧ s = sl i ∧ r = li i
theorem fe_start (h : FE c Q ks x k rest fr xs (EI (ι := Unit) (fun _ => True) (fun _ => []) (fun _ => l))) : FE c Q ks x k rest fr xs (E0 l) := by
 have : E0 l = EI (ι := Unit) (fun _ => True) (fun _ => []) (fun _ => l) := by
  funext s r
  simp [E0, EI]
 rw [this]
 exact h
section
variable {ι : Type} {P : ι → Prop} {sl : ι → List (Nat × Value)} {li : ι → Row}
theorem fe_op {κ : Type} (val : ι → κ → Value) (p : ι → κ → Prop) (f : ι → κ → Row) (ds : List (Nat × Nat)) (xp : XP)
  (h : ∀ i, P i → OpF c x xs ⟨some d, op, ty, pos, af, none⟩ (dsFr ds (sl i) ++ fr) (li i) (fun v r => ∃ j, v = val i j ∧ p i j ∧ r = f i j)) (hp : ∀ i j n0 w, xp.pred n0 (val i j) w)
  (hk : FE c Q ks x (k + 1) rest fr ((k, xp) :: xs) (EI (ι := ι × κ) (fun q => P q.1 ∧ p q.1 q.2) (fun q => (k, val q.1 q.2) :: sl q.1) (fun q => f q.1 q.2)))
  (hlt : effX x.Ef x.Rl [] x.n k op = true := by rfl) (hnd : notIn d fr = true := by rfl) (hds : dsOk x.ol.toArray ⟨some d, op, ty, pos, af, none⟩ x.Ef ds = true := by rfl) :
  FE c Q ks x k (⟨some d, op, ty, pos, af, none⟩ :: rest) fr xs (EI P sl li) := by
 refine fe_eff (fun s _ v r => ∃ i j, P i ∧ p i j ∧ s = sl i ∧ v = val i j ∧ r = f i j) ds xp ?_ ?_ ?_ hlt hnd hds
 ·rintro _ _ ⟨i, hi, rfl, rfl⟩ a w F M hx
  refine (h i hi a w F M hx).mono fun v w' ⟨q1, r, ⟨j, q2, q3, q4⟩, q5⟩ => ⟨q1, r, ⟨i, j, hi, q3, rfl, q2, q4⟩, q5⟩
 ·rintro s r v r' _ ⟨i, j, _, _, _, rfl, _⟩ n0 w
  exact hp i j n0 w
 ·have : (fun s r => ∃ sl' l v, EI P sl li sl' l ∧ (∃ i j, P i ∧ p i j ∧ sl' = sl i ∧ v = val i j ∧ r = f i j) ∧ s = (k, v) :: sl') = EI (ι := ι × κ) (fun q => P q.1 ∧ p q.1 q.2) (fun q => (k, val q.1 q.2) :: sl q.1) (fun q => f q.1 q.2) := by
   funext s r
   apply propext
   constructor
   ·rintro ⟨sl', l, v, _, ⟨i, j, h1, h2, rfl, rfl, rfl⟩, rfl⟩
    exact ⟨(i, j), ⟨h1, h2⟩, rfl, rfl⟩
   ·rintro ⟨⟨i, j⟩, ⟨h1, h2⟩, rfl, rfl⟩
    exact ⟨sl i, li i, val i j, ⟨i, h1, rfl, rfl⟩, ⟨i, j, h1, h2, rfl, rfl, rfl⟩, rfl⟩
  rw [this]
  exact hk
theorem fe_opK {v : Value} (f : ι → Row) (ds : List (Nat × Nat)) (h : ∀ i, P i → OpF c x xs ⟨some d, op, ty, pos, af, none⟩ (dsFr ds (sl i) ++ fr) (li i) (fun u r => u = v ∧ r = f i))
  (hk : FE c Q ks x (k + 1) rest ((d, v) :: fr) xs (EI P sl f))
  (hlt : effX x.Ef x.Rl [] x.n k op = true := by rfl) (hd : Nat.blt d c.n = true := by rfl) (hds : dsOk x.ol.toArray ⟨some d, op, ty, pos, af, none⟩ x.Ef ds = true := by rfl) :
  FE c Q ks x k (⟨some d, op, ty, pos, af, none⟩ :: rest) fr xs (EI P sl li) := fun hE a w Vs hM hB hok hx => by
 obtain ⟨h1, h2, h3, h4, hrf⟩ := effX_spec hlt
 rintro rfl hT0 hPK
 have hsT : StaysT (keepBut x.B) (ET c (EI P sl f)) := fun σ w w' ⟨s, l', q1, q2, q3⟩ hE => ⟨s, l', q1, q2, q3.later hE⟩
 have hlt' : ∀ i, P i → ∀ q ∈ sl i, q.1 < Vs.length := fun i hi q hq => hE _ _ ⟨i, hi, rfl, rfl⟩ q hq
 refine mw_gen hok h1 (Kn.stays _ v) hsT hT0.2 (fun hh => absurd h2 hh) hPK (fun hC ho => cov_known rfl hd hC ho) (fun a' w' σ F he hdp hT hPp hσ hrel => ?_) (hk ?_ a w (Vs ++ [Kn v]) hM hB hok (xs_app hx) (by simp) ⟨hsT, XT.nil rfl⟩ hPK)
 ·simp only [Region.wanted, if_true]
  obtain ⟨_, _, ⟨i, hi, rfl, rfl⟩, e2, M⟩ := hT h2
  refine (h i hi a' w' (dsFr_frm F (fun q hq hf hd => ?_) hds) M (fun q hq hd => ⟨_, hdp q.1 hd _ (hx q hq)⟩)).mono fun u w'' ⟨q1, r, ⟨q2, q4⟩, q3⟩ => ⟨q1, q2, fun hh => absurd (h3.symm.trans hh) Bool.false_ne_true, fun hh => absurd h2 hh, fun _ => ⟨sl i, r, ⟨i, hi, rfl, q4⟩, ?_, q3⟩, .none h4, fun q hq e => (relFree_spec hrf q hq e).elim⟩
  ·rw [← hσ q.1 (.inl hf) hd]
   exact e2 q hq
  ·intro q hq
   have := hlt' i hi q hq
   show updS σ Vs.length u q.1 = q.2
   simp only [updS]
   rw [if_neg (by omega)]
   exact e2 q hq
 ·rintro _ _ ⟨i, hi, rfl, rfl⟩ q hq
  exact Nat.lt_succ_of_lt (hlt' i hi q hq)
theorem fe_opN (f : ι → Row) (ds : List (Nat × Nat)) (h : ∀ i, P i → OpF c x xs ⟨none, op, ty, pos, af, none⟩ (dsFr ds (sl i) ++ fr) (li i) (fun _ r => r = f i))
  (hk : FE c Q ks x (k + 1) rest fr xs (EI P sl f))
  (hlt : effX x.Ef x.Rl [] x.n k op = true := by rfl) (hds : dsOk x.ol.toArray ⟨none, op, ty, pos, af, none⟩ x.Ef ds = true := by rfl) :
  FE c Q ks x k (⟨none, op, ty, pos, af, none⟩ :: rest) fr xs (EI P sl li) := by
 refine fe_effN (fun s _ r => ∃ i, P i ∧ s = sl i ∧ r = f i) ds ?_ ?_ hlt hds
 ·rintro _ _ ⟨i, hi, rfl, rfl⟩ a w F M hx
  refine (h i hi a w F M hx).mono fun v w' ⟨q1, r, q2, q5⟩ => ⟨q1, r, ⟨i, hi, rfl, q2⟩, q5⟩
 ·have : (fun s r => ∃ l, EI P sl li s l ∧ ∃ i, P i ∧ s = sl i ∧ r = f i) = EI P sl f := by
   funext s r
   apply propext
   constructor
   ·rintro ⟨l, _, h⟩
    exact h
   ·rintro ⟨i, h1, h2, h3⟩
    exact ⟨li i, ⟨i, h1, h2, rfl⟩, i, h1, h2, h3⟩
  rw [this]
  exact hk
theorem fe_fin (hn : Nat.beq k x.n = true) (hEf : ∀ i, P i → ∀ q ∈ sl i, q.1 ∈ x.Ef) (h : ∀ i, P i → ∃ s, relAll x.ol.toArray x.Rl (sl i) = some s ∧ G c Q ks (.ops x.ol.toArray rest) (toFr x.ol.toArray s ++ fr) (li i)) : FE c Q ks x k rest fr xs (EI P sl li) :=
 fe_done hn (by rintro _ _ ⟨i, hi, rfl, rfl⟩;exact hEf i hi) (by rintro _ _ ⟨i, hi, rfl, rfl⟩;exact h i hi)
end
theorem opf_callK (j : Nat) {v : Value} {o' : Obj} {l' : Row} {b : Nat} {o : Obj} {y : Operand} {fn : FuncId} {ys : List Operand} {ts : Array TypeId} {vs : List Value} [hb : TBody c.P fn] (hx : Ev fr y = some (.func (.func fn) #[] #[])) (ha : evL fr ys = some vs)
  (hl : nthO l j = some [(b, o)]) (hB : b ∈ x.B) (hc : ∀ w, Mem c.S c.W w l.flatten → Cal c.P fn vs.toArray w fun u w' => u = v ∧ Mem [b] w w' [(b, o')]) (hf : setO l j [(b, o')] = some l') :
  OpF c x xs ⟨some d, .call ⟨.value y, ys.toArray, ts⟩, ty, pos, af, none⟩ fr l (fun u r => u = v ∧ r = l') := fun a w F M hX =>
 (opf_callT (ι := Unit) j (fun _ => v) (fun _ => True) (fun _ => o') (fun _ => []) hx ha hl hB (fun w M => Cal.mono (hc w M) fun u w' h => ⟨(), h.1, trivial, by simpa using h.2⟩) (fun _ => hf) a w F M hX).mono fun u w' ⟨q1, r, ⟨_, q2, _, q3⟩, q4⟩ => ⟨q1, r, ⟨q2, q3⟩, q4⟩
theorem g_callT {ι : Type} (i : Nat) (val : ι → Value) (p : ι → Prop) (ob : ι → Obj) (li : ι → Row) {f : ι → Row} {b : Nat} {o : Obj} {aa : Array Oper} {y : Operand} {fn : FuncId} {ys : List Operand} {ts : Array TypeId} {vs : List Value} [hb : TBody c.P fn] (hx : Ev fr y = some (.func (.func fn) #[] #[])) (ha : evL fr ys = some vs)
  (hl : nthO l i = some [(b, o)]) (hc : ∀ w, Mem c.S c.W w l.flatten → Cal c.P fn vs.toArray w fun v w' => ∃ j, v = val j ∧ p j ∧ Mem [b] w w' ((b, ob j) :: (li j).flatten)) (hf : ∀ j, setO l i [(b, ob j)] = some (f j))
  (hk : ∀ j, p j → G c Q ks (.ops aa rest) ((d, val j) :: fr) (li j ++ f j)) (hd : Nat.blt d c.n = true := by rfl) (hg : gOk aa fr g = some true := by rfl) : G c Q ks (.ops aa (⟨some d, .call ⟨.value y, ys.toArray, ts⟩, ty, pos, af, g⟩ :: rest)) fr l :=
 g_op rfl hd hg fun a w F M => o_call (F.e hx) (F.evs ha) (Cal.mono (hc w M) fun u w' h a' F' => by
  obtain ⟨j, rfl, h2, N⟩ := h
  obtain ⟨r, p1, p2⟩ := nthO_perm hl (hf j)
  have N' : Mem (([(b, o)] : List (Nat × Obj)).map (·.1)) w w' ((b, ob j) :: (li j).flatten) := N
  refine hk j h2 a' w' F' (((M.perm p1).joinB N').perm ?_)
  rw [List.flatten_append]
  refine List.Perm.trans ?_ (List.Perm.append_left _ p2.symm)
  simpa using (List.perm_middle (a := (b, ob j)) (l₁ := (li j).flatten) (l₂ := r)).symm)
theorem g_callT1 (i : Nat) {v : Value} {o' : Obj} {b : Nat} {o : Obj} {l' : Row} {aa : Array Oper} {y : Operand} {fn : FuncId} {ys : List Operand} {ts : Array TypeId} {vs : List Value} [hb : TBody c.P fn] (hx : Ev fr y = some (.func (.func fn) #[] #[])) (ha : evL fr ys = some vs)
  (hl : nthO l i = some [(b, o)]) (hc : ∀ w, Mem c.S c.W w l.flatten → Cal c.P fn vs.toArray w fun u w' => u = v ∧ Mem [b] w w' [(b, o')]) (hf : setO l i [(b, o')] = some l')
  (hk : G c Q ks (.ops aa rest) ((d, v) :: fr) l') (hd : Nat.blt d c.n = true := by rfl) (hg : gOk aa fr g = some true := by rfl) : G c Q ks (.ops aa (⟨some d, .call ⟨.value y, ys.toArray, ts⟩, ty, pos, af, g⟩ :: rest)) fr l :=
 g_callT (ι := Unit) i (fun _ => v) (fun _ => True) (fun _ => o') (fun _ => []) hx ha hl (fun w M => Cal.mono (hc w M) fun u w' h => ⟨(), h.1, trivial, by simpa using h.2⟩) (fun _ => hf) (fun _ _ => hk) hd hg
end
theorem g_startB {P : Program} {f : FuncId} {fn : Func} {x : Code} {vs : List Value} {W : World} {R : Value → World → Prop} {n : Nat} (S : List Nat) {b : Nat} {o : Obj} {flds : List (Nat × Nat × Nat)} {slcs : List Nat} (hb : W.heap[b]? = some o) (hbS : b ∈ S) (hf : (flds.all fun q => fieldAtB P q.1 q.2.1 q.2.2) = true) (hs : (slcs.all fun t => isSlB P t) = true)
  (hfn : P.funcs[f]? = some fn) (hx : fn.body = some x) (hn : fn.ntmps = n) (hle : Nat.ble vs.length n = true)
  (h : G ⟨P, none, n, [], S, W, flds, slcs, hf, hs⟩ (Post P fn R) [] (.code x) (number 0 vs) [[(b, o)]]) : Cal P f vs.toArray W R :=
 fn_ofM S hfn hx hn hle fun a w F M hw => h a w F (M.came hw hb hbS (by simp))
section
open Go.RowKit
attribute [local irreducible] OpTo wpListIn Code.wpIn MW Cal
def ipC (a : List Int) : List Value := a.map (Value.int .u8)
def clampB (b : Int) : Int := if 128 < (if b < 0 then 0 else b) then 128 else (if b < 0 then 0 else b)
def keepN (n i : Int) : Int := if 8 < (if n - 8 * i < 0 then 0 else n - 8 * i) then 8 else (if n - 8 * i < 0 then 0 else n - 8 * i)
def maskAt (a : List Int) (n : Int) (i : Nat) : Int := bitsOf .andNot .u8 (a.getD i 0) (Int.fdiv 255 (2 ^ min (keepN n i).toNat 8))
def mrow (a : List Int) (n : Int) (i : Nat) : List Value := (List.range 16).map (fun j => if j < i then .int .u8 (maskAt a n j) else .int .u8 0) ++ [.int .i64 n]
theorem nth_ip {a : List Int} {i : Nat} (h : i < a.length) : nth (ipC a) (0 + (i : Int).toNat * 1) = some (.int .u8 (a.getD i 0)) := by
 rw [nth_spec];simp [ipC, h]
theorem put1 {xs : List Value} {off q : Nat} (v : Value) (h : off = q) (hq : q < xs.length) : put xs off [v] = some (xs.set q v) := by
 subst h
 rw [put_of _ _ _ (by simp;omega)]
 congr 1
 have := splice_set xs off v [] hq
 simp only [splice, List.length_nil, List.nil_append, Nat.add_zero, List.take_append_drop] at this
 exact this.symm
theorem put_mrow {a : List Int} {n : Int} {i : Nat} (h : i < 16) : put (mrow a n i) (0 + 0 + (i : Int).toNat * 1) [.int .u8 (maskAt a n i)] = some (mrow a n (i + 1)) := by
 rw [put1 (q := i) _ (by omega) (by simp [mrow];omega)]
 congr 1
 unfold mrow
 rw [List.set_append_left _ _ (by simpa using h)]
 congr 1
 apply List.ext_getElem (by simp)
 intro j h1 h2
 simp only [List.getElem_set, List.getElem_map, List.getElem_range]
 split
 ·subst_vars;simp
 ·have : j < i ↔ j < i + 1 := by omega
  simp [this]
theorem mask_c (a : List Int) (ha : a.length = 16) (bits : Int) (W : World) :
  Cal Tryz.prog 179 [.agg (ipC a).toArray, .int .i64 bits].toArray W fun v w' => v = .agg (mrow a (clampB bits) 16).toArray ∧ Ext [] W w' := by
 obtain ⟨ip, rfl⟩ : ∃ ip, ip = a := ⟨_, rfl⟩
 refine fn_ofM (n := 33) [] Tryz.func179 rfl rfl rfl ?_
 intro a w F M hwW
 refine c_seq (c_region ?_)
 (refine sD F (o_box M (F.e rfl) rfl ?_);clear F M;intro b1 w M a F)
 (refine sD F (o_alloc M ?_);clear F M;intro b2 w M a F)
 with_reducible refine l_nil (q_then (c_seq (c_region ?_)))
 refine sD F (o_move (F.e rfl) fun a F => sD F (o_max (F.e rfl) (F.e rfl) fun a F => sD F (o_min (F.e rfl) (F.e rfl) fun a F => sD F (o_build F rfl rfl ?_))));iterate 4 clear F a
 intro a F
 (refine sD F (o_alloc M ?_);clear F M;intro b3 w M a F)
 (refine stepN rfl F (o_storeA M (F.e rfl) (F.e rfl) (by rfl) (by rfl) (by repeat constructor) (by rfl) (by repeat constructor) ?_);clear F M;intro w M a F)
 with_reducible refine l_nil (q_then (c_seq (c_seq (c_region ?_))))
 refine sD F (o_move (F.e rfl) ?_);clear F a;intro a F
 with_reducible refine l_nil (q_then (c_block ?_))
 refine c_loop (fun k a w => ∃ i : Nat, k = 16 - i ∧ i ≤ 16 ∧ Frm a 33 [] [(12, .int .i64 i), (5, .pointer (some ⟨b3, 0, none⟩)), (4, .pointer (some ⟨b2, 0, none⟩)), (2, .pointer (some ⟨b1, 0, none⟩))] ∧ Mem [] W w [(b3, .cells (mrow ip (clampB bits) i).toArray 65 (0, 0)), (b2, .cells #[.int .u8 0, .int .u8 0, .int .u8 0, .int .u8 0, .int .u8 0, .int .u8 0, .int .u8 0, .int .u8 0, .int .u8 0, .int .u8 0, .int .u8 0, .int .u8 0, .int .u8 0, .int .u8 0, .int .u8 0, .int .u8 0, .int .i64 0] 65 (0, 0)), (b1, .cells (ipC ip).toArray 63 (0, 0))]) 16 ⟨0, rfl, by omega, F.only [12, 5, 4, 2] rfl, M⟩ ?_
 clear F M
 have hcb : 0 ≤ clampB bits ∧ clampB bits ≤ 128 := by unfold clampB;split <;> (try split) <;> omega
 rintro k a w ⟨i, hk, hi, F, M⟩
 refine c_seq (c_region ?_)
 refine sD F (o_lss (F.e rfl) (F.e rfl) ?_);clear F a;intro a F
 with_reducible refine l_nil (q_then (c_seq ?_))
 refine c_if F rfl (fun hc => ?_) (fun hc => ?_)
 ·replace hc := dqU hc
  have hlt : i < 16 := by omega
  with_reducible refine c_skip (q_then (c_seq (c_block (c_seq (c_region ?_)))))
  refine sD F (o_move (F.e rfl) fun a F => sD F (o_assign (F.e rfl) ?_));iterate 2 clear F a
  intro a F
  with_reducible refine l_nil (q_then (c_seq (c_region ?_)))
  refine sD F (o_fieldAddr (F.e rfl) fun a F => sD F (o_load1 M (F.e rfl) (by repeat constructor) (by first | assumption | rfl) ?_));iterate 2 clear F a
  intro a F
  refine sD F (o_move (F.e rfl) fun a F => sD F (o_mul (F.e rfl) (F.e rfl) (w_i64 (by omega) (by omega)) fun a F => sD F (o_sub (F.e rfl) (F.e rfl) (w_i64 (by omega) (by omega)) fun a F => sD F (o_max (F.e rfl) (F.e rfl) fun a F => sD F (o_min (F.e rfl) (F.e rfl) fun a F => sD F (o_assign (F.e rfl) ?_))))));iterate 6 clear F a
  intro a F
  with_reducible refine l_nil (q_then ?_)
  replace F := F.only [6, 7, 12, 5, 4, 2] rfl
  refine c_draw 9 F (by kernel_rfl) ?_
  intro w1 hE hok
  have M1 := M.later hE
  refine mK hok rfl rfl (fun a' w' F' E' => o_move (F'.e rfl) ⟨Ext.refl _ _, rfl⟩) (mK hok rfl rfl (fun a' w' F' E' => o_move (F'.e rfl) ⟨Ext.refl _ _, rfl⟩) (mK hok rfl rfl (fun a' w' F' E' => o_indexArr (F'.e rfl) (F'.e rfl) (by omega) (by omega) ⟨Ext.refl _ _, rfl⟩) ?_))
  (refine mK hok rfl rfl (fun a' w' F' E' => o_load1 (M1.later E') (F'.e rfl) (by repeat constructor) (nth_ip (a := ip) (i := i) (by omega)) ⟨Ext.refl _ _, rfl⟩) ?_)
  refine mK hok rfl rfl (fun a' w' F' E' => o_move (F'.e rfl) ⟨Ext.refl _ _, rfl⟩) (mK hok rfl rfl (fun a' w' F' E' => o_shr (F'.e rfl) (F'.e rfl) (by omega) rfl ⟨Ext.refl _ _, rfl⟩) (mK hok rfl rfl (fun a' w' F' E' => o_andNot (F'.e rfl) (F'.e rfl) rfl ⟨Ext.refl _ _, rfl⟩) (mK hok rfl rfl (fun a' w' F' E' => o_fieldAddr (F'.e rfl) ⟨Ext.refl _ _, rfl⟩) (mK hok rfl rfl (fun a' w' F' E' => o_indexArr (F'.e rfl) (F'.e rfl) (by omega) (by omega) ⟨Ext.refl _ _, rfl⟩) ?_))))
  (refine mDone rfl rfl ?_;clear F M;intro a w F hE2 hX hTT hDD hPP;have M := M1.later hE2;clear M1;clear hX;clear hE2;clear hok;clear hE;clear hTT;clear hDD;clear hPP;(try dsimp only at F))
  (refine stepN rfl F (o_store1 M (F.e rfl) (F.e rfl) rfl (by repeat constructor) (put_mrow hlt) (by repeat constructor) ?_);clear F M;intro w M a F)
  with_reducible refine l_nil (q_inB (q_then (c_region ?_)))
  refine sD F (o_add (F.e rfl) (F.e rfl) (w_i64 (by omega) (by omega)) fun a F => sD F (o_move (F.e rfl) ?_));iterate 2 clear F a
  intro a F
  with_reducible refine l_nil (q_then ?_)
  exact ⟨_, by omega, i + 1, rfl, by omega, F.only [12, 5, 4, 2] rfl, M⟩
 ·replace hc := dqV hc
  obtain rfl : i = 16 := by omega
  with_reducible refine c_exit (q_thenX (q_thenX (q_inBX (q_then (c_seq (c_region ?_))))))
  refine sD F (o_loadA M (F.e rfl) (by repeat constructor) (by first | assumption | rfl) ?_);clear F a;intro a F
  (refine stepN rfl F (o_storeA M (F.e rfl) (F.e rfl) (by rfl) (by rfl) (by repeat constructor) (by rfl) (by repeat constructor) ?_);clear F M;intro w M a F)
  with_reducible refine l_nil (q_then (c_ret ?_))
  refine p_ret (F.only [4] rfl) rfl (.cons (.cell (F.e rfl) (run_loadVar_agg TAgg.h (M.heap (.there .here)) rfl)) .nil) ⟨rfl, M.ext⟩
end
section
open Go.RowKit
attribute [local irreducible] OpTo wpListIn Code.wpIn MW Cal
def GM (W : World) : Prop := ∃ m : Int, W.cell? ⟨0, 0, none⟩ = some (.int .i64 m)
theorem GM.later {W w : World} (h : GM W) (e : Ext [] W w) : GM w := by
 obtain ⟨m, hm⟩ := h
 have hlt : 0 < W.heap.size := by
  have := block_lt_of_cell hm
  simpa using this
 exact ⟨m, by rw [World.cell?_of_block (w := W) (e.block 0 hlt (by simp))];exact hm⟩
theorem ipC_set (L : List Int) (i : Nat) (x : Int) : ipC (L.set i x) = (ipC L).set i (.int .u8 x) := by simp [ipC, List.map_set]
end
section
open Go.RowKit
attribute [local irreducible] OpTo wpListIn Code.wpIn MW Cal
structure IsIP (ip : List Int) : Prop where
 len : ip.length = 16
 bd : ∀ x ∈ ip, 0 ≤ x ∧ x < 256
theorem IsIP.at_ {ip : List Int} (h : IsIP ip) (i : Nat) : 0 ≤ ip.getD i 0 ∧ ip.getD i 0 < 256 := by
 rcases Nat.lt_or_ge i ip.length with hl | hl
 ·rw [List.getD_eq_getElem?_getD, List.getElem?_eq_getElem hl];exact h.bd _ (List.getElem_mem hl)
 ·rw [List.getD_eq_getElem?_getD, List.getElem?_eq_none hl];simp
theorem nth_ip2 {ip : List Int} (h : IsIP ip) {i n : Nat} (hi : i < 16) (hn : n = i) : nth (ipC ip) n = some (.int .u8 (ip.getD i 0)) := by
 subst hn
 have := h.len
 rw [nth_spec];simp [ipC, List.getElem?_eq_getElem (show n < ip.length by omega)]
end
section
open Go.RowKit
attribute [local irreducible] OpTo wpListIn Code.wpIn MW Cal
def GT (W : World) : Prop := W.cell? ⟨5, 15, none⟩ = some (.int .u8 4)
theorem cell_later {W w : World} {a : Addr} {v : Value} (h : W.cell? a = some v) (e : Ext [] W w) : w.cell? a = some v := by
 have hlt := block_lt_of_cell h
 rw [World.cell?_of_block (w := W) (e.block a.block hlt (by simp))];exact h
theorem GT.later {W w : World} (h : GT W) (e : Ext [] W w) : GT w := cell_later h e
end
section
open Go.RowKit
attribute [local irreducible] OpTo wpListIn Code.wpIn MW Cal
theorem len16 {l : List Int} (h : l.length = 16) : ∃ x0 x1 x2 x3 x4 x5 x6 x7 x8 x9 x10 x11 x12 x13 x14 x15 : Int, l = [x0, x1, x2, x3, x4, x5, x6, x7, x8, x9, x10, x11, x12, x13, x14, x15] :=
 match l, h with
 | [x0, x1, x2, x3, x4, x5, x6, x7, x8, x9, x10, x11, x12, x13, x14, x15], _ => ⟨x0, x1, x2, x3, x4, x5, x6, x7, x8, x9, x10, x11, x12, x13, x14, x15, rfl⟩
def maskI (a : List Int) (n : Int) : List Int := (List.range 16).map (maskAt a n)
def pfC (a : List Int) (n : Int) : List Value := ipC a ++ [.int .i64 n]
def validP (a : List Int) (n : Int) : Bool := decide (0 ≤ n) && decide (n ≤ 128) && (maskI a n == a)
def containsP (p : List Int) (n : Int) (a : List Int) : Bool := validP p n && (maskI a n == p)
def coversP (p : List Int) (n : Int) (q : List Int) (m : Int) : Bool := validP q m && containsP p n q && decide (n ≤ m)
theorem maskI_len (a : List Int) (n : Int) : (maskI a n).length = 16 := by simp [maskI]
theorem mrow_pf (a : List Int) (n : Int) : mrow a n 16 = pfC (maskI a n) n := by
 unfold mrow pfC maskI ipC
 rw [List.map_map]
 congr 1
theorem eqVs_ip : ∀ a b : List Int, a.length = b.length → eqVs (ipC a) (ipC b) = (a == b)
 | [], [], _ => rfl
 | x :: a, y :: b, h => by
  have := eqVs_ip a b (by simpa using h)
  simp only [ipC] at this
  simp [ipC, eqVs, eqV, this]
theorem eqVs_pf {a b : List Int} {n m : Int} (h : a.length = b.length) : eqVs (pfC a n) (pfC b m) = (a == b && n == m) := by
 unfold pfC
 rw [eqVs_append _ _ _ _ (by simp [ipC, h]), eqVs_ip a b h]
 simp [eqVs, eqV]
def modI (a n : Int) : Int := if a.tmod n < 0 then a.tmod n + n else a.tmod n
theorem clamp_in {n : Int} (h0 : 0 ≤ n) (h1 : n ≤ 128) : clampB n = n := by unfold clampB;rw [if_neg (show ¬ n < 0 by omega), if_neg (by omega)]
theorem maskP_c (a : List Int) (ha : a.length = 16) (n : Int) (W : World) : Cal Tryz.prog 179 [.agg (ipC a).toArray, .int .i64 n].toArray W fun v w' => v = .agg (pfC (maskI a (clampB n)) (clampB n)).toArray ∧ Ext [] W w' :=
 (mask_c a ha n W).mono fun v w' h => ⟨by rw [h.1, mrow_pf], h.2⟩
def pfK : List LK := [.i .u8, .i .u8, .i .u8, .i .u8, .i .u8, .i .u8, .i .u8, .i .u8, .i .u8, .i .u8, .i .u8, .i .u8, .i .u8, .i .u8, .i .u8, .i .u8, .i .i64]
theorem fits_pf {a : List Int} (ha : a.length = 16) (n : Int) : fitsK pfK (pfC a n) = true := by
 obtain ⟨x0, x1, x2, x3, x4, x5, x6, x7, x8, x9, x10, x11, x12, x13, x14, x15, rfl⟩ := len16 ha
 rfl
theorem seg_all {xs : List Value} {k : Nat} (h : xs.length = k) : seg xs 0 k = some xs := by
 have h1 := seg_of [] xs []
 rw [h] at h1
 simpa using h1
theorem pfC_len {a : List Int} (ha : a.length = 16) (n : Int) : (pfC a n).length = 17 := by simp [pfC, ipC, ha]
theorem ipC_len {a : List Int} (ha : a.length = 16) : (ipC a).length = 16 := by simp [ipC, ha]
theorem seg_pf {a : List Int} (ha : a.length = 16) (n : Int) : seg (pfC a n) 0 17 = some (pfC a n) := seg_all (pfC_len ha n)
theorem seg_pf0 {a : List Int} (ha : a.length = 16) (n : Int) : seg (pfC a n) 0 16 = some (ipC a) := by
 have h1 := seg_of [] (ipC a) [.int .i64 n]
 rw [ipC_len ha] at h1
 simpa [pfC] using h1
theorem nth_pf {a : List Int} (ha : a.length = 16) (n : Int) : nth (pfC a n) 16 = some (.int .i64 n) := by
 rw [nth_spec];simp [pfC, ipC, ha]
theorem validPrefix_c (p : List Int) (n : Int) (hp : p.length = 16) (W : World) : Cal Tryz.prog 84 [.agg (pfC p n).toArray].toArray W fun v w' => v = .bool (validP p n) ∧ Ext [] W w' := by
 have e1 := seg_pf hp n
 have e2 := seg_pf0 hp n
 have e3 := nth_pf hp n
 have e4 := fits_pf hp n
 have e5 := fits_pf (maskI_len p n) n
 have q1 := eqVs_pf (n := n) (m := n) (show (maskI p n).length = p.length by rw [maskI_len, hp])
 refine g_start (n := 20) (S := []) fldT_ok slcT_ok Tryz.func84 rfl rfl rfl ?_
 by_cases h0 : 0 ≤ n
 ·by_cases h1 : n ≤ 128
  ·have hcl := clamp_in h0 h1
   refine gR 2 rfl (g_box rfl rfl fun b1 => gR 4 rfl (g_draw 18 20 rfl (by kernel_rfl) (fR 1 rfl (fd_ld1 0 rfl rfl (by with_reducible assumption) ?_))))
   refine fR 2 rfl (fd_know 6 rfl (dqT (by omega)) (fR 1 rfl (fd_ld1 0 rfl rfl (by with_reducible assumption) ?_)))
   refine fR 3 rfl (fd_know 11 rfl (dqT (by omega)) (fR 1 rfl (fd_ldA 0 rfl rfl (by with_reducible assumption) ?_)))
   refine fR 1 rfl (fd_ld1 0 rfl rfl (by with_reducible assumption) ?_)
   refine fd_call rfl rfl (fun w M => maskP_c _ ‹_› _ _) ?_
   refine fd_ldA 0 rfl rfl (by with_reducible assumption) ?_
   refine fd_v (fun a w F M R r => o_eqlA (F.e rfl) (F.e rfl) (by first | assumption | rfl) (by first | assumption | rfl) r) ?_
   refine fR 2 rfl (fd_done rfl rfl (gR 3 rfl (g_ret1 rfl rfl rfl fun w M => ?_)))
   exact ⟨by rw [hcl, q1];simp [validP, h0, h1], M.ext⟩
  ·refine gR 2 rfl ?_
   refine g_box rfl rfl fun b1 => gR 4 rfl (g_draw 18 20 rfl (by kernel_rfl) (fR 1 rfl (fd_ld1 0 rfl rfl (by with_reducible assumption) ?_)))
   refine fR 2 rfl (fd_know 6 rfl (dqT (by omega)) (fR 1 rfl (fd_ld1 0 rfl rfl (by with_reducible assumption) ?_)))
   refine fR 3 rfl (fd_know 11 rfl (dqF (by omega)) (fR 9 rfl (fd_done rfl rfl (gR 3 rfl (g_ret1 rfl rfl rfl fun w M => ?_)))))
   exact ⟨by show Value.bool _ = Value.bool _;simp [validP, h1], M.ext⟩
 ·refine gR 2 rfl ?_
  refine g_box rfl rfl fun b1 => gR 4 rfl (g_draw 18 20 rfl (by kernel_rfl) (fR 1 rfl (fd_ld1 0 rfl rfl (by with_reducible assumption) ?_)))
  refine fR 2 rfl (fd_know 6 rfl (dqF (by omega)) (fR 14 rfl (fd_done rfl rfl (gR 3 rfl (g_ret1 rfl rfl rfl fun w M => ?_)))))
  exact ⟨by show Value.bool _ = Value.bool _;simp [validP, h0], M.ext⟩
end
section
open Go.RowKit
attribute [local irreducible] OpTo wpListIn Code.wpIn MW Cal
end
section
open Go.RowKit
attribute [local irreducible] OpTo wpListIn Code.wpIn MW Cal
end
section
open Go.RowKit
theorem one_ip (a : List Int) : (ipC a).all (·.oneCell') = true := by
 rw [List.all_eq_true]
 intro v hv
 obtain ⟨x, _, rfl⟩ := List.mem_map.1 hv
 rfl
theorem one_pf (a : List Int) (n : Int) : (pfC a n).all (·.oneCell') = true := by
 unfold pfC
 rw [List.all_append, one_ip]
 rfl
theorem modI_bd (x : Int) {n : Int} (hn : 0 < n) : 0 ≤ modI x n ∧ modI x n < n := by
 have h1 := Int.tmod_lt_of_pos x hn
 have h2 : -n < x.tmod n := by have := Int.tmod_lt_of_pos (-x) hn;rw [Int.neg_tmod] at this;omega
 unfold modI
 split <;> omega
end
section
open Go.RowKit
def cutB (x : Int) (k : Nat) : Int := bitsOf .andNot .u8 x (Int.fdiv 255 (2 ^ min k 8))
theorem cutB_fin : ∀ x : Fin 256, ∀ k : Fin 9, cutB (x.1 : Int) k.1 = ((x.1 / 2 ^ (8 - k.1) * 2 ^ (8 - k.1) : Nat) : Int) := by decide +kernel
theorem cutB_nat {x k : Nat} (hx : x < 256) (hk : k ≤ 8) : cutB (x : Int) k = ((x / 2 ^ (8 - k) * 2 ^ (8 - k) : Nat) : Int) := cutB_fin ⟨x, hx⟩ ⟨k, by omega⟩
theorem nest_fin : ∀ x : Fin 256, ∀ k j : Fin 9, (x.1 / 2 ^ (8 - k.1) * 2 ^ (8 - k.1)) / 2 ^ (8 - j.1) * 2 ^ (8 - j.1) = x.1 / 2 ^ (8 - min j.1 k.1) * 2 ^ (8 - min j.1 k.1) := by decide +kernel
theorem cutB_bd {x : Int} {k : Nat} (h0 : 0 ≤ x) (h1 : x < 256) (hk : k ≤ 8) : 0 ≤ cutB x k ∧ cutB x k < 256 := by
 obtain ⟨n, rfl⟩ := Int.eq_ofNat_of_zero_le h0
 rw [cutB_nat (by omega) hk]
 have := Nat.div_mul_le_self n (2 ^ (8 - k))
 omega
theorem cutB_nest {x : Int} {k j : Nat} (h0 : 0 ≤ x) (h1 : x < 256) (hk : k ≤ 8) (hj : j ≤ 8) : cutB (cutB x k) j = cutB x (min j k) := by
 obtain ⟨n, rfl⟩ := Int.eq_ofNat_of_zero_le h0
 have hn : n < 256 := by omega
 have := Nat.div_mul_le_self n (2 ^ (8 - k))
 rw [cutB_nat hn hk, cutB_nat (by omega) hj, cutB_nat hn (by omega), nest_fin ⟨n, hn⟩ ⟨k, by omega⟩ ⟨j, by omega⟩]
theorem keepN_bd (n i : Int) : (keepN n i).toNat ≤ 8 := by unfold keepN;split <;> (try split) <;> omega
theorem maskAt_cut (a : List Int) (n : Int) (i : Nat) : maskAt a n i = cutB (a.getD i 0) (keepN n i).toNat := rfl
theorem maskI_at (a : List Int) (n : Int) {i : Nat} (h : i < 16) : (maskI a n).getD i 0 = maskAt a n i := by simp [maskI, h]
theorem maskI_ext {a b : List Int} {n m : Int} : maskI a n = maskI b m ↔ ∀ i, i < 16 → maskAt a n i = maskAt b m i := by
 unfold maskI
 constructor
 ·intro h i hi
  have := congrArg (fun l => l.getD i 0) h
  simpa [hi] using this
 ·intro h
  exact List.map_congr_left fun i hi => h i (List.mem_range.1 hi)
def minI (m n : Int) : Int := if n < m then n else m
theorem keep_min (m n i : Int) : min (keepN m i).toNat (keepN n i).toNat = (keepN (minI m n) i).toNat := by
 unfold minI keepN
 split <;> split <;> split <;> (try split) <;> (try split) <;> omega
theorem mask_nest {p : List Int} (hp : IsIP p) (m n : Int) : maskI (maskI p n) m = maskI p (minI m n) := by
 rw [maskI_ext]
 intro i hi
 rw [maskAt_cut, maskI_at _ _ hi, maskAt_cut, maskAt_cut, cutB_nest (hp.at_ i).1 (hp.at_ i).2 (keepN_bd _ _) (keepN_bd _ _), keep_min]
theorem mask_isIP {p : List Int} (hp : IsIP p) (n : Int) : IsIP (maskI p n) := by
 refine ⟨maskI_len p n, fun x hx => ?_⟩
 unfold maskI at hx
 obtain ⟨i, _, rfl⟩ := List.mem_map.1 hx
 exact cutB_bd (hp.at_ i).1 (hp.at_ i).2 (keepN_bd _ _)
theorem minI_self (m : Int) : minI m m = m := by unfold minI;split <;> rfl
theorem valid_mask {p : List Int} (hp : IsIP p) {m : Int} (h0 : 0 ≤ m) (h1 : m ≤ 128) : validP (maskI p m) m = true := by
 simp [validP, h0, h1, mask_nest hp, minI_self]
end
section
open Go.RowKit
attribute [local irreducible] OpTo wpListIn Code.wpIn MW Cal
end
section
open Go.RowKit
attribute [local irreducible] OpTo wpListIn Code.wpIn MW Cal
end
section
open Go.RowKit
attribute [local irreducible] OpTo wpListIn Code.wpIn MW Cal
def zeroIP : List Int := [0, 0, 0, 0, 0, 0, 0, 0, 0, 0, 0, 0, 0, 0, 0, 0]
end
section
open Go.RowKit
attribute [local irreducible] OpTo wpListIn Code.wpIn MW Cal
end
section
open Go.RowKit
attribute [local irreducible] OpTo wpListIn Code.wpIn MW Cal
theorem Mem.less {S S' : List Nat} {W w : World} {l new : List (Nat × Obj)} (M : Mem S W w l) (h : ∀ k ∈ S, k ∈ S' ∨ ∃ o, Has l k o ∧ W.heap[k]? = some o) (hs : new.Sublist l) (hn : ∀ p ∈ new, p.1 ∈ S → p.1 ∈ S') : Mem S' W w new :=
 ⟨⟨M.ext.os, M.ext.tape, M.ext.output, M.ext.size, M.ext.dr, fun k hk hS' => by
  by_cases hS : k ∈ S
  ·rcases h k hS with h1 | ⟨o, h1, h2⟩
   ·exact absurd h1 hS'
   ·rw [M.heap h1, h2]
  ·exact M.ext.block k hk hS⟩, fun p hp => M.at_ p (hs.subset hp), M.nd.sublist (hs.map _), fun p hp => (M.own p (hs.subset hp)).imp_left (hn p hp)⟩
def tobj (p : Option Addr) (len cap k : Nat) : Obj := .cells [.slice p len cap, .int .i64 k].toArray 113 (0, 0)
def i64C (xs : List Int) : List Value := xs.map (Value.int .i64)
structure TapeS (W : World) (bt : Nat) (p : Option Addr) (len : Nat) (xs : List Int) : Prop where
 lenE : xs.length = len
 small : len ≤ 400
 bd : ∀ x ∈ xs, -9223372036854775808 ≤ x ∧ x ≤ 9223372036854775807
 mem : 0 < len → ∃ b o cs t fz, p = some ⟨b, o, none⟩ ∧ b ≠ bt ∧ W.heap[b]? = some (.cells cs t fz) ∧ seg cs.toList o len = some (i64C xs)
theorem TapeS.later {W w : World} {bt : Nat} {p : Option Addr} {len : Nat} {xs : List Int} (h : TapeS W bt p len xs) (E : Ext [bt] W w) : TapeS w bt p len xs :=
 ⟨h.lenE, h.small, h.bd, fun hl => by
  obtain ⟨b, o, cs, t, fz, h1, h2, h3, h4⟩ := h.mem hl
  exact ⟨b, o, cs, t, fz, h1, h2, by rw [E.block b (Array.getElem?_eq_some_iff.1 h3).1 (by simpa using h2)];exact h3, h4⟩⟩
def nxV (xs : List Int) (k : Nat) (n : Int) : Int := if k < xs.length then modI (xs.getD k 0) n else 0
def nxK (xs : List Int) (k : Nat) : Nat := if k < xs.length then k + 1 else k
theorem nxV_bd (xs : List Int) (k : Nat) {n : Int} (hn : 0 < n) : 0 ≤ nxV xs k n ∧ nxV xs k n < n := by
 unfold nxV
 split
 ·exact modI_bd _ hn
 ·omega
theorem next_c {bt : Nat} {p : Option Addr} {len cap k : Nat} {xs : List Int} (n : Int) (hn : 0 < n) (hn2 : n ≤ 9223372036854775807) (W : World) (hT : TapeS W bt p len xs) (hb : W.heap[bt]? = some (tobj p len cap k)) :
  Cal Tryz.prog 28 [.pointer (some ⟨bt, 0, none⟩), .int .i64 n].toArray W fun v w' => v = .int .i64 (nxV xs k n) ∧ Mem [bt] W w' [(bt, tobj p len cap (nxK xs k))] := by
 have hlen := hT.lenE
 by_cases hk : k < len
 ·obtain ⟨b, o, cs, t, fz, rfl, hne, hbb, hs⟩ := hT.mem (by omega)
  have hnt : nth cs.toList (o + (k : Int).toNat * 1) = some (.int .i64 (xs.getD k 0)) := by
   obtain ⟨h1, h2⟩ := seg_spec _ _ _ _ hs
   have h3 := h2 k hk
   rw [nth_spec, show o + (k : Int).toNat * 1 = o + k by omega, h3]
   have hl : k < xs.length := by omega
   simp [i64C, hl]
  have hxk := hT.bd (xs.getD k 0) (by rw [List.getD_eq_getElem?_getD, List.getElem?_eq_getElem (by omega)];exact List.getElem_mem _)
  have hr := Int.tmod_lt_of_pos (xs.getD k 0) hn
  have hr2 : -n < (xs.getD k 0).tmod n := by have := Int.tmod_lt_of_pos (-(xs.getD k 0)) hn;rw [Int.neg_tmod] at this;omega
  have hsm := hT.small
  have hv : nxV xs k n = modI (xs.getD k 0) n := by unfold nxV;rw [if_pos (by omega)]
  have hkk : nxK xs k = k + 1 := by unfold nxK;rw [if_pos (by omega)]
  rw [hv, hkk]
  unfold modI
  refine fn_ofM (n := 41) [bt,b] Tryz.func28 rfl rfl rfl ?_
  intro a w F M hwW
  replace M := M.came hwW hb (by simp) (by simp)
  replace M := M.came hwW (o := .cells cs.toList.toArray t fz) (by simpa using hbb) (by simp) (by simp;exact fun h => hne h.symm)
  unfold tobj at M
  refine c_seq (c_region ?_)
  refine sD F (o_assign (F.e rfl) ?_);clear F a;intro a F
  with_reducible refine l_nil (q_then (c_seq (c_seq ?_)))
  refine c_draw 10 F (by kernel_rfl) ?_
  intro w1 hE hok
  have M1 := M.later hE
  refine mK hok rfl rfl (fun a' w' F' E' => o_move (F'.e rfl) ⟨Ext.refl _ _, rfl⟩) (mK hok rfl rfl (fun a' w' F' E' => o_nilCheck (F'.e rfl) rfl ⟨Ext.refl _ _, rfl⟩) (mK hok rfl rfl (fun a' w' F' E' => o_fieldAddr (F'.e rfl) ⟨Ext.refl _ _, rfl⟩) (mK hok rfl rfl (fun a' w' F' E' => o_load1 (M1.later E') (F'.e rfl) (by repeat constructor) (by first | assumption | rfl) ⟨Ext.refl _ _, rfl⟩) ?_)))
  refine mK hok rfl rfl (fun a' w' F' E' => o_move (F'.e rfl) ⟨Ext.refl _ _, rfl⟩) (mK hok rfl rfl (fun a' w' F' E' => o_nilCheck (F'.e rfl) rfl ⟨Ext.refl _ _, rfl⟩) (mK hok rfl rfl (fun a' w' F' E' => o_fieldAddr (F'.e rfl) ⟨Ext.refl _ _, rfl⟩) (mK hok rfl rfl (fun a' w' F' E' => o_load1 (M1.later E') (F'.e rfl) (by repeat constructor) (by first | assumption | rfl) ⟨Ext.refl _ _, rfl⟩) ?_)))
  refine mK hok rfl rfl (fun a' w' F' E' => o_lenSl (F'.e rfl) ⟨Ext.refl _ _, rfl⟩) (mK hok rfl rfl (fun a' w' F' E' => o_geqF (F'.e rfl) (F'.e rfl) (by omega) ⟨Ext.refl _ _, rfl⟩) ?_)
  (refine mDone rfl rfl ?_;clear F M;intro a w F hE2 hX hTT hDD hPP;have M := M1.later hE2;clear M1;clear hX;clear hE2;clear hok;clear hE;clear hTT;clear hDD;clear hPP;(try dsimp only at F))
  with_reducible refine l_nil (q_then ?_)
  refine c_false F rfl rfl ?_
  with_reducible refine c_skip (q_then (c_seq ?_))
  refine c_draw 12 F (by kernel_rfl) ?_
  intro w1 hE hok
  have M1 := M.later hE
  refine mK hok rfl rfl (fun a' w' F' E' => o_move (F'.e rfl) ⟨Ext.refl _ _, rfl⟩) (mK hok rfl rfl (fun a' w' F' E' => o_nilCheck (F'.e rfl) rfl ⟨Ext.refl _ _, rfl⟩) (mK hok rfl rfl (fun a' w' F' E' => o_fieldAddr (F'.e rfl) ⟨Ext.refl _ _, rfl⟩) (mK hok rfl rfl (fun a' w' F' E' => o_load1 (M1.later E') (F'.e rfl) (by repeat constructor) (by first | assumption | rfl) ⟨Ext.refl _ _, rfl⟩) ?_)))
  refine mK hok rfl rfl (fun a' w' F' E' => o_move (F'.e rfl) ⟨Ext.refl _ _, rfl⟩) (mK hok rfl rfl (fun a' w' F' E' => o_nilCheck (F'.e rfl) rfl ⟨Ext.refl _ _, rfl⟩) (mK hok rfl rfl (fun a' w' F' E' => o_fieldAddr (F'.e rfl) ⟨Ext.refl _ _, rfl⟩) (mK hok rfl rfl (fun a' w' F' E' => o_load1 (M1.later E') (F'.e rfl) (by repeat constructor) (by first | assumption | rfl) ⟨Ext.refl _ _, rfl⟩) ?_)))
  refine mK hok rfl rfl (fun a' w' F' E' => o_indexSl (F'.e rfl) (F'.e rfl) (by omega) (by omega) ⟨Ext.refl _ _, rfl⟩) (mK hok rfl rfl (fun a' w' F' E' => o_load1 (M1.later E') (F'.e rfl) (by repeat constructor) (by first | assumption | rfl) ⟨Ext.refl _ _, rfl⟩) ?_)
  refine mK hok rfl rfl (fun a' w' F' E' => o_move (F'.e rfl) ⟨Ext.refl _ _, rfl⟩) (mK hok rfl rfl (fun a' w' F' E' => o_rem (F'.e rfl) (F'.e rfl) (by omega) rfl ⟨Ext.refl _ _, rfl⟩) ?_)
  (refine mDone rfl rfl ?_;clear F M;intro a w F hE2 hX hTT hDD hPP;have M := M1.later hE2;clear M1;clear hX;clear hE2;clear hok;clear hE;clear hTT;clear hDD;clear hPP;(try dsimp only at F))
  refine sD F (o_assign (F.e rfl) ?_);clear F a;intro a F
  with_reducible refine l_nil (q_then (c_seq (c_region ?_)))
  refine sD F (o_move (F.e rfl) fun a F => sD F (o_nilCheck (F.e rfl) rfl fun a F => sD F (o_fieldAddr (F.e rfl) fun a F => sD F (o_load1 M (F.e rfl) (by repeat constructor) (by first | assumption | rfl) ?_))));iterate 4 clear F a
  intro a F
  refine sD F (o_add (F.e rfl) (F.e rfl) (w_i64 (by omega) (by omega)) fun a F => sD F (o_nilCheck (F.e rfl) rfl fun a F => sD F (o_fieldAddr (F.e rfl) ?_)));iterate 3 clear F a
  intro a F
  (refine stepN rfl F (o_store1 M (F.e rfl) (F.e rfl) rfl (by repeat constructor) (by rfl) (by repeat constructor) ?_);clear F M;intro w M a F)
  with_reducible refine l_nil (q_then (c_seq (c_seq (c_region ?_))))
  refine sD F (o_move (F.e rfl) fun a F => sD F (o_lss (F.e rfl) (F.e rfl) ?_));iterate 2 clear F a
  intro a F
  with_reducible refine l_nil (q_then ?_)
  generalize (xs.getD k 0).tmod n = r at *
  have fin : ∀ w', Mem [bt, b] W w' [(b, .cells cs.toList.toArray t fz), (bt, .cells [.slice (some ⟨b, o, none⟩) len cap, .int .i64 ((k : Int) + 1)].toArray 113 (0, 0))] → Mem [bt] W w' [(bt, tobj (some ⟨b, o, none⟩) len cap (k + 1))] := fun w' M' =>
   M'.less (fun q hq => by
    simp only [List.mem_cons, List.not_mem_nil, or_false] at hq
    rcases hq with rfl | rfl
    ·exact .inl (by simp)
    ·exact .inr ⟨_, .here, by simpa using hbb⟩) (List.sublist_cons_self _ _) (fun q hq _ => by simp at hq;subst hq;simp)
  refine c_if F rfl (fun hc => ?_) (fun hc => ?_)
  ·replace hc := dqU hc
   rw [if_pos hc]
   refine c_region ?_
   refine sD F (o_move (F.e rfl) fun a F => sD F (o_move (F.e rfl) fun a F => sD F (o_add (F.e rfl) (F.e rfl) (w_i64 (by omega) (by omega)) fun a F => sD F (o_assign (F.e rfl) ?_))));iterate 4 clear F a
   intro a F
   with_reducible refine l_nil (q_then (c_seq (c_region ?_)))
   refine sD F (o_move (F.e rfl) fun a F => sD F (o_assign (F.e rfl) ?_));iterate 2 clear F a
   intro a F
   with_reducible refine l_nil (q_then (c_ret ?_))
   exact p_ret F rfl (.cons (.tmp (F.e rfl)) .nil) (⟨rfl, fin _ M⟩)
  ·replace hc := dqV hc
   rw [if_neg hc]
   with_reducible refine c_skip (q_then (c_seq (c_region ?_)))
   refine sD F (o_move (F.e rfl) fun a F => sD F (o_assign (F.e rfl) ?_));iterate 2 clear F a
   intro a F
   with_reducible refine l_nil (q_then (c_ret ?_))
   exact p_ret F rfl (.cons (.tmp (F.e rfl)) .nil) (⟨rfl, fin _ M⟩)
 ·have hv : nxV xs k n = 0 := by unfold nxV;rw [if_neg (by omega)]
  have hkk : nxK xs k = k := by unfold nxK;rw [if_neg (by omega)]
  rw [hv, hkk]
  refine fn_ofM (n := 41) [bt] Tryz.func28 rfl rfl rfl ?_
  intro a w F M hwW
  replace M := M.came hwW hb (by simp) (by simp)
  unfold tobj at M
  refine c_seq (c_region ?_)
  refine sD F (o_assign (F.e rfl) ?_);clear F a;intro a F
  with_reducible refine l_nil (q_then (c_seq (c_seq ?_)))
  refine c_draw 10 F (by kernel_rfl) ?_
  intro w1 hE hok
  have M1 := M.later hE
  refine mK hok rfl rfl (fun a' w' F' E' => o_move (F'.e rfl) ⟨Ext.refl _ _, rfl⟩) (mK hok rfl rfl (fun a' w' F' E' => o_nilCheck (F'.e rfl) rfl ⟨Ext.refl _ _, rfl⟩) (mK hok rfl rfl (fun a' w' F' E' => o_fieldAddr (F'.e rfl) ⟨Ext.refl _ _, rfl⟩) (mK hok rfl rfl (fun a' w' F' E' => o_load1 (M1.later E') (F'.e rfl) (by repeat constructor) (by first | assumption | rfl) ⟨Ext.refl _ _, rfl⟩) ?_)))
  refine mK hok rfl rfl (fun a' w' F' E' => o_move (F'.e rfl) ⟨Ext.refl _ _, rfl⟩) (mK hok rfl rfl (fun a' w' F' E' => o_nilCheck (F'.e rfl) rfl ⟨Ext.refl _ _, rfl⟩) (mK hok rfl rfl (fun a' w' F' E' => o_fieldAddr (F'.e rfl) ⟨Ext.refl _ _, rfl⟩) (mK hok rfl rfl (fun a' w' F' E' => o_load1 (M1.later E') (F'.e rfl) (by repeat constructor) (by first | assumption | rfl) ⟨Ext.refl _ _, rfl⟩) ?_)))
  refine mK hok rfl rfl (fun a' w' F' E' => o_lenSl (F'.e rfl) ⟨Ext.refl _ _, rfl⟩) (mK hok rfl rfl (fun a' w' F' E' => o_geqT (F'.e rfl) (F'.e rfl) (by omega) ⟨Ext.refl _ _, rfl⟩) ?_)
  (refine mDone rfl rfl ?_;clear F M;intro a w F hE2 hX hTT hDD hPP;have M := M1.later hE2;clear M1;clear hX;clear hE2;clear hok;clear hE;clear hTT;clear hDD;clear hPP;(try dsimp only at F))
  with_reducible refine l_nil (q_then ?_)
  refine c_true F rfl rfl (c_seq (c_region ?_))
  refine sD F (o_assign (F.e rfl) ?_);clear F a;intro a F
  with_reducible refine l_nil (q_then (c_ret (q_thenR ?_)))
  exact p_ret F rfl (.cons (.tmp (F.e rfl)) .nil) (⟨rfl, M⟩)
end
section
open Go.RowKit
attribute [local irreducible] OpTo wpListIn Code.wpIn MW Cal
theorem Mem.turn1 {S : List Nat} {W0 w w' : World} {l l' : List (Nat × Obj)} {b : Nat} {o o' : Obj} (M : Mem S W0 w l) (N : Mem [b] w w' [(b, o')]) (hu : Upd l b o o' l') : Mem S W0 w' l' := M.turned hu N.ext (N.heap .here)
def boolV (xs : List Int) (k : Nat) (n : Int) : Bool := nxV xs k n == n - 1
theorem bool_c {bt : Nat} {p : Option Addr} {len cap k : Nat} {xs : List Int} (n : Int) (hn : 0 < n) (hn2 : n ≤ 9223372036854775807) (W : World) (hT : TapeS W bt p len xs) (hb : W.heap[bt]? = some (tobj p len cap k)) :
  Cal Tryz.prog 14 [.pointer (some ⟨bt, 0, none⟩), .int .i64 n].toArray W fun v w' => v = .bool (boolV xs k n) ∧ Mem [bt] W w' [(bt, tobj p len cap (nxK xs k))] := by
 refine fn_ofM (n := 11) [bt] Tryz.func14 rfl rfl rfl ?_
 intro a w F M hwW
 replace M := M.came hwW hb (by simp) (by simp)
 refine c_seq (c_region ?_)
 refine sD F (o_assign (F.e rfl) ?_);clear F a;intro a F
 with_reducible refine l_nil (q_then (c_seq (c_region ?_)))
 refine sD F (o_move (F.e rfl) fun a F => sD F (o_move (F.e rfl) ?_));iterate 2 clear F a
 intro a F
 (refine sD F (o_call (F.e rfl) (F.evs rfl) (Cal.mono (next_c n hn hn2 _ (hT.later M.ext) (M.heap .here) ) ?_));clear F;clear a;have M0 := M;clear M;rintro _ w ⟨rfl, N⟩ a F)
 replace M := M0.turn1 N .here
 refine sD F (o_move (F.e rfl) fun a F => sD F (o_sub (F.e rfl) (F.e rfl) (w_i64 (by omega) (by omega)) fun a F => sD F (o_eql (F.e rfl) (F.e rfl) fun a F => sD F (o_assign (F.e rfl) ?_))));iterate 4 clear F a
 intro a F
 with_reducible refine l_nil (q_then (c_ret ?_))
 exact p_ret F rfl (.cons (.tmp (F.e rfl)) .nil) (⟨rfl, M⟩)
structure IntsAt (W : World) (v : Value) (xs : List Int) : Prop where
 ex : ∃ p cap, v = .slice p xs.length cap ∧ xs.length ≤ cap ∧ (0 < xs.length → ∃ b o cs t fz, p = some ⟨b, o, none⟩ ∧ W.heap[b]? = some (.cells cs t fz) ∧ seg cs.toList o xs.length = some (i64C xs))
 bd : ∀ x ∈ xs, -9223372036854775808 ≤ x ∧ x ≤ 9223372036854775807
 small : xs.length ≤ 9223372036854775807
def cut400 (xs : List Int) : List Int := xs.take 400
theorem seg_eq : ∀ (cs : List Value) (off n : Nat), seg cs off n = if off + n ≤ cs.length then some ((cs.drop off).take n) else none
 | [], 0, 0 => by simp [seg]
 | _ :: _, 0, 0 => by simp [seg]
 | [], 0, n + 1 => by simp [seg]
 | [], off + 1, n => by cases n <;> simp [seg]
 | x :: xs, 0, n + 1 => by
  simp only [seg]
  rw [seg_eq xs 0 n]
  by_cases h : n ≤ xs.length
  ·rw [if_pos (by omega), if_pos (by simp;omega)];simp
  ·rw [if_neg (by omega), if_neg (by simp;omega)]
 | x :: xs, off + 1, n => by
  have : seg (x :: xs) (off + 1) n = seg xs off n := by cases n <;> rfl
  rw [this, seg_eq xs off n]
  by_cases h : off + n ≤ xs.length
  ·rw [if_pos h, if_pos (by simp;omega)];simp
  ·rw [if_neg h, if_neg (by simp;omega)]
theorem seg_take {cs ys : List Value} {off n m : Nat} (h : seg cs off n = some ys) (hm : m ≤ n) : seg cs off m = some (ys.take m) := by
 rw [seg_eq] at h ⊢
 split at h
 ·rename_i hle
  rw [if_pos (by omega)]
  simp only [Option.some.injEq] at h
  subst h
  rw [List.take_take, Nat.min_eq_left hm]
 ·cases h
theorem tape_new {W w' : World} {bt : Nat} {p : Option Addr} {xs : List Int} (hE : Ext [] W w') (hbt : W.heap.size ≤ bt) (hbd : ∀ x ∈ xs, -9223372036854775808 ≤ x ∧ x ≤ 9223372036854775807)
  (hm : 0 < xs.length → ∃ b o cs t fz, p = some ⟨b, o, none⟩ ∧ W.heap[b]? = some (.cells cs t fz) ∧ seg cs.toList o xs.length = some (i64C xs)) : TapeS w' bt p (cut400 xs).length (cut400 xs) := by
 refine ⟨rfl, by unfold cut400;rw [List.length_take];omega, fun x hx => hbd x (List.mem_of_mem_take hx), fun hl => ?_⟩
 have hl0 : 0 < xs.length := by unfold cut400 at hl;rw [List.length_take] at hl;omega
 obtain ⟨b, o, cs, t, fz, h1, h2, h3⟩ := hm hl0
 have hlt := (Array.getElem?_eq_some_iff.1 h2).1
 refine ⟨b, o, cs, t, fz, h1, by omega, by rw [hE.block b hlt (by simp)];exact h2, ?_⟩
 have := seg_take h3 (show (cut400 xs).length ≤ xs.length by unfold cut400;rw [List.length_take];omega)
 rw [this]
 unfold i64C cut400
 rw [← List.map_take, List.length_take, Nat.min_comm, ← List.take_take, List.take_of_length_le (show (List.take 400 xs).length ≤ xs.length by rw [List.length_take];omega)]
theorem new_c {p : Option Addr} {cap : Nat} (xs : List Int) (W : World) (hI : IntsAt W (.slice p xs.length cap) xs) (hcap : xs.length ≤ cap) : Cal Tryz.prog 11 [.slice p xs.length cap].toArray W fun x w' => ∃ bt, x = .pointer (some ⟨bt, 0, none⟩) ∧ Mem [] W w' [(bt, tobj p (cut400 xs).length cap 0)] := by
 have hsm := hI.small
 by_cases h4 : 400 < xs.length
 ·obtain ⟨b, o, hpp⟩ : ∃ b o, p = some ⟨b, o, none⟩ := by
   obtain ⟨p', cap', h1, _, h3⟩ := hI.ex
   cases h1
   obtain ⟨b, o, _, _, _, h5, _⟩ := h3 (by omega)
   exact ⟨b, o, h5⟩
  have hl : (cut400 xs).length = 400 := by unfold cut400;rw [List.length_take];omega
  refine fn_ofM (n := 11) [] Tryz.func11 rfl rfl rfl ?_
  intro a w F M hwW
  refine c_seq (c_region ?_)
  refine sD F (o_assign (F.e rfl) ?_);clear F a;intro a F
  with_reducible refine l_nil (q_then (c_seq (c_seq (c_region ?_))))
  refine sD F (o_move (F.e rfl) fun a F => sD F (o_lenSl (F.e rfl) fun a F => sD F (o_gtrT (F.e rfl) (F.e rfl) (by omega) ?_)));iterate 3 clear F a
  intro a F
  with_reducible refine l_nil (q_then ?_)
  refine c_true F rfl rfl (c_region ?_)
  refine sD F (o_move (F.e rfl) ?_);clear F a;intro a F
  (refine sD F (o_slH (F.e rfl) (F.e rfl) (fun _ _ => trivial) (by omega) (by omega) ?_);clear F a;intro a F)
  refine sD F (o_assign (F.e rfl) ?_);clear F a;intro a F
  with_reducible refine l_nil (q_then (c_seq (c_region ?_)))
  refine sD F (o_move (F.e rfl) fun a F => sD F (o_build F rfl rfl ?_));iterate 2 clear F a
  intro a F
  (refine sD F (o_box M (F.e rfl) rfl ?_);clear F M;intro bt w M a F)
  refine sD F (o_assign (F.e rfl) ?_);clear F a;intro a F
  with_reducible refine l_nil (q_then (c_ret ?_))
  refine p_ret F rfl (.cons (.tmp (F.e rfl)) .nil) (⟨bt, rfl, ?_⟩)
  rw [hl];exact M
 ·have hl : (cut400 xs).length = xs.length := by unfold cut400;rw [List.length_take];omega
  refine fn_ofM (n := 11) [] Tryz.func11 rfl rfl rfl ?_
  intro a w F M hwW
  refine c_seq (c_region ?_)
  refine sD F (o_assign (F.e rfl) ?_);clear F a;intro a F
  with_reducible refine l_nil (q_then (c_seq (c_seq (c_region ?_))))
  refine sD F (o_move (F.e rfl) fun a F => sD F (o_lenSl (F.e rfl) fun a F => sD F (o_gtrF (F.e rfl) (F.e rfl) (by omega) ?_)));iterate 3 clear F a
  intro a F
  with_reducible refine l_nil (q_then ?_)
  refine c_false F rfl rfl ?_
  with_reducible refine c_skip (q_then (c_seq (c_region ?_)))
  refine sD F (o_move (F.e rfl) fun a F => sD F (o_build F rfl rfl ?_));iterate 2 clear F a
  intro a F
  (refine sD F (o_box M (F.e rfl) rfl ?_);clear F M;intro bt w M a F)
  refine sD F (o_assign (F.e rfl) ?_);clear F a;intro a F
  with_reducible refine l_nil (q_then (c_ret ?_))
  refine p_ret F rfl (.cons (.tmp (F.e rfl)) .nil) (⟨bt, rfl, ?_⟩)
  rw [hl];exact M
theorem IntsAt.later {W w : World} {v : Value} {xs : List Int} (h : IntsAt W v xs) (E : Ext [] W w) : IntsAt w v xs := by
 refine ⟨?_, h.bd, h.small⟩
 obtain ⟨p, cap, h1, h2, h3⟩ := h.ex
 refine ⟨p, cap, h1, h2, fun hl => ?_⟩
 obtain ⟨b, o, cs, t, fz, g1, g2, g3⟩ := h3 hl
 exact ⟨b, o, cs, t, fz, g1, by rw [E.block b (Array.getElem?_eq_some_iff.1 g2).1 (by simp)];exact g2, g3⟩
end
section
open Go.RowKit
attribute [local irreducible] OpTo wpListIn Code.wpIn MW Cal
def cmpV (x y : Int) : Int := if x < y then -1 else if y < x then 1 else 0
theorem nan_int (x : Int) (W : World) : Cal Tryz.prog 280 [.int .i64 x].toArray W fun v w' => v = .bool false ∧ Ext [] W w' := by
 refine fn_ofM (n := 6) [] Tryz.func280 rfl rfl rfl ?_
 intro a w F M hwW
 refine c_seq (c_region ?_)
 refine sD F (o_assign (F.e rfl) ?_);clear F a;intro a F
 with_reducible refine l_nil (q_then (c_seq (c_region ?_)))
 refine sD F (o_move (F.e rfl) fun a F => sD F (o_move (F.e rfl) fun a F => sD F (o_neqF (F.e rfl) (F.e rfl) (by omega) fun a F => sD F (o_assign (F.e rfl) ?_))));iterate 4 clear F a
 intro a F
 with_reducible refine l_nil (q_then (c_ret ?_))
 exact p_ret F rfl (.cons (.tmp (F.e rfl)) .nil) (⟨rfl, M.ext⟩)
theorem cmp_int (x y : Int) (W : World) : Cal Tryz.prog 184 [.int .i64 x, .int .i64 y].toArray W fun v w' => v = .int .i64 (cmpV x y) ∧ Ext [] W w' := by
 have hcase : x < y ∨ y < x ∨ x = y := by omega
 unfold cmpV
 rcases hcase with h | h | h
 ·rw [if_pos h]
  exact g_start (n := 20) (S := []) fldT_ok slcT_ok Tryz.func184 rfl rfl rfl (gR 8 rfl (g_call rfl rfl (fun w M => nan_int x _) (gR 6 rfl (g_call rfl rfl (fun w M => nan_int y _) (gR 29 rfl (g_ifT rfl (dqT (by omega)) (gR 7 rfl (g_ret1 rfl rfl rfl fun w M => ⟨rfl, M.ext⟩))))))))
 ·rw [if_neg (by omega), if_pos h]
  exact g_start (n := 20) (S := []) fldT_ok slcT_ok Tryz.func184 rfl rfl rfl (gR 8 rfl (g_call rfl rfl (fun w M => nan_int x _) (gR 6 rfl (g_call rfl rfl (fun w M => nan_int y _) (gR 29 rfl (g_ifF rfl (dqF (by omega)) (gR 10 rfl (g_ifT rfl (dqT (by omega)) (gR 7 rfl (g_ret1 rfl rfl rfl fun w M => ⟨rfl, M.ext⟩))))))))))
 ·rw [if_neg (by omega), if_neg (by omega)]
  exact g_start (n := 20) (S := []) fldT_ok slcT_ok Tryz.func184 rfl rfl rfl (gR 8 rfl (g_call rfl rfl (fun w M => nan_int x _) (gR 6 rfl (g_call rfl rfl (fun w M => nan_int y _) (gR 29 rfl (g_ifF rfl (dqF (by omega)) (gR 10 rfl (g_ifF rfl (dqF (by omega)) (gR 8 rfl (g_ret1 rfl rfl rfl fun w M => ⟨rfl, M.ext⟩))))))))))
theorem nan_eui (x : Int) (W : World) : Cal Tryz.prog 281 [.int .u64 x].toArray W fun v w' => v = .bool false ∧ Ext [] W w' := by
 refine fn_ofM (n := 6) [] Tryz.func281 rfl rfl rfl ?_
 intro a w F M hwW
 refine c_seq (c_region ?_)
 refine sD F (o_assign (F.e rfl) ?_);clear F a;intro a F
 with_reducible refine l_nil (q_then (c_seq (c_region ?_)))
 refine sD F (o_move (F.e rfl) fun a F => sD F (o_move (F.e rfl) fun a F => sD F (o_neqF (F.e rfl) (F.e rfl) (by omega) fun a F => sD F (o_assign (F.e rfl) ?_))));iterate 4 clear F a
 intro a F
 with_reducible refine l_nil (q_then (c_ret ?_))
 exact p_ret F rfl (.cons (.tmp (F.e rfl)) .nil) (⟨rfl, M.ext⟩)
theorem cmp_eui (x y : Int) (W : World) : Cal Tryz.prog 185 [.int .u64 x, .int .u64 y].toArray W fun v w' => v = .int .i64 (cmpV x y) ∧ Ext [] W w' := by
 have hcase : x < y ∨ y < x ∨ x = y := by omega
 unfold cmpV
 rcases hcase with h | h | h
 ·rw [if_pos h]
  exact g_start (n := 20) (S := []) fldT_ok slcT_ok Tryz.func185 rfl rfl rfl (gR 8 rfl (g_call rfl rfl (fun w M => nan_eui x _) (gR 6 rfl (g_call rfl rfl (fun w M => nan_eui y _) (gR 29 rfl (g_ifT rfl (dqT (by omega)) (gR 7 rfl (g_ret1 rfl rfl rfl fun w M => ⟨rfl, M.ext⟩))))))))
 ·rw [if_neg (by omega), if_pos h]
  exact g_start (n := 20) (S := []) fldT_ok slcT_ok Tryz.func185 rfl rfl rfl (gR 8 rfl (g_call rfl rfl (fun w M => nan_eui x _) (gR 6 rfl (g_call rfl rfl (fun w M => nan_eui y _) (gR 29 rfl (g_ifF rfl (dqF (by omega)) (gR 10 rfl (g_ifT rfl (dqT (by omega)) (gR 7 rfl (g_ret1 rfl rfl rfl fun w M => ⟨rfl, M.ext⟩))))))))))
 ·rw [if_neg (by omega), if_neg (by omega)]
  exact g_start (n := 20) (S := []) fldT_ok slcT_ok Tryz.func185 rfl rfl rfl (gR 8 rfl (g_call rfl rfl (fun w M => nan_eui x _) (gR 6 rfl (g_call rfl rfl (fun w M => nan_eui y _) (gR 29 rfl (g_ifF rfl (dqF (by omega)) (gR 10 rfl (g_ifF rfl (dqF (by omega)) (gR 8 rfl (g_ret1 rfl rfl rfl fun w M => ⟨rfl, M.ext⟩))))))))))
def orV : List Int → Int
 | [] => 0
 | x :: xs => if x = 0 then orV xs else x
theorem seg_int {cs : List Value} {off n i : Nat} {xs : List Int} (h : seg cs off n = some (i64C xs)) (hi : i < n) {q : Nat} (hq : q = off + i) : nth cs q = some (.int .i64 (xs.getD i 0)) := by
 obtain ⟨h1, h2⟩ := seg_spec _ _ _ _ h
 have := h2 i hi
 subst hq
 rw [nth_spec, this]
 have hxn : xs.length = n := by simpa [i64C] using h1
 have hl : i < xs.length := by omega
 simp [i64C, hl]
theorem or_c {b : Nat} {t : TypeId} {fz : Nat × Nat} (xs : List Int) (n : Nat) (hn : xs.length = n) (hn2 : n ≤ 1000) (W : World) (hb : W.heap[b]? = some (.cells (i64C xs).toArray t fz)) : Cal Tryz.prog 182 [.slice (some ⟨b, 0, none⟩) n n].toArray W fun v w' => v = .int .i64 (orV xs) ∧ Ext [] W w' := by
 have hs : seg (i64C xs) 0 n = some (i64C xs) := seg_all (by simp [i64C, hn])
 refine fn_ofM (n := 18) [b] Tryz.func182 rfl rfl rfl ?_
 intro a w F M hwW
 replace M := M.came hwW hb (by simp) (by simp)
 refine c_seq (c_region ?_)
 refine sD F (o_assign (F.e rfl) ?_);clear F a;intro a F
 with_reducible refine l_nil (q_then (c_seq (c_region ?_)))
 refine sD F (o_assign (F.e rfl) ?_);clear F a;intro a F
 with_reducible refine l_nil (q_then (c_seq (c_seq (c_region ?_))))
 refine sD F (o_move (F.e rfl) fun a F => sD F (o_lenSl (F.e rfl) fun a F => sD F (o_move (F.e rfl) ?_)));iterate 3 clear F a
 intro a F
 with_reducible refine l_nil (q_then (c_block ?_))
 refine c_loop (fun k a w => ∃ i : Nat, k = n - i ∧ i ≤ n ∧ orV xs = orV (xs.drop i) ∧ Frm a 18 [] [(8, .int .i64 i), (7, .int .i64 n), (6, .slice (some ⟨b, 0, none⟩) n n), (3, .int .i64 0)] ∧ Mem [b] W w [(b, .cells (i64C xs).toArray t fz)]) n ⟨0, rfl, by omega, rfl, F.only [8, 7, 6, 3] rfl, M⟩ ?_
 clear F M
 rintro k a w ⟨i, hk, hi, hor, F, M⟩
 by_cases hlt : i < n
 ·have e1 := seg_int hs hlt (q := 0 + (i : Int).toNat * 1) (by omega)
  have hd : xs.drop i = xs.getD i 0 :: xs.drop (i + 1) := by
   rw [List.drop_eq_getElem_cons (by omega), List.getD_eq_getElem?_getD, List.getElem?_eq_getElem (by omega)];rfl
  rw [hd] at hor
  by_cases h0 : xs.getD i 0 = 0
  ·refine c_seq ?_
   refine c_region ?_
   refine sD F (o_lssT (F.e rfl) (F.e rfl) (by omega) ?_);clear F a;intro a F
   with_reducible refine l_nil (q_then (c_seq ?_))
   refine c_true F rfl rfl ?_
   with_reducible refine c_skip (q_then (c_seq (c_block (c_seq (c_region ?_)))))
   refine sD F (o_indexSl (F.e rfl) (F.e rfl) (by omega) (by omega) fun a F => sD F (o_load1 M (F.e rfl) (by repeat constructor) (by first | assumption | rfl) ?_));iterate 2 clear F a
   intro a F
   refine sD F (o_assign (F.e rfl) ?_);clear F a;intro a F
   with_reducible refine l_nil (q_then (c_seq (c_region ?_)))
   refine sD F (o_move (F.e rfl) fun a F => sD F (o_move (F.e rfl) fun a F => sD F (o_neqF (F.e rfl) (F.e rfl) (by omega) ?_)));iterate 3 clear F a
   intro a F
   with_reducible refine l_nil (q_then ?_)
   refine c_false F rfl rfl ?_
   with_reducible refine c_skip (q_inB (q_then (c_region ?_)))
   refine sD F (o_add (F.e rfl) (F.e rfl) (w_i64 (by omega) (by omega)) fun a F => sD F (o_move (F.e rfl) ?_));iterate 2 clear F a
   intro a F
   with_reducible refine l_nil (q_then ?_)
   exact ⟨_, by omega, i + 1, rfl, by omega, by rw [hor];simp only [orV, h0, if_true], F.only [8, 7, 6, 3] rfl, M⟩
  ·refine c_seq ?_
   refine c_region ?_
   refine sD F (o_lssT (F.e rfl) (F.e rfl) (by omega) ?_);clear F a;intro a F
   with_reducible refine l_nil (q_then (c_seq ?_))
   refine c_true F rfl rfl ?_
   with_reducible refine c_skip (q_then (c_seq (c_block (c_seq (c_region ?_)))))
   refine sD F (o_indexSl (F.e rfl) (F.e rfl) (by omega) (by omega) fun a F => sD F (o_load1 M (F.e rfl) (by repeat constructor) (by first | assumption | rfl) ?_));iterate 2 clear F a
   intro a F
   refine sD F (o_assign (F.e rfl) ?_);clear F a;intro a F
   with_reducible refine l_nil (q_then (c_seq (c_region ?_)))
   refine sD F (o_move (F.e rfl) fun a F => sD F (o_move (F.e rfl) fun a F => sD F (o_neqT (F.e rfl) (F.e rfl) (by omega) ?_)));iterate 3 clear F a
   intro a F
   with_reducible refine l_nil (q_then ?_)
   refine c_true F rfl rfl (c_seq (c_region ?_))
   refine sD F (o_move (F.e rfl) fun a F => sD F (o_assign (F.e rfl) ?_));iterate 2 clear F a
   intro a F
   with_reducible refine l_nil (q_then (c_ret (q_inBR (q_thenR (q_thenR (q_inBR (q_thenR ?_)))))))
   refine p_ret F rfl (.cons (.tmp (F.e rfl)) .nil) ?_
   exact ⟨by rw [hor];simp only [orV, h0, if_false];rfl, M.back1 .here hb⟩
 ·obtain rfl : i = n := by omega
  rw [List.drop_of_length_le (by omega)] at hor
  refine c_seq (c_region ?_)
  refine sD F (o_lssF (F.e rfl) (F.e rfl) (by omega) ?_);clear F a;intro a F
  with_reducible refine l_nil (q_then (c_seq ?_))
  refine c_false F rfl rfl ?_
  with_reducible refine c_exit (q_thenX (q_thenX (q_inBX (q_then (c_seq (c_region ?_))))))
  refine sD F (o_move (F.e rfl) fun a F => sD F (o_assign (F.e rfl) ?_));iterate 2 clear F a
  intro a F
  with_reducible refine l_nil (q_then (c_ret ?_))
  refine p_ret F rfl (.cons (.tmp (F.e rfl)) .nil) ?_
  exact ⟨by rw [hor];rfl, M.back1 .here hb⟩
end
section
open Go.RowKit
attribute [local irreducible] OpTo wpListIn Code.wpIn MW Cal
end
section
open Go.RowKit
def bitX (x : Int) (r : Nat) : Int := bitsOf .and .u8 (Int.fdiv x (2 ^ min (7 - (r : Int)).toNat IntKind.u8.bits)) 1
def bitI (a : List Int) (i : Nat) : Int := bitX (a.getD (i / 8) 0) (i % 8)
theorem bit_fin : ∀ x : Fin 256, ∀ r : Fin 8, bitX (x.1 : Int) r.1 = ((x.1 / 2 ^ (7 - r.1) % 2 : Nat) : Int) := by decide +kernel
theorem valid_fin : ∀ x : Fin 256, ∀ k : Fin 9, (x.1 / 2 ^ (8 - k.1) * 2 ^ (8 - k.1) = x.1) ↔ ∀ r : Fin 8, k.1 ≤ r.1 → x.1 / 2 ^ (7 - r.1) % 2 = 0 := by decide +kernel
theorem mask_fin : ∀ x : Fin 256, ∀ r : Fin 8, bitsOf .or .u8 (cutB (x.1 : Int) r.1) (IntKind.u8.wrap (bitX (x.1 : Int) r.1 * 2 ^ min (7 - (r.1 : Int)).toNat IntKind.u8.bits)) = cutB (x.1 : Int) (r.1 + 1) := by decide +kernel
theorem cut0_fin : ∀ x : Fin 256, cutB (x.1 : Int) 0 = 0 := by decide +kernel
theorem bitX_nat {x : Nat} {r : Nat} (hx : x < 256) (hr : r < 8) : bitX (x : Int) r = ((x / 2 ^ (7 - r) % 2 : Nat) : Int) := bit_fin ⟨x, hx⟩ ⟨r, hr⟩
theorem byte_of {a : List Int} (ha : IsIP a) (j : Nat) : ∃ x : Nat, x < 256 ∧ a.getD j 0 = (x : Int) := by
 have := ha.at_ j
 obtain ⟨x, hx⟩ := Int.eq_ofNat_of_zero_le this.1
 exact ⟨x, by omega, hx⟩
theorem bitI_bd {a : List Int} (ha : IsIP a) (i : Nat) : bitI a i = 0 ∨ bitI a i = 1 := by
 obtain ⟨x, hx, hxe⟩ := byte_of ha (i / 8)
 unfold bitI
 rw [hxe, bitX_nat hx (Nat.mod_lt _ (by omega))]
 omega
theorem keep_le {n j r : Nat} (hr : r < 8) : (keepN (n : Int) j).toNat ≤ r ↔ n ≤ 8 * j + r := by
 unfold keepN
 split <;> (try split) <;> omega
theorem mask_eq_iff {p : List Int} (hp : IsIP p) (n : Int) : maskI p n = p ↔ ∀ j, j < 16 → maskAt p n j = p.getD j 0 := by
 constructor
 ·intro h j hj
  rw [← maskI_at p n hj, h]
 ·intro h
  apply List.ext_getElem (by rw [maskI_len, hp.len])
  intro j h1 h2
  have hj : j < 16 := by rw [maskI_len] at h1;exact h1
  have e := h j hj
  simp only [maskI, List.getElem_map, List.getElem_range]
  rw [e, List.getD_eq_getElem?_getD, List.getElem?_eq_getElem h2]
  rfl
theorem valid_bits {p : List Int} (hp : IsIP p) (n : Nat) : maskI p (n : Int) = p ↔ ∀ i, n ≤ i → i < 128 → bitI p i = 0 := by
 rw [mask_eq_iff hp]
 have key : ∀ j, j < 16 → (maskAt p n j = p.getD j 0 ↔ ∀ r, r < 8 → (keepN (n : Int) j).toNat ≤ r → bitI p (8 * j + r) = 0) := by
  intro j hj
  obtain ⟨x, hx, hxe⟩ := byte_of hp j
  have hk := keepN_bd (n : Int) (j : Int)
  rw [maskAt_cut, hxe, cutB_nat hx hk]
  have hv := valid_fin ⟨x, hx⟩ ⟨(keepN (n : Int) j).toNat, by omega⟩
  simp only at hv
  constructor
  ·intro h r hr hkr
   have h' : x / 2 ^ (8 - (keepN (n : Int) j).toNat) * 2 ^ (8 - (keepN (n : Int) j).toNat) = x := by exact_mod_cast h
   have := hv.1 h' ⟨r, hr⟩ hkr
   unfold bitI
   rw [show (8 * j + r) / 8 = j by omega, show (8 * j + r) % 8 = r by omega, hxe, bitX_nat hx hr]
   simp only at this
   omega
  ·intro h
   have : x / 2 ^ (8 - (keepN (n : Int) j).toNat) * 2 ^ (8 - (keepN (n : Int) j).toNat) = x := hv.2 fun r hkr => by
    have h1 := h r.1 r.2 hkr
    unfold bitI at h1
    rw [show (8 * j + r.1) / 8 = j by omega, show (8 * j + r.1) % 8 = r.1 by omega, hxe, bitX_nat hx r.2] at h1
    omega
   exact_mod_cast this
 constructor
 ·intro h i hi hlt
  have := (key (i / 8) (by omega)).1 (h (i / 8) (by omega)) (i % 8) (Nat.mod_lt _ (by omega)) ((keep_le (Nat.mod_lt _ (by omega))).2 (by omega))
  rwa [show 8 * (i / 8) + i % 8 = i by omega] at this
 ·intro h j hj
  exact (key j hj).2 fun r hr hkr => h _ ((keep_le hr).1 hkr) (by omega)
theorem mask_step {a : List Int} (ha : IsIP a) {i : Nat} (hi : i < 128) : bitsOf .or .u8 (maskAt a (i : Int) (i / 8)) (IntKind.u8.wrap (bitI a i * 2 ^ min (7 - ((i % 8 : Nat) : Int)).toNat IntKind.u8.bits)) = maskAt a ((i : Int) + 1) (i / 8) := by
 obtain ⟨x, hx, hxe⟩ := byte_of ha (i / 8)
 have k1 : (keepN (i : Int) ((i / 8 : Nat) : Int)).toNat = i % 8 := by unfold keepN;split <;> (try split) <;> omega
 have k2 : (keepN ((i : Int) + 1) ((i / 8 : Nat) : Int)).toNat = i % 8 + 1 := by unfold keepN;split <;> (try split) <;> omega
 rw [maskAt_cut, maskAt_cut, k1, k2]
 unfold bitI
 rw [hxe]
 exact mask_fin ⟨x, hx⟩ ⟨i % 8, Nat.mod_lt _ (by omega)⟩
theorem mask_other {a : List Int} {i j : Nat} (hj : j ≠ i / 8) : maskAt a ((i : Int) + 1) j = maskAt a (i : Int) j := by
 have : keepN ((i : Int) + 1) (j : Int) = keepN (i : Int) (j : Int) := by unfold keepN;split <;> (try split) <;> (try split) <;> (try split) <;> omega
 rw [maskAt_cut, maskAt_cut, this]
theorem mask_set {a : List Int} {i : Nat} (hi : i < 128) : (maskI a (i : Int)).set (i / 8) (maskAt a ((i : Int) + 1) (i / 8)) = maskI a ((i : Int) + 1) := by
 unfold maskI
 apply List.ext_getElem (by simp)
 intro j h1 h2
 simp only [List.getElem_set, List.getElem_map, List.getElem_range]
 split
 ·subst_vars;rfl
 ·rename_i hne
  exact (mask_other (fun h => hne h.symm)).symm
theorem mask_zero {a : List Int} (ha : IsIP a) : maskI a 0 = zeroIP := by
 have : ∀ j, j < 16 → maskAt a 0 j = 0 := fun j hj => by
  obtain ⟨x, hx, hxe⟩ := byte_of ha j
  have k : (keepN 0 (j : Int)).toNat = 0 := by unfold keepN;split <;> (try split) <;> omega
  rw [maskAt_cut, hxe, k]
  exact cut0_fin ⟨x, hx⟩
 unfold maskI
 rw [List.map_congr_left (g := fun _ => (0 : Int)) fun j hj => this j (List.mem_range.1 hj)]
 rfl
end
section
open Go.RowKit
attribute [local irreducible] OpTo wpListIn Code.wpIn MW Cal
theorem quo8 {i : Nat} (hi : i ≤ 1000) : IntKind.i64.wrap ((i : Int).tdiv 8) = ((i / 8 : Nat) : Int) := by
 rw [Int.tdiv_eq_ediv_of_nonneg (by omega), w_i64 (by omega) (by omega)];omega
theorem rem8 (i : Nat) : (i : Int).tmod 8 = ((i % 8 : Nat) : Int) := by
 rw [Int.tmod_eq_emod_of_nonneg (by omega)];omega
theorem bit_c (a : List Int) (ha : IsIP a) (i : Nat) (hi : i < 128) (W : World) : Cal Tryz.prog 178 [.agg (ipC a).toArray, .int .i64 i].toArray W fun v w' => v = .int .u8 (bitI a i) ∧ Ext [] W w' := by
 have hlt : i % 8 < 8 := Nat.mod_lt _ (by omega)
 have hn : nth (ipC a) (0 + ((i / 8 : Nat) : Int).toNat * 1) = some (.int .u8 (a.getD (i / 8) 0)) := nth_ip (by rw [ha.len];omega)
 refine fn_ofM (n := 15) [] Tryz.func178 rfl rfl rfl ?_
 intro a w F M hwW
 refine c_seq (c_region ?_)
 (refine sD F (o_box M (F.e rfl) rfl ?_);clear F M;intro b2 w M a F)
 refine sD F (o_assign (F.e rfl) ?_);clear F a;intro a F
 with_reducible refine l_nil (q_then (c_seq (c_region ?_)))
 refine sD F (o_move (F.e rfl) fun a F => sD F (o_quo (F.e rfl) (F.e rfl) (by omega) rfl ?_));iterate 2 clear F a
 intro a F
 rw [quo8 (i := i) (by omega)] at F
 refine sD F (o_indexArr (F.e rfl) (F.e rfl) (by omega) (by omega) fun a F => sD F (o_load1 M (F.e rfl) (by repeat constructor) (by first | assumption | rfl) ?_));iterate 2 clear F a
 intro a F
 refine sD F (o_move (F.e rfl) fun a F => sD F (o_rem (F.e rfl) (F.e rfl) (by omega) rfl ?_));iterate 2 clear F a
 intro a F
 rw [rem8 i] at F
 refine sD F (o_conv (F.e rfl) (w_u64 (by omega) (by omega)) fun a F => sD F (o_sub (F.e rfl) (F.e rfl) (w_u64 (by omega) (by omega)) fun a F => sD F (o_shr (F.e rfl) (F.e rfl) (by omega) rfl fun a F => sD F (o_and (F.e rfl) (F.e rfl) rfl fun a F => sD F (o_assign (F.e rfl) ?_)))));iterate 5 clear F a
 intro a F
 with_reducible refine l_nil (q_then (c_ret ?_))
 exact p_ret F rfl (.cons (.tmp (F.e rfl)) .nil) (⟨rfl, M.ext⟩)
theorem rvalidPrefix_c (p : List Int) (n : Int) (hp : IsIP p) (W : World) : Cal Tryz.prog 168 [.agg (pfC p n).toArray].toArray W fun v w' => v = .bool (validP p n) ∧ Ext [] W w' := by
 have e2 := seg_pf0 hp.len n
 have e3 := nth_pf hp.len n
 by_cases h0 : n < 0
 ·refine fn_ofM (n := 23) [] Tryz.func168 rfl rfl rfl ?_
  intro a w F M hwW
  refine c_seq (c_region ?_)
  (refine sD F (o_box M (F.e rfl) rfl ?_);clear F M;intro b1 w M a F)
  refine sD F (o_assign (F.e rfl) ?_);clear F a;intro a F
  with_reducible refine l_nil (q_then (c_seq (c_seq (c_region ?_))))
  refine sD F (o_fieldAddr (F.e rfl) fun a F => sD F (o_load1 M (F.e rfl) (by repeat constructor) (by first | assumption | rfl) ?_));iterate 2 clear F a
  intro a F
  refine sD F (o_lssT (F.e rfl) (F.e rfl) (by omega) fun a F => sD F (o_move (F.e rfl) fun a F => sO F fun a F => sO F fun a F => sO F fun a F => sD F (o_pickT (F.e rfl) (F.e rfl) ?_)));iterate 6 clear F a
  intro a F
  with_reducible refine l_nil (q_then ?_)
  refine c_true F rfl rfl (c_seq (c_region ?_))
  refine sD F (o_assign (F.e rfl) ?_);clear F a;intro a F
  with_reducible refine l_nil (q_then (c_ret (q_thenR ?_)))
  exact p_ret F rfl (.cons (.tmp (F.e rfl)) .nil) (⟨by simp [oneOr, validP, show ¬ 0 ≤ n by omega], M.ext⟩)
 ·by_cases h1 : 128 < n
  ·refine fn_ofM (n := 23) [] Tryz.func168 rfl rfl rfl ?_
   intro a w F M hwW
   refine c_seq (c_region ?_)
   (refine sD F (o_box M (F.e rfl) rfl ?_);clear F M;intro b1 w M a F)
   refine sD F (o_assign (F.e rfl) ?_);clear F a;intro a F
   with_reducible refine l_nil (q_then (c_seq (c_seq (c_region ?_))))
   refine sD F (o_fieldAddr (F.e rfl) fun a F => sD F (o_load1 M (F.e rfl) (by repeat constructor) (by first | assumption | rfl) ?_));iterate 2 clear F a
   intro a F
   refine sD F (o_lssF (F.e rfl) (F.e rfl) (by omega) fun a F => sD F (o_move (F.e rfl) fun a F => sG F (o_fieldAddr (F.e rfl) fun a F => sG F (o_load1 M (F.e rfl) (by repeat constructor) (by first | assumption | rfl) ?_))));iterate 4 clear F a
   intro a F
   refine sG F (o_gtrT (F.e rfl) (F.e rfl) (by omega) fun a F => sD F (o_pickF (F.e rfl) (F.e rfl) ?_));iterate 2 clear F a
   intro a F
   with_reducible refine l_nil (q_then ?_)
   refine c_true F rfl rfl (c_seq (c_region ?_))
   refine sD F (o_assign (F.e rfl) ?_);clear F a;intro a F
   with_reducible refine l_nil (q_then (c_ret (q_thenR ?_)))
   exact p_ret F rfl (.cons (.tmp (F.e rfl)) .nil) (⟨by simp [oneOr, validP, show ¬ n ≤ 128 by omega], M.ext⟩)
  ·obtain ⟨k, rfl⟩ := Int.eq_ofNat_of_zero_le (show 0 ≤ n by omega)
   have hv : validP p (k : Int) = decide (maskI p (k : Int) = p) := by
    have h2 : (0 : Int) ≤ k := by omega
    have h3 : (k : Int) ≤ 128 := by omega
    simp only [validP, h2, h3, decide_true, Bool.true_and]
    by_cases h : maskI p (k : Int) = p
    ·rw [dqT h, beq_iff_eq];exact h
    ·rw [dqF h, beq_eq_false_iff_ne];exact h
   rw [hv]
   refine fn_ofM (n := 23) [] Tryz.func168 rfl rfl rfl ?_
   intro a w F M hwW
   refine c_seq (c_region ?_)
   (refine sD F (o_box M (F.e rfl) rfl ?_);clear F M;intro b1 w M a F)
   refine sD F (o_assign (F.e rfl) ?_);clear F a;intro a F
   with_reducible refine l_nil (q_then (c_seq (c_seq (c_region ?_))))
   refine sD F (o_fieldAddr (F.e rfl) fun a F => sD F (o_load1 M (F.e rfl) (by repeat constructor) (by first | assumption | rfl) ?_));iterate 2 clear F a
   intro a F
   refine sD F (o_lssF (F.e rfl) (F.e rfl) (by omega) fun a F => sD F (o_move (F.e rfl) fun a F => sG F (o_fieldAddr (F.e rfl) fun a F => sG F (o_load1 M (F.e rfl) (by repeat constructor) (by first | assumption | rfl) ?_))));iterate 4 clear F a
   intro a F
   refine sG F (o_gtrF (F.e rfl) (F.e rfl) (by omega) fun a F => sD F (o_pickF (F.e rfl) (F.e rfl) ?_));iterate 2 clear F a
   intro a F
   with_reducible refine l_nil (q_then ?_)
   refine c_false F rfl rfl ?_
   with_reducible refine c_skip (q_then (c_seq (c_seq (c_region ?_))))
   refine sD F (o_fieldAddr (F.e rfl) fun a F => sD F (o_load1 M (F.e rfl) (by repeat constructor) (by first | assumption | rfl) ?_));iterate 2 clear F a
   intro a F
   refine sD F (o_assign (F.e rfl) ?_);clear F a;intro a F
   with_reducible refine l_nil (q_then (c_block ?_))
   refine c_loop (fun m a w => ∃ i : Nat, m = 128 - i ∧ k ≤ i ∧ i ≤ 128 ∧ (∀ j, k ≤ j → j < i → bitI p j = 0) ∧ Frm a 23 [] [(3, .int .i64 i), (1, .pointer (some ⟨b1, 0, none⟩))] ∧ Mem [] W w [(b1, .cells (pfC p k).toArray 65 (0, 0))]) (128 - k) ⟨k, rfl, by omega, by omega, fun j h1 h2 => by omega, F.only [3, 1] rfl, M⟩ ?_
   clear F M
   rintro m a w ⟨i, hm, hki, hi, hall, F, M⟩
   by_cases hlt : i < 128
   ·refine c_seq ?_
    refine c_seq (c_region ?_)
    refine sD F (o_move (F.e rfl) fun a F => sD F (o_lssT (F.e rfl) (F.e rfl) (by omega) ?_));iterate 2 clear F a
    intro a F
    with_reducible refine l_nil (q_then ?_)
    refine c_true F rfl rfl ?_
    with_reducible refine c_skip (q_then (c_seq (c_block (c_seq (c_region ?_)))))
    refine sD F (o_fieldAddr (F.e rfl) fun a F => sD F (o_loadA M (F.e rfl) (by repeat constructor) (by first | assumption | rfl) ?_));iterate 2 clear F a
    intro a F
    refine sD F (o_move (F.e rfl) ?_);clear F a;intro a F
    (refine sD F (o_call (F.e rfl) (F.evs rfl) (Cal.mono (bit_c p hp i hlt _) ?_));clear F;clear a;rintro _ w ⟨rfl, hE⟩ a F;replace M := M.later hE;clear hE)
    by_cases hb : bitI p i = 0
    ·refine sD F (o_neqF (F.e rfl) (F.e rfl) (by omega) ?_);clear F a;intro a F
     with_reducible refine l_nil (q_then ?_)
     refine c_false F rfl rfl ?_
     with_reducible refine c_skip (q_inB (q_then (c_region ?_)))
     refine sD F (o_move (F.e rfl) fun a F => sD F (o_add (F.e rfl) (F.e rfl) (w_i64 (by omega) (by omega)) fun a F => sD F (o_assign (F.e rfl) ?_)));iterate 3 clear F a
     intro a F
     with_reducible refine l_nil (q_then ?_)
     refine ⟨_, by omega, i + 1, rfl, by omega, by omega, fun j h1 h2 => ?_, F.only [3, 1] rfl, M⟩
     by_cases e : j = i
     ·subst e;exact hb
     ·exact hall j h1 (by omega)
    ·refine sD F (o_neqT (F.e rfl) (F.e rfl) (by omega) ?_);clear F a;intro a F
     with_reducible refine l_nil (q_then ?_)
     refine c_true F rfl rfl (c_seq (c_region ?_))
     refine sD F (o_assign (F.e rfl) ?_);clear F a;intro a F
     with_reducible refine l_nil (q_then (c_ret (q_inBR (q_thenR (q_thenR (q_inBR (q_thenR ?_)))))))
     refine p_ret F rfl (.cons (.tmp (F.e rfl)) .nil) (⟨?_, M.ext⟩)
     rw [dqF fun h => hb ((valid_bits hp k).1 h i hki hlt)]
     rfl
   ·obtain rfl : i = 128 := by omega
    with_reducible refine c_seq (c_seq (c_region ?_))
    refine sD F (o_move (F.e rfl) fun a F => sD F (o_lssF (F.e rfl) (F.e rfl) (by omega) ?_));iterate 2 clear F a
    intro a F
    with_reducible refine l_nil (q_then ?_)
    refine c_false F rfl rfl ?_
    with_reducible refine c_exit (q_thenX (q_thenX (q_inBX (q_then (c_seq (c_region ?_))))))
    refine sD F (o_assign (F.e rfl) ?_);clear F a;intro a F
    with_reducible refine l_nil (q_then (c_ret ?_))
    refine p_ret F rfl (.cons (.tmp (F.e rfl)) .nil) (⟨?_, M.ext⟩)
    rw [dqT ((valid_bits hp k).2 fun j h1 h2 => hall j h1 h2)]
    rfl
theorem nth_mask {a : List Int} {i : Nat} (hi : i < 128) (n : Int) : nth (pfC (maskI a (i : Int)) n) (0 + 0 + ((i / 8 : Nat) : Int).toNat * 1) = some (.int .u8 (maskAt a (i : Int) (i / 8))) := by
 have h : i / 8 < 16 := by omega
 rw [nth_spec, show 0 + 0 + ((i / 8 : Nat) : Int).toNat * 1 = i / 8 by omega]
 unfold pfC ipC
 rw [List.getElem?_append_left (by simp [maskI_len, h]), List.getElem?_map]
 simp [maskI, h]
theorem put_mask {a : List Int} (ha : IsIP a) {i : Nat} (hi : i < 128) (n : Int) : put (pfC (maskI a (i : Int)) n) (0 + 0 + ((i / 8 : Nat) : Int).toNat * 1) [.int .u8 (bitsOf .or .u8 (maskAt a (i : Int) (i / 8)) (IntKind.u8.wrap (bitI a i * 2 ^ min (7 - ((i % 8 : Nat) : Int)).toNat IntKind.u8.bits)))] = some (pfC (maskI a ((i : Int) + 1)) n) := by
 have h : i / 8 < 16 := by omega
 rw [mask_step ha hi, put1 (q := i / 8) _ (by omega) (by simp [pfC, ipC, maskI_len];omega)]
 congr 1
 unfold pfC ipC
 rw [List.set_append_left _ _ (by simp [maskI_len, h]), ← List.map_set, mask_set hi]
theorem rmask_c (a : List Int) (ha : IsIP a) (n : Int) (W : World) : Cal Tryz.prog 82 [.agg (ipC a).toArray, .int .i64 n].toArray W fun v w' => v = .agg (pfC (maskI a (clampB n)) (clampB n)).toArray ∧ Ext [] W w' := by
 have e1 := seg_all (ipC_len ha.len)
 obtain ⟨c, hc⟩ : ∃ c : Nat, clampB n = (c : Int) := Int.eq_ofNat_of_zero_le (by unfold clampB;split <;> (try split) <;> omega)
 have hc2 : c ≤ 128 := by (have : clampB n ≤ 128 := by (unfold clampB;split <;> (try split) <;> omega));omega
 obtain ⟨ip, rfl⟩ : ∃ ip, ip = a := ⟨_, rfl⟩
 rw [hc]
 have hz := mask_zero ha
 refine fn_ofM (n := 34) [] Tryz.func82 rfl rfl rfl ?_
 intro a w F M hwW
 refine c_seq (c_region ?_)
 (refine sD F (o_box M (F.e rfl) rfl ?_);clear F M;intro b2 w M a F)
 (refine sD F (o_alloc M ?_);clear F M;intro b4 w M a F)
 with_reducible refine l_nil (q_then (c_seq (c_region ?_)))
 refine sD F (o_move (F.e rfl) fun a F => sD F (o_max (F.e rfl) (F.e rfl) fun a F => sD F (o_min (F.e rfl) (F.e rfl) fun a F => sD F (o_assign (F.e rfl) ?_))));iterate 4 clear F a
 intro a F
 with_reducible refine l_nil (q_then (c_seq (c_region ?_)))
 refine sD F (o_move (F.e rfl) fun a F => sD F (o_build F rfl rfl ?_));iterate 2 clear F a
 intro a F
 rw [show (if 128 < (if n < 0 then 0 else n) then (128 : Int) else (if n < 0 then 0 else n)) = (c : Int) from hc] at F
 skip
 (refine sD F (o_alloc M ?_);clear F M;intro b5 w M a F)
 (refine stepN rfl F (o_storeA M (F.e rfl) (F.e rfl) (by rfl) (by rfl) (by repeat constructor) (by rfl) (by repeat constructor) ?_);clear F M;intro w M a F)
 with_reducible refine l_nil (q_then (c_seq (c_seq (c_region ?_))))
 refine sD F (o_assign (F.e rfl) ?_);clear F a;intro a F
 with_reducible refine l_nil (q_then (c_block ?_))
 replace M : Mem [] W w [(b5, .cells (pfC (maskI ip ((0 : Nat) : Int)) c).toArray 65 (0, 0)), (b4, .cells (pfC zeroIP 0).toArray 65 (0, 0)), (b2, .cells (ipC ip).toArray 63 (0, 0))] := by
  rw [show ((0 : Nat) : Int) = 0 from rfl, hz]
  exact M
 refine c_loop (fun k a w => ∃ i : Nat, k = c - i ∧ i ≤ c ∧ Frm a 34 [] [(6, .int .i64 i), (1, .int .i64 c), (2, .pointer (some ⟨b2, 0, none⟩)), (4, .pointer (some ⟨b4, 0, none⟩)), (5, .pointer (some ⟨b5, 0, none⟩))] ∧ Mem [] W w [(b5, .cells (pfC (maskI ip (i : Int)) c).toArray 65 (0, 0)), (b4, .cells (pfC zeroIP 0).toArray 65 (0, 0)), (b2, .cells (ipC ip).toArray 63 (0, 0))]) c ⟨0, rfl, by omega, F.only [6, 1, 2, 4, 5] rfl, M⟩ ?_
 clear F M
 rintro k a w ⟨i, hk, hi, F, M⟩
 by_cases hlt : i < c
 ·have hm8 : i % 8 < 8 := Nat.mod_lt _ (by omega)
  have n1 := nth_mask (a := ip) (i := i) (by omega) (c : Int)
  have hb := bitI_bd ha i
  with_reducible refine c_seq (c_seq (c_region ?_))
  refine sD F (o_move (F.e rfl) fun a F => sD F (o_move (F.e rfl) fun a F => sD F (o_lssT (F.e rfl) (F.e rfl) (by omega) ?_)));iterate 3 clear F a
  intro a F
  with_reducible refine l_nil (q_then ?_)
  refine c_true F rfl rfl ?_
  with_reducible refine c_skip (q_then (c_seq (c_block ?_)))
  refine c_draw 16 F (by kernel_rfl) ?_
  intro w1 hE hok
  have M1 := M.later hE
  refine mK hok rfl rfl (fun a' w' F' E' => o_move (F'.e rfl) ⟨Ext.refl _ _, rfl⟩) ?_
  (refine mK hok rfl rfl (fun a' w' F' E' => o_quo (F'.e rfl) (F'.e rfl) (by omega) (quo8 (i := i) (by omega)) ⟨Ext.refl _ _, rfl⟩) ?_)
  refine mK hok rfl rfl (fun a' w' F' E' => o_fieldAddr (F'.e rfl) ⟨Ext.refl _ _, rfl⟩) (mK hok rfl rfl (fun a' w' F' E' => o_indexArr (F'.e rfl) (F'.e rfl) (by omega) (by omega) ⟨Ext.refl _ _, rfl⟩) (mK hok rfl rfl (fun a' w' F' E' => o_load1 (M1.later E') (F'.e rfl) (by repeat constructor) (by first | assumption | rfl) ⟨Ext.refl _ _, rfl⟩) ?_))
  refine mK hok rfl rfl (fun a' w' F' E' => o_loadA (M1.later E') (F'.e rfl) (by repeat constructor) (by first | assumption | rfl) ⟨Ext.refl _ _, rfl⟩) ?_
  refine mK hok rfl rfl (fun a' w' F' E' => o_move (F'.e rfl) ⟨Ext.refl _ _, rfl⟩) ?_
  (refine mK hok rfl rfl (fun a' w' F' E' => o_call (F'.e rfl) (F'.evs rfl) (Cal.mono (bit_c ip ha i (by omega) _) fun _ _ hh => ⟨hh.2, hh.1⟩)) ?_)
  refine mK hok rfl rfl (fun a' w' F' E' => o_move (F'.e rfl) ⟨Ext.refl _ _, rfl⟩) ?_
  (refine mK hok rfl rfl (fun a' w' F' E' => o_rem (F'.e rfl) (F'.e rfl) (by omega) (rem8 i) ⟨Ext.refl _ _, rfl⟩) ?_)
  refine mK hok rfl rfl (fun a' w' F' E' => o_conv (F'.e rfl) (w_u64 (by omega) (by omega)) ⟨Ext.refl _ _, rfl⟩) (mK hok rfl rfl (fun a' w' F' E' => o_sub (F'.e rfl) (F'.e rfl) (w_u64 (by omega) (by omega)) ⟨Ext.refl _ _, rfl⟩) (mK hok rfl rfl (fun a' w' F' E' => o_shl (F'.e rfl) (F'.e rfl) (by omega) rfl ⟨Ext.refl _ _, rfl⟩) (mK hok rfl rfl (fun a' w' F' E' => o_or (F'.e rfl) (F'.e rfl) rfl ⟨Ext.refl _ _, rfl⟩) (mK hok rfl rfl (fun a' w' F' E' => o_fieldAddr (F'.e rfl) ⟨Ext.refl _ _, rfl⟩) (mK hok rfl rfl (fun a' w' F' E' => o_indexArr (F'.e rfl) (F'.e rfl) (by omega) (by omega) ⟨Ext.refl _ _, rfl⟩) ?_)))))
  (refine mDone rfl rfl ?_;clear F M;intro a w F hE2 hX hTT hDD hPP;have M := M1.later hE2;clear M1;clear hX;clear hE2;clear hok;clear hE;clear hTT;clear hDD;clear hPP;(try dsimp only at F))
  (refine stepN rfl F (o_store1 M (F.e rfl) (F.e rfl) rfl (by repeat constructor) (put_mask ha (by omega) _) (by repeat constructor) ?_);clear F M;intro w M a F)
  with_reducible refine l_nil (q_inB (q_then (c_region ?_)))
  refine sD F (o_move (F.e rfl) fun a F => sD F (o_add (F.e rfl) (F.e rfl) (w_i64 (by omega) (by omega)) fun a F => sD F (o_assign (F.e rfl) ?_)));iterate 3 clear F a
  intro a F
  with_reducible refine l_nil (q_then ?_)
  refine ⟨_, by omega, i + 1, rfl, by omega, F.only [6, 1, 2, 4, 5] rfl, ?_⟩
  rw [show ((i + 1 : Nat) : Int) = (i : Int) + 1 by omega]
  exact M
 ·obtain rfl : i = c := by omega
  have s2 := seg_pf (maskI_len ip (i : Int)) (i : Int)
  with_reducible refine c_seq (c_seq (c_region ?_))
  refine sD F (o_move (F.e rfl) fun a F => sD F (o_move (F.e rfl) fun a F => sD F (o_lssF (F.e rfl) (F.e rfl) (by omega) ?_)));iterate 3 clear F a
  intro a F
  with_reducible refine l_nil (q_then ?_)
  refine c_false F rfl rfl ?_
  with_reducible refine c_exit (q_thenX (q_thenX (q_inBX (q_then (c_seq (c_region ?_))))))
  refine sD F (o_loadA M (F.e rfl) (by repeat constructor) (by first | assumption | rfl) ?_);clear F a;intro a F
  (refine stepN rfl F (o_storeA M (F.e rfl) (F.e rfl) (pfC_len (maskI_len ip (i : Int)) i) (one_pf _ _)  (by repeat constructor)  (put_all (by rw [pfC_len (maskI_len ip (i : Int)) i];rfl)) (by repeat constructor) ?_);clear F M;intro w M a F)
  with_reducible refine l_nil (q_then (c_ret ?_))
  refine p_ret F rfl (.cons (.cell (F.e rfl) (run_loadVar_agg TAgg.h (M.heap (by repeat constructor)) s2)) .nil) ⟨rfl, M.ext⟩
end
section
open Go.RowKit
attribute [local irreducible] OpTo wpListIn Code.wpIn MW Cal
end
section
open Go.RowKit
attribute [local irreducible] OpTo wpListIn Code.wpIn MW Cal
end
section
open Go.RowKit
attribute [local irreducible] OpTo wpListIn Code.wpIn MW Cal
theorem IsIP.set {ip : List Int} (h : IsIP ip) (i : Nat) {x : Int} (h0 : 0 ≤ x) (h1 : x < 256) : IsIP (ip.set i x) :=
 ⟨by rw [List.length_set];exact h.len, fun y hy => by
  rcases List.mem_or_eq_of_mem_set hy with hy | rfl
  ·exact h.bd y hy
  ·exact ⟨h0, h1⟩⟩
end
section
open Go.RowKit
end
section
open Go.RowKit
attribute [local irreducible] OpTo wpListIn Code.wpIn MW Cal
end
theorem cmpEui_c (x y : Int) (W : World) : Cal Tryz.prog 185 [.int .u64 x, .int .u64 y].toArray W fun v w' => v = .int .i64 (cmpV x y) ∧ Ext [] W w' := cmp_eui x y W
end Go.Proofs.YtfhkmgcalcfibaaGreat

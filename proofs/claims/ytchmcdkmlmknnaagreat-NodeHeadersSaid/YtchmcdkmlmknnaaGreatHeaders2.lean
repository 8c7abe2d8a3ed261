/-
  Texts joined: LibQ, LibT, LibR, LibS, LibV, LibX, LibY, Lib2, Lib3, Lib4, Lib5.
-/
import Derived.Test.YtchmcdkmlmknnaaGreatHeaders1
import Derived.Laws.Externs
import Derived.Lib.Overlaps
import Derived.Lib.BytesEntry
/-! LibQ -/
namespace Go.Proofs.YtchmcdkmlmknnaaGreat
set_option linter.unusedVariables false
set_option linter.unusedSimpArgs false
open Go.RowKit
theorem sg_eq : ∀ (cs : List Value) (off n : Nat), seg cs off n = if off + n ≤ cs.length then some ((cs.drop off).take n) else none
  | [], 0, 0 => by simp [seg]
  | [], 0, n + 1 => by simp [seg]
  | [], off + 1, n => by simp [seg]
  | x :: xs, 0, 0 => by simp [seg]
  | x :: xs, 0, n + 1 => by
    rw [seg, sg_eq xs 0 n]
    by_cases h : n ≤ xs.length
    · rw [if_pos (by omega), if_pos (by simp; omega)]; simp
    · rw [if_neg (by omega), if_neg (by simp; omega)]
  | x :: xs, off + 1, n => by
    rw [seg, sg_eq xs off n]
    by_cases h : off + n ≤ xs.length
    · rw [if_pos h, if_pos (by simp; omega)]; simp
    · rw [if_neg h, if_neg (by simp; omega)]
theorem sg_seg {cs ys zs : List Value} {o n off k q : Nat} (h : seg cs o n = some ys) (h2 : seg ys off k = some zs) (hq : q = o + off) : seg cs q k = some zs := by
  subst hq
  rw [sg_eq] at *
  split at h
  · rename_i h1
    simp only [Option.some.injEq] at h
    subst h
    split at h2
    · rename_i h3
      simp only [List.length_take, List.length_drop] at h3
      simp only [Option.some.injEq] at h2
      subst h2
      rw [if_pos (by omega)]
      congr 1
      rw [List.drop_take, List.take_take, List.drop_drop]
      congr 1
      omega
    · cases h2
  · cases h
/-- the cells of a list of elements -/
def encL {α : Type} (enc : α → List Value) (ls : List α) : List Value := ls.flatMap enc
theorem encL_nil {α : Type} (enc : α → List Value) : encL enc [] = [] := rfl
theorem encL_app {α : Type} (enc : α → List Value) (xs ys : List α) : encL enc (xs ++ ys) = encL enc xs ++ encL enc ys := by simp [encL]
theorem encL_cons {α : Type} (enc : α → List Value) (x : α) (ys : List α) : encL enc (x :: ys) = enc x ++ encL enc ys := by simp [encL]
theorem encL_one {α : Type} (enc : α → List Value) (x : α) : encL enc [x] = enc x := by simp [encL]
/-- v: a slice of n elements (sz cells each), whose cells are xs -/
def SlAt (W : World) (sz : Nat) (v : Value) (n : Nat) (xs : List Value) : Prop :=
  ∃ p cap, v = .slice p n cap ∧ n ≤ cap ∧ (∀ a : Addr, p = some a → True) ∧ xs.length = n * sz ∧ (0 < n → ∃ b o cs t fz, p = some ⟨b, o, none⟩ ∧ W.heap[b]? = some (.cells (List.toArray cs) t fz) ∧ seg cs o (n * sz) = some xs)
theorem SlAt.later {W w : World} {sz : Nat} {v : Value} {n : Nat} {xs : List Value} (h : SlAt W sz v n xs) (E : Ext [] W w) : SlAt w sz v n xs := by
  obtain ⟨p, cap, h1, h2, h3, h4, h5⟩ := h
  refine ⟨p, cap, h1, h2, h3, h4, fun hn => ?_⟩
  obtain ⟨b, o, cs, t, fz, h6, h7, h8⟩ := h5 hn
  exact ⟨b, o, cs, t, fz, h6, by rw [E.block b (Array.getElem?_eq_some_iff.1 h7).1 (by simp)]; exact h7, h8⟩
theorem SlAt.nil (W : World) (sz : Nat) : SlAt W sz (.slice none 0 0) 0 [] := ⟨none, 0, rfl, Nat.le_refl _, by simp, by simp, fun h => absurd h (by omega)⟩
theorem OwnS.slAt {e : TypeId} {sz : Nat} {v : Value} {n : Nat} {xs : List Value} {ent : List (Nat × Obj)} (h : OwnS e sz v n xs ent) {S : List Nat} {W0 w : World} {l : List (Nat × Obj)} (M : Mem S W0 w l) (hs : ∀ p ∈ ent, p ∈ l) : SlAt w sz v n xs := by
  rcases h with ⟨rfl, rfl, rfl, rfl⟩ | ⟨b, cap, junk, rfl, rfl, hxl, hjl, hnc⟩
  · exact SlAt.nil _ _
  · refine ⟨_, _, rfl, hnc, by simp, hxl, fun _ => ⟨b, 0, xs ++ junk, e, (0, 0), rfl, M.at_ (b, _) (hs _ (by simp)), ?_⟩⟩
    have := seg_of [] xs junk
    simpa [hxl] using this
/-- the elements' slice as a whole new list of them -/
theorem SlAt.src {P : Program} {W : World} {sz : Nat} {v : Value} {n : Nat} {xs : List Value} (h : SlAt W sz v n xs) (h1 : xs.all (·.oneCell') = true) : SrcOf P W v n sz xs := by
  obtain ⟨p, cap, rfl, h2, h3, h4, h5⟩ := h
  rcases Nat.eq_zero_or_pos n with hn | hn
  · subst hn
    have : xs = [] := List.length_eq_zero_iff.1 (by simpa using h4)
    subst this
    refine ⟨by simp [Builtin.lenOf], fun d => ?_, by simp, by simp⟩
    cases p with
    | none => simp [Builtin.firstCells]
    | some a => exact run_firstCells_some _ sz 0 _ _ _ [] (by simp) (fun j v hj => by simp at hj)
  · obtain ⟨b, o, cs, t, fz, rfl, h7, h8⟩ := h5 hn
    exact SrcOf.cells' h7 h8 h1
section
variable {P : Program} {ρ : Operand → Value} {w W0 : World} {S : List Nat} {l l' : List (Nat × Obj)} {R : Value → World → Prop} {d : Option Tmp} {ty : TypeId} {pos : String} {af : Array Edge} {g : Option (Nat × Bool)}
theorem o_capSl {x : Operand} {t e : TypeId} {p : Option Addr} {n c : Nat} (hx : ρ x = .slice p n c) [ht : TU P t (.slice e)] (h : R (.int .i64 c) w) : OpTo P ⟨d, .call ⟨.builtin .cap, #[x], #[t]⟩, ty, pos, af, g⟩ ρ w R :=
  OpTo.val (v := .int .i64 c) (w' := w) (by simp [execOp, resolve, invoke, builtin, hx, Builtin.cap_, run_underlying ht.h, goInt]) h
/-- x[i:] of a slice, i below its capacity -/
theorem o_slL {t e : TypeId} {x i : Operand} {k : IntKind} {b o len cap : Nat} {m : Int} (hx : ρ x = .slice (some ⟨b, o, none⟩) len cap) (hi : ρ i = .int k m) [ht : TU P t (.slice e)] {sz : Nat} [hs : TSz P e sz] (h0 : 0 ≤ m) (h1 : m ≤ len) (h3 : m < cap) (h : R (.slice (some ⟨b, o + m.toNat * sz, none⟩) (len - m.toNat) (cap - m.toNat)) w) : OpTo P ⟨d, .slice t x (some i) none none, ty, pos, af, g⟩ ρ w R := by
  have h6 : ¬ cap = m.toNat := by omega
  exact OpTo.val (v := .slice (some ⟨b, o + m.toNat * sz, none⟩) (len - m.toNat) (cap - m.toNat)) (w' := w) (by simp [execOp, Instr.sliceAt, Instr.slice, Instr.sliceBounds, Instr.sliceBound, asIntOf, hx, hi, run_underlying ht.h, run_sizeOf hs.h, h0, h1, h6, addr_add]) h
/-! entries of the model -/
theorem o_entry {c : Operand} {f : FuncId} {fn : Func} {e : Array Value → Sem Value} {xs : Array Operand} {ts : Array TypeId} {vs : Array Value} {v : Value} (hc : ρ c = .func (.func f) #[] #[]) (hf : P.funcs[f]? = some fn) (hname : (fn.name == "runtime.NumGoroutine") = false)
    (hb : fn.body.isNone = true) (hn : Extern.findNext fn = none) (he : Extern.find fn = some e) (ha : xs.map ρ = vs) (hr : (e vs).run P w = .ok v w) (h : R v w) : OpTo P ⟨d, .call ⟨.value c, xs, ts⟩, ty, pos, af, g⟩ ρ w R := by
  refine OpTo.val (v := v) (w' := w) ?_ h
  have := run_callFunc_extern hf hname hb hn he vs w
  rw [hr] at this
  simp [execOp, resolve, invoke, Deferred.ofValue, hc, ha, this]
end
/-! bytes compared -/
def cmpL : List Int → List Int → Int
  | [], [] => 0
  | [], _ :: _ => -1
  | _ :: _, [] => 1
  | x :: xs, y :: ys => if x < y then -1 else if y < x then 1 else cmpL xs ys
theorem find_range_succ (n : Nat) (p : Nat → Bool) : (List.range (n + 1)).find? p = if p 0 then some 0 else ((List.range n).find? fun i => p (i + 1)).map (· + 1) := by
  rw [List.range_succ_eq_map, List.find?_cons]
  cases h : p 0 with
  | true => simp
  | false => simp [List.find?_map]; rfl
theorem ba_get (bs : List UInt8) (i : Nat) : (⟨bs.toArray⟩ : ByteArray)[i]! = bs.getD i default := by
  rw [getElem!_def]
  rcases Nat.lt_or_ge i bs.length with h | h
  · rw [mkS_get h]; simp [h]
  · have : (⟨bs.toArray⟩ : ByteArray)[i]? = none := by
      rw [getElem?_neg]
      rw [mkS_size]; omega
    rw [this]; simp [h]
theorem cmp_cmpL : ∀ (xs ys : List UInt8), Extern.BytealgCompare.cmp ⟨xs.toArray⟩ ⟨ys.toArray⟩ = cmpL (xs.map fun c => (c.toNat : Int)) (ys.map fun c => (c.toNat : Int))
  | [], [] => by decide
  | [], y :: ys => by
    unfold Extern.BytealgCompare.cmp
    rw [mkS_size, mkS_size]
    simp [cmpL]
  | x :: xs, [] => by
    unfold Extern.BytealgCompare.cmp
    rw [mkS_size, mkS_size]
    simp [cmpL]
  | x :: xs, y :: ys => by
    have ih := cmp_cmpL xs ys
    unfold Extern.BytealgCompare.cmp at *
    rw [mkS_size, mkS_size] at *
    simp only [List.length_cons] at *
    have hm : min (xs.length + 1) (ys.length + 1) = min xs.length ys.length + 1 := by omega
    rw [hm, find_range_succ]
    have hg0 : ∀ (z : UInt8) (zs : List UInt8), (⟨(z :: zs).toArray⟩ : ByteArray)[0]! = z := fun z zs => by rw [ba_get]; rfl
    have hg1 : ∀ (z : UInt8) (zs : List UInt8) (i : Nat), (⟨(z :: zs).toArray⟩ : ByteArray)[i + 1]! = (⟨zs.toArray⟩ : ByteArray)[i]! := by
      intro z zs i
      rw [ba_get, ba_get]; simp
    simp only [hg0, hg1]
    by_cases hxy : x = y
    · subst hxy
      simp only [bne_self_eq_false, Bool.false_eq_true, if_false, List.map_cons, cmpL, Int.lt_irrefl]
      rw [← ih]
      cases List.find? (fun i => (⟨xs.toArray⟩ : ByteArray)[i]! != (⟨ys.toArray⟩ : ByteArray)[i]!) (List.range (min xs.length ys.length)) with
      | none => simp
      | some i => simp [hg1]
    · have hne : (x != y) = true := by simpa using hxy
      simp only [hne, if_true, hg0, List.map_cons, cmpL]
      have hnn : x.toNat ≠ y.toNat := fun h => hxy (UInt8.toNat_inj.1 h)
      by_cases hlt : x < y
      · have : x.toNat < y.toNat := hlt
        rw [if_pos hlt, if_pos (by omega)]
      · have : ¬ x.toNat < y.toNat := hlt
        rw [if_neg hlt, if_neg (by omega), if_pos (by omega)]
/-- a slice of bytes -/
theorem run_bytesOf {P : Program} {w : World} {v : Value} {n : Nat} {xs : List Int} (h : SlAt w 1 v n (xs.map (Value.int .u8))) : (Extern.Bytes.bytesOf v).run P w = .ok ⟨(Lib.bytesOf xs).toArray⟩ w := by
  obtain ⟨p, cap, rfl, h2, h3, h4, h5⟩ := h
  simp only [List.length_map, Nat.mul_one] at h4
  rcases Nat.eq_zero_or_pos n with hn | hn
  · have : xs = [] := List.length_eq_zero_iff.1 (by omega)
    subst this; subst hn
    cases p with
    | none => simp [Extern.Bytes.bytesOf, Lib.bytesOf]; rfl
    | some a => simp [Extern.Bytes.bytesOf, Lib.bytesOf, Extern.Bytes.loadBytes]; rfl
  · obtain ⟨b, o, cs, t, fz, rfl, h7, h8⟩ := h5 hn
    have := Lib.run_loadBytesX (P := P) w xs ⟨b, o, none⟩ .empty (fun j x hj => by
      obtain ⟨h9, h10⟩ := seg_spec _ _ _ _ h8
      have hjl : j < xs.length := (List.getElem?_eq_some_iff.1 hj).1
      have := h10 j (by omega)
      rw [addr_add]
      refine cell_at h7 ?_
      simp only [List.getElem?_toArray, this]
      simp [hj])
    simp only [Extern.Bytes.bytesOf, ← h4]
    rw [this]
    simp [ByteArray.empty, ByteArray.emptyWithCapacity]
    rfl
theorem bytes_nums {xs : List Int} (h : ∀ x ∈ xs, 0 ≤ x ∧ x < 256) : (Lib.bytesOf xs).map (fun c => (c.toNat : Int)) = xs := by
  induction xs with
  | nil => rfl
  | cons x xs ih =>
    have h1 := h x (by simp)
    have e : (Lib.bytesOf (x :: xs)) = x.toNat.toUInt8 :: Lib.bytesOf xs := by simp [Lib.bytesOf]
    rw [e, List.map_cons, ih fun y hy => h y (by simp [hy])]
    congr 1
    simp only [Nat.toUInt8, UInt8.toNat_ofNat']
    omega
theorem run_compare {P : Program} {w : World} {v u : Value} {n m : Nat} {xs ys : List Int} (h : SlAt w 1 v n (xs.map (Value.int .u8))) (k : SlAt w 1 u m (ys.map (Value.int .u8))) (hx : ∀ x ∈ xs, 0 ≤ x ∧ x < 256) (hy : ∀ x ∈ ys, 0 ≤ x ∧ x < 256) :
    (Extern.BytealgCompare.compare #[v, u]).run P w = .ok (.int .i64 (cmpL xs ys)) w := by
  change Sem.run P (do pure (goInt (Extern.BytealgCompare.cmp (← Extern.Bytes.bytesOf v) (← Extern.Bytes.bytesOf u)))) w = _
  simp only [Sem.run_bind, run_bytesOf h, run_bytesOf k, Result.andThen_ok, Sem.run_pure, cmp_cmpL, bytes_nums hx, bytes_nums hy, goInt]
section
variable {P : Program} {ρ : Operand → Value} {w W0 : World} {S : List Nat} {l l' : List (Nat × Obj)} {R : Value → World → Prop} {d : Option Tmp} {ty : TypeId} {pos : String} {af : Array Edge} {g : Option (Nat × Bool)}
theorem o_storeAE {t : TypeId} {x y : Operand} {b off n : Nat} {cs cs' vs : List Value} {t' : TypeId} [hs : TAgg P t n] (M : Mem S W0 w l) (hx : ρ x = .pointer (some ⟨b, off, none⟩)) (hy : ρ y = .agg vs.toArray) (hn : vs.length = n) (h1 : vs.all (·.oneCell') = true) (hb : Has l b (.cells cs.toArray t' (0, 0))) (hp : put cs off vs = some cs')
    (hu : Upd l b (.cells cs.toArray t' (0, 0)) (.cells cs'.toArray t' (0, 0)) l') (h : ∀ w', Ext [b] w w' → Mem S W0 w' l' → R undef w') : OpTo P ⟨d, .store t x y, ty, pos, af, g⟩ ρ w R := by
  obtain ⟨hle, rfl⟩ := put_splice _ _ _ _ hp
  obtain ⟨w', hr, he, hh⟩ := run_storeRow (P := P) (off := off) vs 0 cs w (M.heap hb) (by simpa using hle) (fun v hv => List.all_eq_true.1 h1 v hv)
  refine OpTo.skip (w' := w') ?_ (h _ he (M.turned hu he (by simpa using hh)))
  simp only [execOp, Instr.storeAt, Instr.sureAddr, hx, hy, storeVar, Sem.run_bind, Sem.run_pure, Result.andThen_ok, run_sizeOf_agg hs.h, Value.cells]
  simp [hr, hn]
end
end Go.Proofs.YtchmcdkmlmknnaaGreat
/-! LibT -/
namespace Go.Proofs.YtchmcdkmlmknnaaGreat
set_option linter.unusedVariables false
set_option linter.unusedSimpArgs false
open Go.RowKit
theorem add_add (a : Addr) (m r : Nat) : (a.add m).add r = a.add (m + r) := by
  obtain ⟨b, o, sp⟩ := a
  unfold Addr.add
  by_cases hm : m = 0
  · subst hm
    simp
  · by_cases hr : r = 0
    · subst hr; simp [hm]
    · simp [hm, hr, show ¬ m + r = 0 by omega]; omega
section
variable {H : Type} {enc : TypeId × Value → H} {P : Program} {w : World} {base : Nat} {sp : Nat → Bool} {held : Bool}
theorem open_slG {α : Type} {encE : α → List Value} {Is : α → Prop} {t e : TypeId} {sz : Nat} (ht : P.underlying t = some (.slice e)) (hsz : P.cellsOf e = sz) (h0 : 0 < sz)
    (hdec : ∀ n cs y, DataW.trod enc P w base sp held n e cs = some y → ∃ x : α, Is x ∧ cs = encE x) {fuel : Nat} {cs : List Value} {x : DataW H × List MemPlace} (h : DataW.trod enc P w base sp held fuel t cs = some x) :
    ∃ (v : Value) (ls : List α), cs = [v] ∧ (∀ x ∈ ls, Is x) ∧ SlAt w sz v ls.length (encL encE ls) ∧ ls.length ≤ 9223372036854775807 := by
  rcases DataW.trod_slice ht h with ⟨rfl, _⟩ | ⟨a, len, cap, elems, rest, n, _, rfl, _, _, hlc, hcm, hel, hat, _, _⟩
  · exact ⟨_, [], rfl, by simp, SlAt.nil _ _, by simp⟩
  have hml : maxLen = 9223372036854775807 := rfl
  rw [hsz] at hat
  have key : ∀ k, k ≤ len → ∃ ls : List α, ls.length = k ∧ (∀ x ∈ ls, Is x) ∧ (encL encE ls).length = k * sz ∧ ∀ j, j < k * sz → w.cell? (a.add j) = (encL encE ls)[j]? := by
    intro k
    induction k with
    | zero => exact fun _ => ⟨[], rfl, by simp, by simp [encL_nil], by simp⟩
    | succ k ih =>
      intro hk
      obtain ⟨ls, h1, h2, h3, h4⟩ := ih (by omega)
      have hb := hat k (by omega)
      rw [List.getElem?_eq_getElem (by omega), Option.bind_eq_some_iff] at hb
      obtain ⟨ck, hc, hy⟩ := hb
      obtain ⟨x, hx, rfl⟩ := hdec _ _ _ hy
      obtain ⟨_, hcl, hca⟩ := World.cells?_some hc
      refine ⟨ls ++ [x], by simp [h1], fun z hz => ?_, ?_, fun j hj => ?_⟩
      · rcases List.mem_append.1 hz with h | h
        · exact h2 z h
        · simp only [List.mem_singleton] at h
          rw [h]; exact hx
      · rw [encL_app, encL_one, List.length_append, h3, hcl, Nat.add_mul]; omega
      · rw [encL_app, encL_one]
        rcases Nat.lt_or_ge j (k * sz) with h | h
        · rw [List.getElem?_append_left (by omega)]
          exact h4 j h
        · rw [List.getElem?_append_right (by omega), h3, ← hca (j - k * sz) (by rw [Nat.add_mul] at hj; omega), add_add]
          congr 2
          omega
  obtain ⟨ls, h1, h2, h3, h4⟩ := key len (Nat.le_refl _)
  refine ⟨_, ls, rfl, h2, ⟨some a, cap, by rw [h1], by omega, fun _ _ => trivial, by rw [h3, h1], fun hl => ?_⟩, by omega⟩
  have hpos : 0 < len * sz := Nat.mul_pos (by omega) h0
  have hc0 := h4 0 hpos
  have hsp : a.spot = none := by
    cases hs : a.spot with
    | none => rfl
    | some q =>
      have e0 : a.add 0 = a := by simp [Addr.add]
      rw [e0, List.getElem?_eq_getElem (by omega)] at hc0
      simp only [World.cell?, hs] at hc0
      split at hc0 <;> simp at hc0
  obtain ⟨b, o, spt⟩ := a
  simp only at hsp
  subst hsp
  have hadd : ∀ i, (⟨b, o, none⟩ : Addr).add i = ⟨b, o + i, none⟩ := fun i => addr_add b o i
  rw [hadd, List.getElem?_eq_getElem (by omega)] at hc0
  cases hb : w.heap[b]? with
  | none => simp [World.cell?, hb] at hc0
  | some ob =>
    cases ob with
    | cells cs t fz =>
      refine ⟨b, o, cs.toList, t, fz, rfl, by simpa using hb, ?_⟩
      have hcell : ∀ i, i < len * sz → cs[o + i]? = (encL encE ls)[i]? := fun i hi => by
        have := h4 i hi
        rw [hadd] at this
        simpa [World.cell?, hb] using this
      have hle : o + len * sz ≤ cs.toList.length := by
        have := hcell (len * sz - 1) (by omega)
        rw [List.getElem?_eq_getElem (by omega)] at this
        have := (Array.getElem?_eq_some_iff.1 this).1
        simp only [Array.length_toList]
        omega
      rw [h1, sg_eq, if_pos hle]
      congr 1
      apply List.ext_getElem?
      intro i
      rcases Nat.lt_or_ge i (len * sz) with hi | hi
      · rw [List.getElem?_take_of_lt hi, List.getElem?_drop, Array.getElem?_toList, hcell i hi]
      · rw [List.getElem?_eq_none (by simp; omega), List.getElem?_eq_none (by omega)]
    | _ => simp [World.cell?, hb] at hc0
end
end Go.Proofs.YtchmcdkmlmknnaaGreat
/-! LibR -/
namespace Go.Proofs.YtchmcdkmlmknnaaGreat
set_option linter.unusedVariables false
set_option linter.unusedSimpArgs false
open Go.RowKit
/-- Of what lies below n0 only the blocks B are turned; what lies above keeps its kind and length. -/
structure Sh (n0 : Nat) (B : List Nat) (w w' : World) : Prop where
  os : w'.os = w.os
  tape : w'.tape = w.tape
  output : w'.output = w.output
  size : w.heap.size ≤ w'.heap.size
  dr : w.drawn ≤ w'.drawn
  old : ∀ k, k < n0 → k < w.heap.size → k ∉ B → w'.heap[k]? = w.heap[k]?
  new : ∀ k cs t, n0 ≤ k → w.heap[k]? = some (.cells cs t (0, 0)) → ∃ cs', w'.heap[k]? = some (.cells cs' t (0, 0)) ∧ cs'.size = cs.size
theorem Sh.of_ext {n0 : Nat} {B : List Nat} {w w' : World} (h : Ext [] w w') : Sh n0 B w w' :=
  ⟨h.os, h.tape, h.output, h.size, h.dr, fun k _ hk _ => h.block k hk (by simp), fun k cs t _ hb => ⟨cs, by rw [h.block k (Array.getElem?_eq_some_iff.1 hb).1 (by simp)]; exact hb, rfl⟩⟩
theorem Sh.trans {n0 : Nat} {B : List Nat} {a b c : World} (h : Sh n0 B a b) (k : Sh n0 B b c) : Sh n0 B a c :=
  ⟨k.os.trans h.os, k.tape.trans h.tape, k.output.trans h.output, Nat.le_trans h.size k.size, Nat.le_trans h.dr k.dr, fun i hi hs hb => (k.old i hi (Nat.lt_of_lt_of_le hs h.size) hb).trans (h.old i hi hs hb), fun i cs t hn hb => by
    obtain ⟨cs1, h1, h2⟩ := h.new i cs t hn hb
    obtain ⟨cs2, h3, h4⟩ := k.new i cs1 t hn h1
    exact ⟨cs2, h3, h4.trans h2⟩⟩
def keepSh (n0 : Nat) (B : List Nat) : Keep := ⟨Ext [], Sh n0 B, fun w => Ext.refl [] w, Sh.of_ext, Sh.trans, fun h => h.size⟩
theorem Sh.ext {B : List Nat} {w w' : World} (h : Sh w.heap.size B w w') : Ext B w w' := ⟨h.os, h.tape, h.output, h.size, h.dr, fun k hk hb => h.old k hk hk hb⟩
/-- a pointer to a new block of this kind and length -/
def AlS (n0 : Nat) (t : TypeId) (len : Nat) : Pred := fun v w => ∃ b cs, v = ptrTo b ∧ n0 ≤ b ∧ w.heap[b]? = some (.cells cs t (0, 0)) ∧ cs.size = len
theorem AlS.stays (n0 : Nat) (B : List Nat) (t : TypeId) (len : Nat) : Stays (keepSh n0 B) (AlS n0 t len) := fun v w w' ⟨b, cs, h1, h2, h3, h4⟩ h => by
  obtain ⟨cs', h5, h6⟩ := Sh.new h b cs t h2 h3
  exact ⟨b, cs', h1, h2, h5, h6.trans h4⟩
section
variable {c : RC} {fr : List (Nat × Value)} {Vs : List Pred} {T T' : SPred} {rest : List Oper} {d : Nat} {op : Op} {ty : TypeId} {pos : String} {af : Array Edge} {ix : Nat}
end
section
variable {P : Program} {ρ : Operand → Value} {w : World} {R : Value → World → Prop} {d : Option Tmp} {ty : TypeId} {pos : String} {af : Array Edge} {g : Option (Nat × Bool)}
/-- a load out of a block that is known to lie there -/
theorem o_loadHA {t : TypeId} {x : Operand} {b off n : Nat} {cs : List Value} {t' : TypeId} {fz : Nat × Nat} {vs : List Value} [ht : TAgg P t n] (hx : ρ x = .pointer (some ⟨b, off, none⟩)) (hb : w.heap[b]? = some (.cells cs.toArray t' fz)) (hv : seg cs off n = some vs) (h : R (.agg vs.toArray) w) : OpTo P ⟨d, .load t x, ty, pos, af, g⟩ ρ w R :=
  o_load hx (run_loadVar_agg ht.h hb (by simpa using hv)) h
theorem o_loadH1 {t : TypeId} {x : Operand} {b off : Nat} {cs : List Value} {t' : TypeId} {fz : Nat × Nat} {v : Value} [ht : TOne P t] (hx : ρ x = .pointer (some ⟨b, off, none⟩)) (hb : w.heap[b]? = some (.cells cs.toArray t' fz)) (hv : nth cs off = some v) (h : R v w) : OpTo P ⟨d, .load t x, ty, pos, af, g⟩ ρ w R :=
  o_load hx (run_loadVar_one ht.h (cell_at hb (by rw [nth_spec] at hv; simpa using hv))) h
end
end Go.Proofs.YtchmcdkmlmknnaaGreat
/-! LibS -/
namespace Go.Proofs.YtchmcdkmlmknnaaGreat
set_option linter.unusedVariables false
set_option linter.unusedSimpArgs false
open Go.RowKit
/-- new blocks -/
structure NewM (n0 : Nat) (w : World) (l : List (Nat × Obj)) : Prop where
  at_ : ∀ p ∈ l, w.heap[p.1]? = some p.2
  nd : (l.map (·.1)).Nodup
  ge : ∀ p ∈ l, n0 ≤ p.1
theorem NewM.lt {n0 : Nat} {w : World} {l : List (Nat × Obj)} (h : NewM n0 w l) {p : Nat × Obj} (hp : p ∈ l) : p.1 < w.heap.size := (Array.getElem?_eq_some_iff.1 (h.at_ p hp)).1
theorem NewM.later {n0 : Nat} {w w' : World} {l : List (Nat × Obj)} (h : NewM n0 w l) (E : Ext [] w w') : NewM n0 w' l :=
  ⟨fun p hp => by rw [E.block _ (h.lt hp) (by simp)]; exact h.at_ p hp, h.nd, h.ge⟩
theorem Mem.new {n0 : Nat} {w w' : World} {l : List (Nat × Obj)} (M : Mem [] w w' l) (h : n0 ≤ w.heap.size) : NewM n0 w' l :=
  ⟨M.at_, M.nd, fun p hp => Nat.le_trans h ((M.own p hp).resolve_left (by simp))⟩
theorem NewM.app {n0 : Nat} {w w' : World} {l new : List (Nat × Obj)} (h : NewM n0 w l) (M : Mem [] w w' new) (hn : n0 ≤ w.heap.size) : NewM n0 w' (new ++ l) := by
  have h' := h.later M.ext
  have h2 := M.new hn
  refine ⟨fun p hp => (List.mem_append.1 hp).elim (h2.at_ p) (h'.at_ p), ?_, fun p hp => (List.mem_append.1 hp).elim (h2.ge p) (h'.ge p)⟩
  rw [List.map_append, List.nodup_append]
  refine ⟨h2.nd, h'.nd, ?_⟩
  rintro a ha b hb rfl
  obtain ⟨p, hp, rfl⟩ := List.mem_map.1 ha
  obtain ⟨q, hq, e⟩ := List.mem_map.1 hb
  have h3 := h.lt hq
  have h4 := (M.own p hp).resolve_left (by simp)
  omega
theorem Mem.joinNew {S : List Nat} {W0 w1 w : World} {l new : List (Nat × Obj)} (M : Mem S W0 w l) (M1 : Mem S W0 w1 l) (N : NewM w1.heap.size w new) : Mem S W0 w (new ++ l) := by
  refine ⟨M.ext, fun p hp => (List.mem_append.1 hp).elim (N.at_ p) (M.at_ p), ?_, fun p hp => (List.mem_append.1 hp).elim (fun h => .inr (Nat.le_trans M1.ext.size (N.ge p h))) (M.own p)⟩
  rw [List.map_append, List.nodup_append]
  refine ⟨N.nd, M.nd, ?_⟩
  rintro a ha b hb rfl
  obtain ⟨p, hp, rfl⟩ := List.mem_map.1 ha
  obtain ⟨q, hq, e⟩ := List.mem_map.1 hb
  have h3 := M1.lt hq
  have h4 := N.ge p hp
  omega
/-- an answer and the new blocks that belong to it -/
def NewP (n0 : Nat) (Φ : Value → List (Nat × Obj) → Prop) : Pred := fun v w => ∃ ent, Φ v ent ∧ NewM n0 w ent
theorem NewP.stays (n0 : Nat) (Φ : Value → List (Nat × Obj) → Prop) : Stays keepAll (NewP n0 Φ) := fun _ _ _ ⟨ent, h, N⟩ E => ⟨ent, h, N.later E⟩
theorem newP_of {w1 w w' : World} {x : Value} {Φ : Value → List (Nat × Obj) → Prop} (E : Ext [] w1 w) (h : ∃ ent, Φ x ent ∧ Mem [] w w' ent) : Ext [] w w' ∧ NewP w1.heap.size Φ x w' :=
  h.elim fun ent hh => ⟨hh.2.ext, ent, hh.1, hh.2.new E.size⟩
/-! elements of a list in place -/
theorem put_in {A B C C' Y : List Value} {off q : Nat} (hq : q = A.length + off) (h : put C off Y = some C') : put (A ++ (C ++ B)) q Y = some (A ++ (C' ++ B)) := by
  subst hq
  obtain ⟨h1, rfl⟩ := put_splice _ _ _ _ h
  rw [put_of _ _ _ (by simp; omega)]
  congr 1
  unfold splice
  rw [List.take_append, List.drop_append, List.take_of_length_le (by omega), List.drop_of_length_le (by omega), List.nil_append, show A.length + off - A.length = off by omega, show A.length + off + Y.length - A.length = off + Y.length by omega, List.take_append_of_le_length (by omega), List.drop_append_of_le_length (by omega)]
  simp only [List.append_assoc]
/-- a slice over a block from n0 on, or none -/
def NewV (n0 : Nat) (v : Value) : Prop := ∀ b o s n c, v = .slice (some ⟨b, o, s⟩) n c → n0 ≤ b
theorem NewV.nil (n0 n c : Nat) : NewV n0 (.slice none n c) := fun _ _ _ _ _ h => by cases h
/-- what stays where only the blocks B are turned -/
theorem SlAt.laterB {W w : World} {sz : Nat} {v : Value} {n : Nat} {xs : List Value} {B : List Nat} (h : SlAt W sz v n xs) (hn : ∀ b o s k c, v = .slice (some ⟨b, o, s⟩) k c → b ∉ B) (E : Ext B W w) : SlAt w sz v n xs := by
  obtain ⟨p, cap, rfl, h1, h2, h3, h4⟩ := h
  refine ⟨p, cap, rfl, h1, h2, h3, fun h0 => ?_⟩
  obtain ⟨b, o, cs, t, fz, rfl, hb, hs⟩ := h4 h0
  exact ⟨b, o, cs, t, fz, rfl, by rw [E.block b (Array.getElem?_eq_some_iff.1 hb).1 (hn b o none n cap rfl)]; exact hb, hs⟩
end Go.Proofs.YtchmcdkmlmknnaaGreat
/-! LibV -/
namespace Go.Proofs.YtchmcdkmlmknnaaGreat
set_option linter.unusedVariables false
set_option linter.unusedSimpArgs false
open Go.RowKit
/-- a block that such an append may turn -/
def Chg (w : World) (k : Nat) : Prop := ∃ cs t, w.heap[k]? = some (.cells cs t (0, 0)) ∧ 20 < cs.size
structure BigE (n0 : Nat) (w w' : World) : Prop where
  os : w'.os = w.os
  tape : w'.tape = w.tape
  output : w'.output = w.output
  size : w.heap.size ≤ w'.heap.size
  dr : w.drawn ≤ w'.drawn
  block : ∀ k, k < w.heap.size → (k < n0 ∨ ¬ Chg w k) → w'.heap[k]? = w.heap[k]?
theorem BigE.of_ext {n0 : Nat} {w w' : World} (h : Ext [] w w') : BigE n0 w w' := ⟨h.os, h.tape, h.output, h.size, h.dr, fun k hk _ => h.block k hk (by simp)⟩
theorem BigE.trans {n0 : Nat} {a b c : World} (h : BigE n0 a b) (k : BigE n0 b c) : BigE n0 a c :=
  ⟨k.os.trans h.os, k.tape.trans h.tape, k.output.trans h.output, Nat.le_trans h.size k.size, Nat.le_trans h.dr k.dr, fun i hi hc => by
    have h1 := h.block i hi hc
    rw [k.block i (Nat.lt_of_lt_of_le hi h.size) (hc.imp_right fun hn hx => hn (by
      obtain ⟨cs, t, e, hs⟩ := hx
      exact ⟨cs, t, by rw [← h1]; exact e, hs⟩)), h1]⟩
theorem BigE.ext {w w' : World} (h : BigE w.heap.size w w') : Ext [] w w' := ⟨h.os, h.tape, h.output, h.size, h.dr, fun k hk _ => h.block k hk (.inl hk)⟩
section
variable {P : Program} {ρ : Operand → Value} {w W0 : World} {S : List Nat} {l l' : List (Nat × Obj)} {R : Value → World → Prop} {d : Option Tmp} {ty : TypeId} {pos : String} {af : Array Edge} {g : Option (Nat × Bool)}
/-- append where there is no room: nothing is turned -/
theorem run_appendG {st xt e tyy : TypeId} {sz by_ n m cap : Nat} {base : Option Addr} {xv : Value} {xs ys : List Value} (hst : P.underlying st = some (.slice e)) (hel : elB P e sz by_ = true) (hxt : notInt P xt = true)
    (hV : SrcOf P w (.slice base n cap) n sz xs) (hX : SrcOf P w xv m sz ys) (hgt : cap < n + m) (hnc' : n ≤ cap) (hbd : (n + m) * by_ ≤ 140737488355328) (hln : n + m ≤ 9223372036854775807) :
    ∃ v' w' ent', (Builtin.append_ #[st, xt] tyy #[.slice base n cap, xv]).run P w = .ok v' w' ∧ OwnS e sz v' (n + m) (xs ++ ys) ent' ∧ Mem [] w w' ent' := by
  obtain ⟨i, z, hi, rfl, rfl, hz, hzs⟩ := elB_spec hel
  have hdx := notInt_spec hxt
  have h48 : ¬ (281474976710656 < Builtin.nextslicecap (n + m) cap * i.bytes) := by
    have := growslice_fits (need := n + m) (old := cap) (bytes := i.bytes) (by omega) hbd
    omega
  have hnc : n + m ≤ grownCap w (n + m) cap e := grownCap_ge w _ _ _
  have hrun := run_append_grow' (tyy := tyy) (w := w) hst hi hz hdx hX.len (by omega) hln h48 (hV.cells (w.drawn + 1)) (hX.cells (w.drawn + 1))
  have e1 : (xs.toArray ++ ys.toArray ++ Builtin.zeroCells z.cells (grownCap w (n + m) cap e - (n + m))) = (xs ++ ys ++ (Builtin.zeroCells z.cells (grownCap w (n + m) cap e - (n + m))).toList).toArray := by
    apply Array.ext'; rw [Array.toList_append, Array.toList_append]
  rw [e1] at hrun
  exact ⟨_, _, [(w.heap.size, .cells (xs ++ ys ++ (Builtin.zeroCells z.cells (grownCap w (n + m) cap e - (n + m))).toList).toArray e (0, 0))], hrun, .inr ⟨w.heap.size, grownCap w (n + m) cap e, (Builtin.zeroCells z.cells (grownCap w (n + m) cap e - (n + m))).toList, rfl, rfl, by rw [List.length_append, hV.size, hX.size, Nat.add_mul], by rw [Array.length_toList, size_zeroCells, hzs], hnc⟩, ((Mem.start [] w).later (Ext.drawn w (w.drawn + 1) (Nat.le_succ _))).alloc _⟩
end
end Go.Proofs.YtchmcdkmlmknnaaGreat
/-! LibX -/
namespace Go.Proofs.YtchmcdkmlmknnaaGreat
set_option linter.unusedVariables false
set_option linter.unusedSimpArgs false
open Go.RowKit
section
variable {P : Program} {ρ : Operand → Value} {w W0 : World} {S : List Nat} {l l' : List (Nat × Obj)} {R : Value → World → Prop} {d : Option Tmp} {ty : TypeId} {pos : String} {af : Array Edge} {g : Option (Nat × Bool)}
/-- a slice compared with nil -/
theorem o_eqlNil {t t' e : TypeId} {x y : Operand} {p : Option Addr} {n c : Nat} (hx : ρ x = .slice p n c) (hy : ρ y = .slice none 0 0) [ht : TU P t (.slice e)] (h : R (.bool p.isNone) w) : OpTo P ⟨d, .binOp .eql t x y t', ty, pos, af, g⟩ ρ w R := by
  have hr0 : ∀ k : Nat, (Op.equalIn (k + 1) t (.slice p n c) (.slice none 0 0)).run P w = .ok p.isNone w := fun k => by
    cases p <;> simp [Op.equalIn, run_underlying ht.h]
  have hr := hr0 9999
  exact OpTo.val (v := .bool p.isNone) (w' := w) (by simp [execOp, eqGuard, binOp, Op.equal, Op.maxDepth, hx, hy, hr]) h
end
end Go.Proofs.YtchmcdkmlmknnaaGreat
/-! LibY -/
namespace Go.Proofs.YtchmcdkmlmknnaaGreat
set_option linter.unusedVariables false
set_option linter.unusedSimpArgs false
open Go.RowKit
section
variable {P : Program} {ρ : Operand → Value} {w W0 : World} {S : List Nat} {l l' : List (Nat × Obj)} {R : Value → World → Prop} {d : Option Tmp} {ty : TypeId} {pos : String} {af : Array Edge} {g : Option (Nat × Bool)}
theorem o_eqlAE {t t' : TypeId} {x y : Operand} {ks : List LK} {xs ys : List Value} {b : Bool} [ht : TEq P t ks] (hx : ρ x = .agg xs.toArray) (hy : ρ y = .agg ys.toArray) (fx : fitsK ks xs = true) (fy : fitsK ks ys = true) (he : eqVs xs ys = b) (h : R (.bool b) w) : OpTo P ⟨d, .binOp .eql t x y t', ty, pos, af, g⟩ ρ w R := o_eqlA hx hy fx fy (by rw [he]; exact h)
theorem o_neqAE {t t' : TypeId} {x y : Operand} {ks : List LK} {xs ys : List Value} {b : Bool} [ht : TEq P t ks] (hx : ρ x = .agg xs.toArray) (hy : ρ y = .agg ys.toArray) (fx : fitsK ks xs = true) (fy : fitsK ks ys = true) (he : eqVs xs ys = b) (h : R (.bool !b) w) : OpTo P ⟨d, .binOp .neq t x y t', ty, pos, af, g⟩ ρ w R := o_neqA hx hy fx fy (by rw [he]; exact h)
end
/-! one element merged into an ascending list: c tells how each stands to it -/
section
variable {α : Type} (c : α → Int) (x : α)
end
end Go.Proofs.YtchmcdkmlmknnaaGreat
/-! Lib2 -/
namespace Go.Proofs.YtchmcdkmlmknnaaGreat
set_option linter.unusedVariables false
set_option linter.unusedSimpArgs false
open Go.RowKit
def isSlB (P : Program) (t : TypeId) : Bool := match P.underlying t with | some (.slice _) => true | _ => false
/-- what stays the same in a walk -/
structure Cx where
  P : Program
  r : Option Nat
  n : Nat
  df : List Deferred
  S : List Nat
  W : World
  flds : List (Nat × Nat × Nat)
  slcs : List Nat
  hf : (flds.all fun q => fieldAtB P q.1 q.2.1 q.2.2) = true
  hs : (slcs.all fun t => isSlB P t) = true
inductive KF
  | seq (y : Code)
  | blk (id : Nat)
inductive St
  | code (x : Code)
  | ops (all : Array Oper) (rest : List Oper)
  | ext (e : Exit)
def KQ (c : Cx) (Q : Exit → Act → World → Prop) : List KF → Exit → Act → World → Prop
  | [] => Q
  | .seq y :: ks => Exit.then (Wp c.r c.P y (KQ c Q ks)) (KQ c Q ks)
  | .blk id :: ks => Exit.inBlock id (KQ c Q ks)
def GS (c : Cx) (Q : Exit → Act → World → Prop) (ks : List KF) : St → Act → World → Prop
  | .code x => Wp c.r c.P x (KQ c Q ks)
  | .ops all rest => wpListIn (FW c.r) 0 c.P all (KQ c Q ks) rest
  | .ext e => KQ c Q ks e
/-- the memory's row: blocks, each alone, and lists of blocks that a slice owns -/
abbrev Row := List (List (Nat × Obj))
def G (c : Cx) (Q : Exit → Act → World → Prop) (ks : List KF) (st : St) (fr : List (Nat × Value)) (l : Row) : Prop :=
  ∀ a w, Frm a c.n c.df fr → Mem c.S c.W w l.flatten → GS c Q ks st a w
/-! what is run at once -/
def fldOf : List (Nat × Nat × Nat) → Nat → Nat → Option Nat
  | [], _, _ => none
  | (s, i, o) :: r, t, j => match Nat.beq s t && Nat.beq i j with
    | true => some o
    | false => fldOf r t j
theorem fldOf_ok {P : Program} : ∀ {l : List (Nat × Nat × Nat)} {t j o : Nat}, (l.all fun q => fieldAtB P q.1 q.2.1 q.2.2) = true → fldOf l t j = some o → fieldAtB P t j o = true
  | [], _, _, _, _, h => by simp [fldOf] at h
  | (s, i, q) :: r, t, j, o, ha, h => by
    simp only [List.all_cons, Bool.and_eq_true] at ha
    unfold fldOf at h
    split at h
    · rename_i hb
      simp only [Bool.and_eq_true] at hb
      obtain rfl := Nat.eq_of_beq_eq_true hb.1
      obtain rfl := Nat.eq_of_beq_eq_true hb.2
      cases h
      exact ha.1
    · exact fldOf_ok ha.2 h
def memN : List Nat → Nat → Bool
  | [], _ => false
  | s :: r, t => match Nat.beq s t with
    | true => true
    | false => memN r t
theorem memN_ok : ∀ {l : List Nat} {t : Nat}, memN l t = true → t ∈ l
  | [], _, h => by simp [memN] at h
  | s :: r, t, h => by
    unfold memN at h
    split at h
    · rename_i hb
      simp [Nat.eq_of_beq_eq_true hb]
    · exact List.mem_cons_of_mem _ (memN_ok h)
def kEq : IntKind → IntKind → Bool
  | .i8, .i8 | .i16, .i16 | .i32, .i32 | .i64, .i64 | .u8, .u8 | .u16, .u16 | .u32, .u32 | .u64, .u64 => true
  | _, _ => false
theorem kEq_ok {a b : IntKind} (h : kEq a b = true) : a = b := by
  cases a <;> cases b <;> first | rfl | cases h
def cmpOp : BinOp → Int → Int → Option Bool
  | .lss, m, n => some (decide (m < n))
  | .leq, m, n => some (decide (m ≤ n))
  | .gtr, m, n => some (decide (n < m))
  | .geq, m, n => some (decide (n ≤ m))
  | .eql, m, n => some (m == n)
  | .neq, m, n => some (m != n)
  | _, _, _ => none
def evCmp (b : BinOp) : Value → Value → Option Value
  | .int k m, .int k' n => match kEq k k' with
    | true => match cmpOp b m n with
      | some v => some (.bool v)
      | none => none
    | false => none
  | _, _ => none
def evO (c : Cx) (fr : List (Nat × Value)) : Op → Option Value
  | .move x => Ev fr x
  | .assign x => Ev fr x
  | .extract x i => match Ev fr x with
    | some (.tuple vs) => nth vs.toList i
    | _ => none
  | .fieldAddr s x i => match Ev fr x with
    | some (.pointer (some ⟨b, o, none⟩)) => match fldOf c.flds s i with
      | some off => some (.pointer (some ⟨b, o + off, none⟩))
      | none => none
    | _ => none
  | .unOp .not _ x => match Ev fr x with
    | some (.bool b) => some (.bool (!b))
    | _ => none
  | .binOp b _ x y _ => match Ev fr x with
    | some v => match Ev fr y with
      | some u => evCmp b v u
      | none => none
    | none => none
  | .pick q x y => match Ev fr q with
    | some (.bool true) => match Ev fr y with
      | some _ => Ev fr x
      | none => none
    | some (.bool false) => match Ev fr x with
      | some _ => Ev fr y
      | none => none
    | _ => none
  | .call q => match q.callee with
    | .builtin .len => match q.args.toList with
      | [x] => match q.argTypes.toList with
        | [t] => match Ev fr x with
          | some (.slice _ n _) => match memN c.slcs t with
            | true => some (.int .i64 n)
            | false => none
          | _ => none
        | _ => none
      | _ => none
    | _ => none
  | _ => none
def gOk (all : Array Oper) (fr : List (Nat × Value)) : Option (Nat × Bool) → Option Bool
  | none => some true
  | some (j, b) => match (all[j]?).bind (·.dst) with
    | some t => match look fr t with
      | some (.bool true) => some b
      | some (.bool false) => some (!b)
      | some (.tuple _) => some false
      | _ => none
    | none => none
def run1 (c : Cx) : List KF → St → List (Nat × Value) → Option (List KF × St × List (Nat × Value))
  | ks, .ops all [], fr => some (ks, .ext .normal, fr)
  | ks, .ops all (o :: rest), fr => match o.dst with
    | some d => match Nat.blt d c.n with
      | true => match gOk all fr o.guard with
        | some true => match evO c fr o.op with
          | some v => some (ks, .ops all rest, (d, v) :: fr)
          | none => none
        | some false => some (ks, .ops all rest, (d, undef) :: fr)
        | none => none
      | false => none
    | none => none
  | ks, .code x, fr => match x with
    | .skip => some (ks, .ext .normal, fr)
    | .region _ ops false => some (ks, .ops ops ops.toList, fr)
    | .seq x y => some (.seq y :: ks, .code x, fr)
    | .block id x => some (.blk id :: ks, .code x, fr)
    | .exit id => some (ks, .ext (.exit id), fr)
    | .ret => some (ks, .ext .ret, fr)
    | .cond o x y => match Ev fr o with
      | some (.bool true) => some (ks, .code x, fr)
      | some (.bool false) => some (ks, .code y, fr)
      | _ => none
    | _ => none
  | .seq y :: ks, .ext e, fr => match e with
    | .normal => some (ks, .code y, fr)
    | .exit id => some (ks, .ext (.exit id), fr)
    | .ret => some (ks, .ext .ret, fr)
    | _ => none
  | .blk id :: ks, .ext e, fr => match e with
    | .normal => some (ks, .ext .normal, fr)
    | .exit id' => match Nat.beq id' id with
      | true => some (ks, .ext .normal, fr)
      | false => some (ks, .ext (.exit id'), fr)
    | .ret => some (ks, .ext .ret, fr)
    | _ => none
  | [], .ext _, _ => none
def runN (c : Cx) : Nat → List KF → St → List (Nat × Value) → List KF × St × List (Nat × Value)
  | 0, ks, st, fr => (ks, st, fr)
  | k + 1, ks, st, fr => match run1 c ks st fr with
    | some (ks', st', fr') => runN c k ks' st' fr'
    | none => (ks, st, fr)
theorem evCmp_ok {P : Program} {b : BinOp} {t t' : TypeId} {x y : Operand} {ρ : Operand → Value} {w : World} {R : Value → World → Prop} {d : Option Tmp} {ty : TypeId} {pos : String} {af : Array Edge} {g : Option (Nat × Bool)} {v : Value}
    (h : evCmp b (ρ x) (ρ y) = some v) (hR : R v w) : OpTo P ⟨d, .binOp b t x y t', ty, pos, af, g⟩ ρ w R := by
  unfold evCmp at h
  split at h
  · rename_i k m k' n hx hy
    split at h
    · rename_i hk
      obtain rfl := kEq_ok hk
      split at h
      · rename_i q hq
        cases h
        cases b <;> simp only [cmpOp, Option.some.injEq] at hq <;> first | cases hq | subst hq
        all_goals first | exact o_lss hx hy hR | exact o_leq hx hy hR | exact o_gtr hx hy hR | exact o_geq hx hy hR | exact o_eql hx hy hR | exact o_neq hx hy hR
      · cases h
    · cases h
  · cases h
theorem evO_ok {c : Cx} {fr : List (Nat × Value)} {op : Op} {v : Value} {a : Act} {n : Nat} {df : List Deferred} {w : World} {R : Value → World → Prop} {d : Option Tmp} {ty : TypeId} {pos : String} {af : Array Edge} {g : Option (Nat × Bool)}
    (F : Frm a n df fr) (h : evO c fr op = some v) (hR : R v w) : OpTo c.P ⟨d, op, ty, pos, af, g⟩ a.eval w R := by
  unfold evO at h
  split at h
  · exact o_move (F.ev h) hR
  · exact o_assign (F.ev h) hR
  · split at h
    · rename_i vs hx
      exact o_extract (vs := vs.toList) (by simpa using F.ev hx) h hR
    · cases h
  · split at h
    · rename_i b o hx
      split at h
      · rename_i off hf
        cases h
        haveI : TFld c.P _ _ off := ⟨fldOf_ok c.hf hf⟩
        exact o_fieldAddr (F.ev hx) hR
      · cases h
    · cases h
  · split at h
    · rename_i b hx
      cases h
      exact o_not (F.ev hx) hR
    · cases h
  · split at h
    · rename_i v1 hx
      split at h
      · rename_i v2 hy
        rw [← F.ev hx, ← F.ev hy] at h
        exact evCmp_ok h hR
      · cases h
    · cases h
  · split at h
    · rename_i hq
      split at h
      · rename_i u hy
        exact o_pick (F.ev hq) (F.ev h) (F.ev hy) (by simpa using hR)
      · cases h
    · rename_i hq
      split at h
      · rename_i u hx
        exact o_pick (F.ev hq) (F.ev hx) (F.ev h) (by simpa using hR)
      · cases h
    · cases h
  · rename_i q
    obtain ⟨callee, args, tys⟩ := q
    split at h
    · rename_i hc
      split at h
      · rename_i x hx1
        split at h
        · rename_i t ht1
          split at h
          · rename_i p k q hx
            split at h
            · rename_i hm
              cases h
              dsimp only at hc hx1 ht1
              subst hc
              obtain rfl : args = #[x] := by cases args; simp_all
              obtain rfl : tys = #[t] := by cases tys; simp_all
              have h1 := List.all_eq_true.1 c.hs _ (memN_ok hm)
              unfold isSlB at h1
              split at h1
              · rename_i e he
                haveI : TU c.P _ (.slice e) := ⟨he⟩
                exact o_lenSl (F.ev hx) hR
              · cases h1
            · cases h
          · cases h
        · cases h
      · cases h
    · cases h
  · cases h
theorem evO_plain {c : Cx} {fr : List (Nat × Value)} {op : Op} {v : Value} (h : evO c fr op = some v) : plainOp op = true := by
  cases op <;> first | rfl | (simp [evO] at h)
section
variable {c : Cx} {Q : Exit → Act → World → Prop} {ks ks' : List KF} {st st' : St} {fr fr' : List (Nat × Value)} {l : Row}
theorem gOk_true {all : Array Oper} {g : Option (Nat × Bool)} (h : gOk all fr g = some true) : g = none ∨ ∃ j b t, g = some (j, b) ∧ (all[j]?).bind (·.dst) = some t ∧ look fr t = some (.bool b) := by
  unfold gOk at h
  split at h
  · exact .inl rfl
  · rename_i j b
    split at h
    · rename_i t ht
      split at h
      · rename_i hl
        cases h
        exact .inr ⟨j, true, t, rfl, ht, hl⟩
      · rename_i hl
        have : b = false := by cases b <;> simp_all
        subst this
        exact .inr ⟨j, false, t, rfl, ht, hl⟩
      · cases h
      · cases h
    · cases h
theorem gOk_false {all : Array Oper} {g : Option (Nat × Bool)} (h : gOk all fr g = some false) : ∃ j b t v, g = some (j, b) ∧ (all[j]?).bind (·.dst) = some t ∧ look fr t = some v ∧ offGuard b v = true := by
  unfold gOk at h
  split at h
  · cases h
  · rename_i j b
    split at h
    · rename_i t ht
      split at h
      · rename_i hl
        cases h
        exact ⟨j, false, t, _, rfl, ht, hl, rfl⟩
      · rename_i hl
        have : b = true := by cases b <;> simp_all
        subst this
        exact ⟨j, true, t, _, rfl, ht, hl, rfl⟩
      · rename_i vs hl
        exact ⟨j, b, t, _, rfl, ht, hl, rfl⟩
      · cases h
    · cases h
/-- one operation that writes a slot -/
theorem g_op {all : Array Oper} {d : Nat} {op : Op} {ty : TypeId} {pos : String} {af : Array Edge} {g : Option (Nat × Bool)} {rest : List Oper} (hp : plainOp op = true) (hd : Nat.blt d c.n = true) (hg : gOk all fr g = some true)
    (h : ∀ a w, Frm a c.n c.df fr → Mem c.S c.W w l.flatten → OpTo c.P ⟨some d, op, ty, pos, af, g⟩ a.eval w fun v w' => ∀ a', Frm a' c.n c.df ((d, v) :: fr) → GS c Q ks (.ops all rest) a' w') :
    G c Q ks (.ops all (⟨some d, op, ty, pos, af, g⟩ :: rest)) fr l := fun a w F M => by
  rcases gOk_true hg with rfl | ⟨j, b, t, rfl, ht, hl⟩
  · exact stepD hp F hd (h a w F M)
  · exact stepG hp F hd ht hl (h a w F M)
theorem run1_ok (h : run1 c ks st fr = some (ks', st', fr')) (hk : G c Q ks' st' fr' l) : G c Q ks st fr l := by
  unfold run1 at h
  split at h
  · rename_i all
    cases h
    exact fun a w F M => (l_nil (hk a w F M) : wpListIn (FW c.r) 0 c.P all (KQ c Q ks) [] a w)
  · rename_i all o rest
    obtain ⟨dst, op, ty, pos, af, g⟩ := o
    cases dst with
    | none => cases h
    | some d =>
      simp only at h
      split at h
      · rename_i hd
        split at h
        · rename_i hg
          split at h
          · rename_i v hv
            cases h
            exact g_op (evO_plain hv) hd hg fun a w F M => evO_ok F hv fun a' F' => hk a' w F' M
          · cases h
        · rename_i hg
          cases h
          obtain ⟨j, b, t, v, rfl, ht, hl, ho⟩ := gOk_false hg
          exact fun a w F M => stepOff F hd ht hl ho fun a' F' => hk a' w F' M
        · cases h
      · cases h
  · split at h
    · cases h
      exact fun a w F M => c_skip (hk a w F M)
    · rename_i id ops
      cases h
      intro a w F M
      have := c_region (id := id) (hk a w F M)
      simpa [GS] using this
    · cases h
      exact fun a w F M => c_seq (hk a w F M)
    · cases h
      exact fun a w F M => c_block (hk a w F M)
    · cases h
      exact fun a w F M => c_exit (hk a w F M)
    · cases h
      exact fun a w F M => c_ret (hk a w F M)
    · split at h
      · rename_i ho
        cases h
        exact fun a w F M => c_true F ho rfl (hk a w F M)
      · rename_i ho
        cases h
        exact fun a w F M => c_false F ho rfl (hk a w F M)
      · cases h
    · cases h
  · split at h
    · cases h
      exact fun a w F M => hk a w F M
    · cases h
      exact fun a w F M => hk a w F M
    · cases h
      exact fun a w F M => hk a w F M
    · cases h
  · split at h
    · cases h
      exact fun a w F M => hk a w F M
    · split at h
      · rename_i hb
        cases h
        obtain rfl := Nat.eq_of_beq_eq_true hb
        exact fun a w F M => q_inBX (hk a w F M)
      · rename_i hb
        cases h
        exact fun a w F M => q_inBY hb (hk a w F M)
    · cases h
      exact fun a w F M => hk a w F M
    · cases h
  · cases h
theorem runN_ok : ∀ (k : Nat) {ks ks' : List KF} {st st' : St} {fr fr' : List (Nat × Value)}, runN c k ks st fr = (ks', st', fr') → G c Q ks' st' fr' l → G c Q ks st fr l
  | 0, _, _, _, _, _, _, h, hk => by
    cases h
    exact hk
  | k + 1, ks, ks', st, st', fr, fr', h, hk => by
    unfold runN at h
    split at h
    · rename_i h1
      exact run1_ok h1 (runN_ok k h hk)
    · cases h
      exact hk
/-- runs k steps in which nothing is to be chosen -/
theorem g_run (k : Nat) (h : runN c k ks st fr = (ks', st', fr')) (hk : G c Q ks' st' fr' l) : G c Q ks st fr l := runN_ok k h hk
end
end Go.Proofs.YtchmcdkmlmknnaaGreat
/-! Lib3 -/
namespace Go.Proofs.YtchmcdkmlmknnaaGreat
set_option linter.unusedVariables false
set_option linter.unusedSimpArgs false
open Go.RowKit
/-! rows of blocks -/
def nthO {α : Type} : List α → Nat → Option α
  | [], _ => none
  | x :: _, 0 => some x
  | _ :: r, i + 1 => nthO r i
theorem nthO_sub : ∀ {l : Row} {i : Nat} {e : List (Nat × Obj)}, nthO l i = some e → ∀ x ∈ e, x ∈ l.flatten
  | [], _, _, h => by simp [nthO] at h
  | y :: _, 0, x, h => by
    simp only [nthO, Option.some.injEq] at h
    intro z hz
    simp [h, hz]
  | _ :: r, i + 1, x, h => fun z hz => List.mem_append_right _ (nthO_sub (l := r) h z hz)
theorem nthO_mem {l : Row} {i : Nat} {x : Nat × Obj} (h : nthO l i = some [x]) : x ∈ l.flatten := nthO_sub h x (by simp)
def setO : Row → Nat → List (Nat × Obj) → Option Row
  | [], _, _ => none
  | _ :: r, 0, o => some (o :: r)
  | p :: r, i + 1, o => match setO r i o with
    | some q => some (p :: q)
    | none => none
theorem setO_upd : ∀ {l l' : Row} {i b : Nat} {o o' : Obj}, nthO l i = some [(b, o)] → setO l i [(b, o')] = some l' → Upd l.flatten b o o' l'.flatten
  | [], _, _, _, _, _, h, _ => by simp [nthO] at h
  | p :: r, l', 0, b, o, o', h, k => by
    simp only [nthO, Option.some.injEq] at h
    simp only [setO, Option.some.injEq] at k
    subst h
    subst k
    exact .here
  | p :: r, l', i + 1, b, o, o', h, k => by
    simp only [nthO] at h
    simp only [setO] at k
    split at k
    · rename_i q hq
      cases k
      exact (setO_upd h hq).append _
    · cases k
/-- a list of blocks may be put ahead -/
theorem nthO_perm : ∀ {l l' : Row} {i : Nat} {e e' : List (Nat × Obj)}, nthO l i = some e → setO l i e' = some l' → ∃ r, l.flatten.Perm (e ++ r) ∧ l'.flatten.Perm (e' ++ r)
  | [], _, _, _, _, h, _ => by simp [nthO] at h
  | p :: r, l', 0, e, e', h, k => by
    simp only [nthO, Option.some.injEq] at h
    simp only [setO, Option.some.injEq] at k
    subst h
    subst k
    exact ⟨r.flatten, .refl _, .refl _⟩
  | p :: r, l', i + 1, e, e', h, k => by
    simp only [nthO] at h
    simp only [setO] at k
    split at k
    · rename_i q hq
      cases k
      obtain ⟨s, h1, h2⟩ := nthO_perm h hq
      refine ⟨p ++ s, ?_, ?_⟩
      · refine (List.Perm.append_left p h1).trans ?_
        rw [← List.append_assoc, ← List.append_assoc]
        exact List.Perm.append_right _ List.perm_append_comm
      · refine (List.Perm.append_left p h2).trans ?_
        rw [← List.append_assoc, ← List.append_assoc]
        exact List.Perm.append_right _ List.perm_append_comm
    · cases k
section
variable {c : Cx} {Q : Exit → Act → World → Prop} {ks : List KF} {fr : List (Nat × Value)} {l l' : Row} {all : Array Oper} {rest : List Oper} {d : Nat} {ty : TypeId} {pos : String} {af : Array Edge} {g : Option (Nat × Bool)}
/-- an operation whose value is told and that leaves the world as it is -/
theorem g_v {op : Op} {v : Value} (h : ∀ a w, Frm a c.n c.df fr → Mem c.S c.W w l.flatten → ∀ R : Value → World → Prop, R v w → OpTo c.P ⟨some d, op, ty, pos, af, g⟩ a.eval w R)
    (k : G c Q ks (.ops all rest) ((d, v) :: fr) l) (hp : plainOp op = true := by rfl) (hd : Nat.blt d c.n = true := by rfl) (hg : gOk all fr g = some true := by rfl) : G c Q ks (.ops all (⟨some d, op, ty, pos, af, g⟩ :: rest)) fr l :=
  g_op hp hd hg fun a w F M => h a w F M _ fun a' F' => k a' w F' M
section arith
variable {t t' : TypeId} {x y : Operand} {k : IntKind} {m n s : Int}
theorem g_add (hx : Ev fr x = some (.int k m)) (hy : Ev fr y = some (.int k n)) (hs : k.wrap (m + n) = s) (hk : G c Q ks (.ops all rest) ((d, .int k s) :: fr) l) (hd : Nat.blt d c.n = true := by rfl) (hg : gOk all fr g = some true := by rfl) :
    G c Q ks (.ops all (⟨some d, .binOp .add t x y t', ty, pos, af, g⟩ :: rest)) fr l := g_v (fun a w F M R r => o_add (F.ev hx) (F.ev hy) hs r) hk rfl hd hg
theorem g_conv {t1 t2 : TypeId} {ds : TypeDesc} {k' : IntKind} (hx : Ev fr x = some (.int k m)) [hs : TU c.P t1 ds] [ht : TU c.P t2 (.int k')] (hm : k'.wrap m = n) (hk : G c Q ks (.ops all rest) ((d, .int k' n) :: fr) l) (hd : Nat.blt d c.n = true := by rfl) (hg : gOk all fr g = some true := by rfl) :
    G c Q ks (.ops all (⟨some d, .convert t1 t2 x, ty, pos, af, g⟩ :: rest)) fr l := g_v (fun a w F M R r => o_conv (F.ev hx) hm r) hk rfl hd hg
end arith
theorem g_ld1 (i : Nat) {t : TypeId} {x : Operand} {b off : Nat} {cs : List Value} {t' : TypeId} {fz : Nat × Nat} {v : Value} [ht : TOne c.P t] (hx : Ev fr x = some (.pointer (some ⟨b, off, none⟩))) (hl : nthO l i = some [(b, .cells cs.toArray t' fz)]) (hv : nth cs off = some v)
    (hk : G c Q ks (.ops all rest) ((d, v) :: fr) l) (hd : Nat.blt d c.n = true := by rfl) (hg : gOk all fr g = some true := by rfl) : G c Q ks (.ops all (⟨some d, .load t x, ty, pos, af, g⟩ :: rest)) fr l :=
  g_v (fun a w F M R r => o_loadH1 (F.ev hx) (M.at_ _ (nthO_mem hl)) hv r) hk rfl hd hg
theorem g_ldA (i : Nat) {t : TypeId} {x : Operand} {b off n : Nat} {cs : List Value} {t' : TypeId} {fz : Nat × Nat} {vs : List Value} [ht : TAgg c.P t n] (hx : Ev fr x = some (.pointer (some ⟨b, off, none⟩))) (hl : nthO l i = some [(b, .cells cs.toArray t' fz)]) (hv : seg cs off n = some vs)
    (hk : G c Q ks (.ops all rest) ((d, .agg vs.toArray) :: fr) l) (hd : Nat.blt d c.n = true := by rfl) (hg : gOk all fr g = some true := by rfl) : G c Q ks (.ops all (⟨some d, .load t x, ty, pos, af, g⟩ :: rest)) fr l :=
  g_v (fun a w F M R r => o_loadHA (F.ev hx) (M.at_ _ (nthO_mem hl)) hv r) hk rfl hd hg
/-- out of what came in -/
theorem g_le1 {t : TypeId} {x : Operand} {b off : Nat} {cs : List Value} {t' : TypeId} {fz : Nat × Nat} {v : Value} [ht : TOne c.P t] (hx : Ev fr x = some (.pointer (some ⟨b, off, none⟩))) (hb : ∀ w', Ext c.S c.W w' → w'.heap[b]? = some (.cells cs.toArray t' fz)) (hv : nth cs off = some v)
    (hk : G c Q ks (.ops all rest) ((d, v) :: fr) l) (hd : Nat.blt d c.n = true := by rfl) (hg : gOk all fr g = some true := by rfl) : G c Q ks (.ops all (⟨some d, .load t x, ty, pos, af, g⟩ :: rest)) fr l :=
  g_v (fun a w F M R r => o_loadH1 (F.ev hx) (hb w M.ext) hv r) hk rfl hd hg
theorem g_ixS {t e : TypeId} {x i : Operand} {k : IntKind} {b o len cap sz : Nat} {j : Int} (hx : Ev fr x = some (.slice (some ⟨b, o, none⟩) len cap)) (hi : Ev fr i = some (.int k j)) [ht : TU c.P t (.slice e)] [hs : TSz c.P e sz] (h0 : 0 ≤ j) (h1 : j < len)
    (hk : G c Q ks (.ops all rest) ((d, .pointer (some ⟨b, o + j.toNat * sz, none⟩)) :: fr) l) (hd : Nat.blt d c.n = true := by rfl) (hg : gOk all fr g = some true := by rfl) : G c Q ks (.ops all (⟨some d, .indexAddr t x i, ty, pos, af, g⟩ :: rest)) fr l :=
  g_v (fun a w F M R r => o_indexSl (F.ev hx) (F.ev hi) h0 h1 r) hk rfl hd hg
theorem g_eqA {t t' : TypeId} {x y : Operand} {kk : List LK} {xs ys : List Value} {b : Bool} [ht : TEq c.P t kk] (hx : Ev fr x = some (.agg xs.toArray)) (hy : Ev fr y = some (.agg ys.toArray)) (fx : fitsK kk xs = true) (fy : fitsK kk ys = true) (he : eqVs xs ys = b)
    (hk : G c Q ks (.ops all rest) ((d, .bool b) :: fr) l) (hd : Nat.blt d c.n = true := by rfl) (hg : gOk all fr g = some true := by rfl) : G c Q ks (.ops all (⟨some d, .binOp .eql t x y t', ty, pos, af, g⟩ :: rest)) fr l :=
  g_v (fun a w F M R r => o_eqlAE (F.ev hx) (F.ev hy) fx fy he r) hk rfl hd hg
/-- a new block -/
theorem g_alloc {t : TypeId} {cs : List Value} [hz : TZero c.P t cs] (hk : ∀ b, G c Q ks (.ops all rest) ((d, .pointer (some ⟨b, 0, none⟩)) :: fr) ([(b, .cells cs.toArray t (0, 0))] :: l)) (hd : Nat.blt d c.n = true := by rfl) (hg : gOk all fr g = some true := by rfl) :
    G c Q ks (.ops all (⟨some d, .alloc t, ty, pos, af, g⟩ :: rest)) fr l :=
  g_op rfl hd hg fun a w F M => o_alloc M fun b w' M' a' F' => hk b a' w' F' M'
theorem g_box {t : TypeId} {x : Operand} {v : Value} {cs : List Value} (hx : Ev fr x = some v) (hv : v.cells = cs.toArray) (hk : ∀ b, G c Q ks (.ops all rest) ((d, .pointer (some ⟨b, 0, none⟩)) :: fr) ([(b, .cells cs.toArray t (0, 0))] :: l)) (hd : Nat.blt d c.n = true := by rfl) (hg : gOk all fr g = some true := by rfl) :
    G c Q ks (.ops all (⟨some d, .box t x, ty, pos, af, g⟩ :: rest)) fr l :=
  g_op rfl hd hg fun a w F M => o_box M (F.ev hx) hv fun b w' M' a' F' => hk b a' w' F' M'
/-- stores -/
theorem g_st1 (i : Nat) {t : TypeId} {x y : Operand} {b off : Nat} {cs cs' : List Value} {t' : TypeId} {v : Value} [hs : TSz c.P t 1] (hx : Ev fr x = some (.pointer (some ⟨b, off, none⟩))) (hy : Ev fr y = some v) (h1 : v.oneCell' = true) (hl : nthO l i = some [(b, .cells cs.toArray t' (0, 0))]) (hp : put cs off [v] = some cs') (hl' : setO l i [(b, .cells cs'.toArray t' (0, 0))] = some l')
    (hk : G c Q ks (.ops all rest) fr l') : G c Q ks (.ops all (⟨none, .store t x y, ty, pos, af, none⟩ :: rest)) fr l := fun a w F M =>
  stepN rfl F (o_store1 M (F.ev hx) (F.ev hy) h1 (setO_upd hl hl').has hp (setO_upd hl hl') fun w' M' a' F' => hk a' w' F' M')
theorem g_stA (i : Nat) {t : TypeId} {x y : Operand} {b off n : Nat} {cs cs' vs : List Value} {t' : TypeId} [hs : TAgg c.P t n] (hx : Ev fr x = some (.pointer (some ⟨b, off, none⟩))) (hy : Ev fr y = some (.agg vs.toArray)) (hn : vs.length = n) (h1 : vs.all (·.oneCell') = true) (hl : nthO l i = some [(b, .cells cs.toArray t' (0, 0))]) (hp : put cs off vs = some cs') (hl' : setO l i [(b, .cells cs'.toArray t' (0, 0))] = some l')
    (hk : G c Q ks (.ops all rest) fr l') : G c Q ks (.ops all (⟨none, .store t x y, ty, pos, af, none⟩ :: rest)) fr l := fun a w F M =>
  stepN rfl F (o_storeA M (F.ev hx) (F.ev hy) hn h1 (setO_upd hl hl').has hp (setO_upd hl hl') fun w' M' a' F' => hk a' w' F' M')
/-- calls: the answer told, nothing turned -/
theorem g_call {x : Operand} {f : FuncId} {xs : List Operand} {ts : Array TypeId} {vs : List Value} {v : Value} [hb : TBody c.P f] (hx : Ev fr x = some (.func (.func f) #[] #[])) (ha : evL fr xs = some vs) (hc : ∀ w, Mem c.S c.W w l.flatten → Cal c.P f vs.toArray w fun u w' => u = v ∧ Ext [] w w')
    (hk : G c Q ks (.ops all rest) ((d, v) :: fr) l) (hd : Nat.blt d c.n = true := by rfl) (hg : gOk all fr g = some true := by rfl) : G c Q ks (.ops all (⟨some d, .call ⟨.value x, xs.toArray, ts⟩, ty, pos, af, g⟩ :: rest)) fr l :=
  g_op rfl hd hg fun a w F M => o_call (F.ev hx) (F.evs ha) (Cal.mono (hc w M) fun u w' h a' F' => hk a' w' (h.1 ▸ F') (M.later h.2))
theorem g_ret {fn : Func} {R : Value → World → Prop} {rvs : List ResultVar} {vs : List Value} {c : Cx} (hdf : c.df = []) (hr : fn.results = rvs.toArray) (hv : ∀ a w, Frm a c.n c.df fr → Mem c.S c.W w l.flatten → ResVs c.P a w rvs vs) (h : ∀ w, Mem c.S c.W w l.flatten → R (oneOr vs) w) : G c (Post c.P fn R) [] (.ext .ret) fr l := fun a w F M => by
  have F' := F
  rw [hdf] at F'
  exact p_ret F' hr (hv a w F M) (h w M)
theorem g_ret1 {fn : Func} {R : Value → World → Prop} {t : Nat} {v : Value} {c : Cx} (hdf : c.df = []) (hr : fn.results = [ResultVar.tmp t].toArray) (hv : look fr t = some v) (h : ∀ w, Mem c.S c.W w l.flatten → R v w) : G c (Post c.P fn R) [] (.ext .ret) fr l :=
  g_ret hdf hr (fun a w F M => .cons (.tmp (F.ev hv)) .nil) h
theorem g_start {P : Program} {f : FuncId} {fn : Func} {x : Code} {vs : List Value} {W : World} {R : Value → World → Prop} {n : Nat} {S : List Nat} {flds : List (Nat × Nat × Nat)} {slcs : List Nat} (hf : (flds.all fun q => fieldAtB P q.1 q.2.1 q.2.2) = true) (hs : (slcs.all fun t => isSlB P t) = true)
    (hfn : P.funcs[f]? = some fn) (hb : fn.body = some x) (hn : fn.ntmps = n) (hle : Nat.ble vs.length n = true)
    (h : G ⟨P, none, n, [], S, W, flds, slcs, hf, hs⟩ (Post P fn R) [] (.code x) (number 0 vs) []) : Cal P f vs.toArray W R :=
  fn_ofM S hfn hb hn hle fun a w F M _ => h a w F M
theorem g_ifT {o : Operand} {x y : Code} {t : Bool} (hx : Ev fr o = some (.bool t)) (ht : t = true) (hk : G c Q ks (.code x) fr l) : G c Q ks (.code (.cond o x y)) fr l := fun a w F M => c_true F hx ht (hk a w F M)
theorem g_ifF {o : Operand} {x y : Code} {t : Bool} (hx : Ev fr o = some (.bool t)) (ht : t = false) (hk : G c Q ks (.code y) fr l) : G c Q ks (.code (.cond o x y)) fr l := fun a w F M => c_false F hx ht (hk a w F M)
theorem g_know (s : Nat) {st : St} {b b' : Bool} (h : look fr s = some (.bool b)) (hb : b = b') (hk : G c Q ks st ((s, .bool b') :: fr) l) : G c Q ks st fr l := fun a w F M => by
  subst hb
  exact hk a w (F.know (F.at_ s _ h)) M
/-- a slice written out: new memory -/
theorem g_bs {t e : TypeId} {len sz : Nat} {xs : List (Nat × Operand)} {parts : List (Nat × List Value)} {zs cs : List Value} [ht : TU c.P t (.slice e)] [hs : TSz c.P e sz] [hz : TZero c.P e zs] (hv : evP fr xs = some parts)
    (hle : Nat.ble (len * sz) 16777216 = true) (hzl : Nat.beq zs.length sz = true) (hp : putAll (placesL len sz) (zerosL zs (len * sz)) parts = some cs)
    (hk : ∀ b, G c Q ks (.ops all rest) ((d, .slice (some ⟨b, 0, none⟩) len len) :: fr) ([(b, .cells cs.toArray e (0, 0))] :: l)) (hd : Nat.blt d c.n = true := by rfl) (hg : gOk all fr g = some true := by rfl) : G c Q ks (.ops all (⟨some d, .buildSlice t len xs.toArray, ty, pos, af, g⟩ :: rest)) fr l :=
  g_op rfl hd hg fun a w F M => o_buildSlice F M hv hle hzl hp fun b w' M' a' F' => hk b a' w' F' M'
end
end Go.Proofs.YtchmcdkmlmknnaaGreat
/-! Lib4 -/
namespace Go.Proofs.YtchmcdkmlmknnaaGreat
set_option linter.unusedVariables false
set_option linter.unusedSimpArgs false
open Go.RowKit
def FD (c : Cx) (Q : Exit → Act → World → Prop) (ks : List KF) (ol : List Oper) (n k : Nat) (rest : List Oper) (fr : List (Nat × Value)) (l : Row) : Prop :=
  ∀ a w Vs, Mem c.S c.W w l.flatten → regOk ol.toArray n = true → MW ⟨keepAll, [], [], c.P, c.r, ol.toArray, n, c.n, c.df, a, w, KQ c Q ks, [], []⟩ k rest fr Vs noT
section
variable {c : Cx} {Q : Exit → Act → World → Prop} {ks : List KF} {fr fr' : List (Nat × Value)} {l : Row} {ol rest rest' : List Oper} {n k k' : Nat} {d : Nat} {op : Op} {ty : TypeId} {pos : String} {af : Array Edge} {g : Option (Nat × Bool)}
theorem g_draw {id : Nat} (n nt : Nat) [hm : TMix c.P] (hnt : c.n = nt) (hchk : (regOk ol.toArray n && tailOk ol.toArray n && Nat.ble n ol.length && dstOk ol.toArray n nt && effOk ol.toArray n []) = true) (h : FD c Q ks ol n 0 ol fr l) : G c Q ks (.code (.region id ol.toArray true)) fr l := fun a w F M =>
  c_draw n F (by rw [hnt]; exact hchk) fun w1 hE hok => h a w1 [] (M.later hE) hok
theorem fd_c {v : Value} (h : ∀ a w, Frm a c.n c.df fr → Mem c.S c.W w l.flatten → OpTo c.P ⟨some d, op, ty, pos, af, g⟩ a.eval w fun x w' => Ext [] w w' ∧ x = v)
    (hk : FD c Q ks ol n (k + 1) rest ((d, v) :: fr) l) (hlt : flo [] [] [] n k op = true := by rfl) (hd : Nat.blt d c.n = true := by rfl) (hg : gOk ol.toArray fr g = some true := by rfl) : FD c Q ks ol n k (⟨some d, op, ty, pos, af, g⟩ :: rest) fr l := fun a w Vs M hok => by
  rcases gOk_true hg with rfl | ⟨j, b, t, rfl, ht, hl⟩
  · exact mK hok hlt hd (fun a' w' F he => h a' w' F (M.later he)) (hk a w _ M hok)
  · exact mKG hok hlt hd ht hl (fun a' w' F he => h a' w' F (M.later he)) (hk a w _ M hok)
theorem fd_v {v : Value} (h : ∀ a w, Frm a c.n c.df fr → Mem c.S c.W w l.flatten → ∀ R : Value → World → Prop, R v w → OpTo c.P ⟨some d, op, ty, pos, af, g⟩ a.eval w R)
    (hk : FD c Q ks ol n (k + 1) rest ((d, v) :: fr) l) (hlt : flo [] [] [] n k op = true := by rfl) (hd : Nat.blt d c.n = true := by rfl) (hg : gOk ol.toArray fr g = some true := by rfl) : FD c Q ks ol n k (⟨some d, op, ty, pos, af, g⟩ :: rest) fr l :=
  fd_c (fun a w F M => h a w F M _ ⟨Ext.refl _ _, rfl⟩) hk hlt hd hg
theorem fd_off (hk : FD c Q ks ol n (k + 1) rest ((d, undef) :: fr) l) (hlt : flo [] [] [] n k op = true := by rfl) (hd : Nat.blt d c.n = true := by rfl) (hg : gOk ol.toArray fr g = some false := by rfl) : FD c Q ks ol n k (⟨some d, op, ty, pos, af, g⟩ :: rest) fr l := fun a w Vs M hok => by
  obtain ⟨j, b, t, v, rfl, ht, hl, ho⟩ := gOk_false hg
  exact mOff hok hlt hd ht hl ho (hk a w _ M hok)
def runF (c : Cx) (all : Array Oper) (n : Nat) : Nat → Nat → List Oper → List (Nat × Value) → Nat × List Oper × List (Nat × Value)
  | m + 1, k, o :: rest, fr => match o.dst with
    | some d => match Nat.blt d c.n && flo [] [] [] n k o.op with
      | true => match gOk all fr o.guard with
        | some true => match evO c fr o.op with
          | some v => runF c all n m (k + 1) rest ((d, v) :: fr)
          | none => (k, o :: rest, fr)
        | some false => runF c all n m (k + 1) rest ((d, undef) :: fr)
        | none => (k, o :: rest, fr)
      | false => (k, o :: rest, fr)
    | none => (k, o :: rest, fr)
  | _, k, rest, fr => (k, rest, fr)
theorem fd_run : ∀ (m : Nat) {k k' : Nat} {rest rest' : List Oper} {fr fr' : List (Nat × Value)}, runF c ol.toArray n m k rest fr = (k', rest', fr') → FD c Q ks ol n k' rest' fr' l → FD c Q ks ol n k rest fr l
  | 0, k, k', rest, rest', fr, fr', h, hk => by
    cases rest <;> cases h <;> exact hk
  | m + 1, k, k', [], rest', fr, fr', h, hk => by
    cases h
    exact hk
  | m + 1, k, k', o :: rest, rest', fr, fr', h, hk => by
    obtain ⟨dst, op, ty, pos, af, g⟩ := o
    unfold runF at h
    split at h
    · rename_i d hd0
      dsimp only at hd0
      subst hd0
      split at h
      · rename_i hb
        simp only [Bool.and_eq_true] at hb
        split at h
        · rename_i hg
          split at h
          · rename_i v hv
            exact fd_v (fun a w F M R r => evO_ok F hv r) (fd_run m h hk) hb.2 hb.1 hg
          · cases h
            exact hk
        · rename_i hg
          exact fd_off (fd_run m h hk) hb.2 hb.1 hg
        · cases h
          exact hk
      · cases h
        exact hk
    · cases h
      exact hk
end
section
variable {c : Cx} {Q : Exit → Act → World → Prop} {ks : List KF} {fr : List (Nat × Value)} {l : Row} {ol rest : List Oper} {nn kx : Nat} {d : Nat} {ty : TypeId} {pos : String} {af : Array Edge} {g : Option (Nat × Bool)}
section arith
variable {t t' : TypeId} {x y : Operand} {k : IntKind} {m n s : Int}
end arith
theorem fd_ld1 (i : Nat) {t : TypeId} {x : Operand} {b off : Nat} {cs : List Value} {t' : TypeId} {fz : Nat × Nat} {v : Value} [ht : TOne c.P t] (hx : Ev fr x = some (.pointer (some ⟨b, off, none⟩))) (hl : nthO l i = some [(b, .cells cs.toArray t' fz)]) (hv : nth cs off = some v)
    (hk : FD c Q ks ol nn (kx + 1) rest ((d, v) :: fr) l) (hlt : flo [] [] [] nn kx (.load t x) = true := by rfl) (hd : Nat.blt d c.n = true := by rfl) (hg : gOk ol.toArray fr g = some true := by rfl) : FD c Q ks ol nn kx (⟨some d, .load t x, ty, pos, af, g⟩ :: rest) fr l :=
  fd_v (fun a w F M R r => o_loadH1 (F.ev hx) (M.at_ _ (nthO_mem hl)) hv r) hk hlt hd hg
theorem fd_ldA (i : Nat) {t : TypeId} {x : Operand} {b off n : Nat} {cs : List Value} {t' : TypeId} {fz : Nat × Nat} {vs : List Value} [ht : TAgg c.P t n] (hx : Ev fr x = some (.pointer (some ⟨b, off, none⟩))) (hl : nthO l i = some [(b, .cells cs.toArray t' fz)]) (hv : seg cs off n = some vs)
    (hk : FD c Q ks ol nn (kx + 1) rest ((d, .agg vs.toArray) :: fr) l) (hlt : flo [] [] [] nn kx (.load t x) = true := by rfl) (hd : Nat.blt d c.n = true := by rfl) (hg : gOk ol.toArray fr g = some true := by rfl) : FD c Q ks ol nn kx (⟨some d, .load t x, ty, pos, af, g⟩ :: rest) fr l :=
  fd_v (fun a w F M R r => o_loadHA (F.ev hx) (M.at_ _ (nthO_mem hl)) hv r) hk hlt hd hg
end
section
variable {c : Cx} {Q : Exit → Act → World → Prop} {ks : List KF} {st : St} {fr : List (Nat × Value)} {l : Row}
/-- where branches come together -/
structure LJ (ι : Type) where
  p : ι → Prop
  fi : ι → List (Nat × Value)
  li : ι → Row
def JQ {ι : Type} (J : LJ ι) (c : Cx) (Q : Exit → Act → World → Prop) (ks : List KF) : Exit → Act → World → Prop
  | .normal, a, w => ∃ j, J.p j ∧ Frm a c.n c.df (J.fi j) ∧ Mem c.S c.W w (J.li j).flatten
  | e, a, w => KQ c Q ks e a w
theorem JQ.of {ι : Type} {J : LJ ι} {e : Exit} {a : Act} {w : World} (h : JQ J c Q ks e a w) (hk : ∀ j, J.p j → G c Q ks (.ext .normal) (J.fi j) (J.li j)) : KQ c Q ks e a w := by
  cases e with
  | normal =>
    obtain ⟨j, h2, h3, h4⟩ := h
    exact hk j h2 a w h3 h4
  | exit _ => exact h
  | goto _ => exact h
  | ret => exact h
  | panic _ => exact h
  | outgrown => exact h
end
end Go.Proofs.YtchmcdkmlmknnaaGreat
/-! Lib5 -/
namespace Go.Proofs.YtchmcdkmlmknnaaGreat
set_option linter.unusedVariables false
set_option linter.unusedSimpArgs false
open Go.RowKit
/-- a slice of new memory that holds o -/
def NwS (n0 len : Nat) (o : Obj) : Pred := fun v w => ∃ b, v = .slice (some ⟨b, 0, none⟩) len len ∧ n0 ≤ b ∧ w.heap[b]? = some o
theorem NwS.stays (n0 len : Nat) (o : Obj) : Stays keepAll (NwS n0 len o) := fun v w w' ⟨b, h1, h2, h3⟩ h => ⟨b, h1, h2, by
  rw [Ext.block h b (Array.getElem?_eq_some_iff.1 h3).1 (by simp)]; exact h3⟩
section
variable {c : Cx} {Q : Exit → Act → World → Prop} {ks : List KF} {fr : List (Nat × Value)} {l : Row} {ol rest : List Oper} {n k : Nat} {d : Nat} {ty : TypeId} {pos : String} {af : Array Edge}
end
section
variable {c : Cx} {Q : Exit → Act → World → Prop} {ks : List KF} {fr : List (Nat × Value)} {l : Row} {all rest ol : List Oper} {aa : Array Oper} {nn kx : Nat} {d : Nat} {ty : TypeId} {pos : String} {af : Array Edge} {g : Option (Nat × Bool)}
theorem g_neA {t t' : TypeId} {x y : Operand} {kk : List LK} {xs ys : List Value} {b : Bool} [ht : TEq c.P t kk] (hx : Ev fr x = some (.agg xs.toArray)) (hy : Ev fr y = some (.agg ys.toArray)) (fx : fitsK kk xs = true) (fy : fitsK kk ys = true) (he : eqVs xs ys = b)
    (hk : G c Q ks (.ops aa rest) ((d, .bool !b) :: fr) l) (hd : Nat.blt d c.n = true := by rfl) (hg : gOk aa fr g = some true := by rfl) : G c Q ks (.ops aa (⟨some d, .binOp .neq t x y t', ty, pos, af, g⟩ :: rest)) fr l :=
  g_v (fun a w F M R r => o_neqAE (F.ev hx) (F.ev hy) fx fy he r) hk rfl hd hg
end
section
variable {c : Cx} {Q : Exit → Act → World → Prop} {ks : List KF} {fr : List (Nat × Value)} {l : Row}
end
section
variable {c : Cx} {Q : Exit → Act → World → Prop} {ks : List KF} {fr : List (Nat × Value)} {l : Row} {aa : Array Oper} {rest : List Oper} {d : Nat} {ty : TypeId} {pos : String} {af : Array Edge} {g : Option (Nat × Bool)}
/-- a call that answers with new memory -/
theorem g_callN {ι : Type} (val : ι → Value) (p : ι → Prop) (li : ι → Row) {x : Operand} {f : FuncId} {xs : List Operand} {ts : Array TypeId} {vs : List Value} [hb : TBody c.P f] (hx : Ev fr x = some (.func (.func f) #[] #[])) (ha : evL fr xs = some vs)
    (hc : ∀ w, Mem c.S c.W w l.flatten → Cal c.P f vs.toArray w fun v w' => ∃ i, v = val i ∧ p i ∧ Mem [] w w' (li i).flatten)
    (hk : ∀ i, p i → G c Q ks (.ops aa rest) ((d, val i) :: fr) (li i ++ l)) (hd : Nat.blt d c.n = true := by rfl) (hg : gOk aa fr g = some true := by rfl) : G c Q ks (.ops aa (⟨some d, .call ⟨.value x, xs.toArray, ts⟩, ty, pos, af, g⟩ :: rest)) fr l :=
  g_op rfl hd hg fun a w F M => o_call (F.ev hx) (F.evs ha) (Cal.mono (hc w M) fun u w' h a' F' => by
    obtain ⟨i, rfl, h2, N⟩ := h
    exact hk i h2 a' w' F' (by rw [List.flatten_append]; exact M.joins N))
end
end Go.Proofs.YtchmcdkmlmknnaaGreat

/-
  Texts joined: LibQ, LibT, E0, F0, F1, NOpen3, F2, F3, LibR, E2.
-/
import Derived.Test.YtainnefmobfcjaaOfr2
import Derived.Laws.Externs
import Derived.Lib.Overlaps
import Derived.Lib.BytesEntry
/-! LibQ -/
namespace Go.Proofs.Ytainnefmobfcjaa
set_option linter.unusedVariables false
set_option linter.unusedSimpArgs false
open Go.RowKit
theorem sg_eq : ∀ (cs : List Value) (off n : Nat), seg cs off n = if off + n ≤ cs.length then some ((cs.drop off).take n) else none
  | [], 0, 0 => by simp [seg]
  | [], 0, n + 1 => by simp [seg]
  | [], off + 1, n => by simp [seg]
  | x :: xs, 0, 0 => by simp [seg]
  | x :: xs, 0, n + 1 => by
    rw [seg, sg_eq xs 0 n]
    by_cases h : n ≤ xs.length
    · rw [if_pos (by omega), if_pos (by simp; omega)]; simp
    · rw [if_neg (by omega), if_neg (by simp; omega)]
  | x :: xs, off + 1, n => by
    rw [seg, sg_eq xs off n]
    by_cases h : off + n ≤ xs.length
    · rw [if_pos h, if_pos (by simp; omega)]; simp
    · rw [if_neg h, if_neg (by simp; omega)]
theorem sg_seg {cs ys zs : List Value} {o n off k q : Nat} (h : seg cs o n = some ys) (h2 : seg ys off k = some zs) (hq : q = o + off) : seg cs q k = some zs := by
  subst hq
  rw [sg_eq] at *
  split at h
  · rename_i h1
    simp only [Option.some.injEq] at h
    subst h
    split at h2
    · rename_i h3
      simp only [List.length_take, List.length_drop] at h3
      simp only [Option.some.injEq] at h2
      subst h2
      rw [if_pos (by omega)]
      congr 1
      rw [List.drop_take, List.take_take, List.drop_drop]
      congr 1
      omega
    · cases h2
  · cases h
theorem sg_nth {cs ys : List Value} {o n off q : Nat} {v : Value} (h : seg cs o n = some ys) (h2 : nth ys off = some v) (hq : q = o + off) : nth cs q = some v := by
  subst hq
  obtain ⟨h3, h4⟩ := seg_spec _ _ _ _ h
  rw [nth_spec] at *
  have hlt : off < n := by rw [← h3]; exact (List.getElem?_eq_some_iff.1 h2).1
  rw [h4 off hlt, h2]
theorem sg_all {xs : List Value} {k : Nat} (h : xs.length = k) : seg xs 0 k = some xs := by
  rw [sg_eq, if_pos (by omega)]; simp [← h]
/-- the cells of a list of elements -/
def encL {α : Type} (enc : α → List Value) (ls : List α) : List Value := ls.flatMap enc
theorem encL_nil {α : Type} (enc : α → List Value) : encL enc [] = [] := rfl
theorem encL_app {α : Type} (enc : α → List Value) (xs ys : List α) : encL enc (xs ++ ys) = encL enc xs ++ encL enc ys := by simp [encL]
theorem encL_cons {α : Type} (enc : α → List Value) (x : α) (ys : List α) : encL enc (x :: ys) = enc x ++ encL enc ys := by simp [encL]
theorem encL_one {α : Type} (enc : α → List Value) (x : α) : encL enc [x] = enc x := by simp [encL]
theorem encL_len {α : Type} {enc : α → List Value} {sz : Nat} {ls : List α} (h : ∀ x ∈ ls, (enc x).length = sz) : (encL enc ls).length = ls.length * sz := by
  induction ls with
  | nil => simp [encL]
  | cons x ls ih =>
    rw [encL_cons, List.length_append, h x (by simp), ih fun y hy => h y (by simp [hy]), List.length_cons, Nat.add_mul]; omega
theorem encL_take {α : Type} {enc : α → List Value} {sz : Nat} {ls : List α} (h : ∀ x ∈ ls, (enc x).length = sz) (i : Nat) : (encL enc ls).take (i * sz) = encL enc (ls.take i) := by
  rcases Nat.lt_or_ge i ls.length with hi | hi
  · conv => lhs; rw [← List.take_append_drop i ls, encL_app]
    have := encL_len (ls := ls.take i) (sz := sz) (enc := enc) fun x hx => h x (List.mem_of_mem_take hx)
    rw [List.length_take, Nat.min_eq_left (by omega)] at this
    rw [← this, List.take_left']
    rfl
  · rw [List.take_of_length_le hi, List.take_of_length_le]
    rw [encL_len h]; exact Nat.mul_le_mul_right _ hi
theorem encL_drop {α : Type} {enc : α → List Value} {sz : Nat} {ls : List α} (h : ∀ x ∈ ls, (enc x).length = sz) (i : Nat) : (encL enc ls).drop (i * sz) = encL enc (ls.drop i) := by
  have h1 := List.take_append_drop (i * sz) (encL enc ls)
  have h2 : encL enc (ls.take i) ++ encL enc (ls.drop i) = encL enc ls := by rw [← encL_app, List.take_append_drop]
  rw [encL_take h] at h1
  exact List.append_cancel_left (h1.trans h2.symm)
theorem encL_all {α : Type} {enc : α → List Value} {ls : List α} (h : ∀ x ∈ ls, (enc x).all (·.oneCell') = true) : (encL enc ls).all (·.oneCell') = true := by
  simp only [encL, List.all_eq_true, List.mem_flatMap] at *
  rintro v ⟨x, hx, hv⟩
  exact h x hx v hv
theorem seg_el {α : Type} {enc : α → List Value} {sz : Nat} {ls : List α} (hsz : ∀ x ∈ ls, (enc x).length = sz) {cs : List Value} {o n : Nat} (h : seg cs o (n * sz) = some (encL enc ls)) {i : Nat} (hi : i < ls.length) {q : Nat} (hq : q = o + i * sz) : seg cs q sz = some (enc ls[i]) := by
  refine sg_seg h ?_ hq
  have hl := encL_len hsz
  have hi' : i * sz + sz ≤ ls.length * sz := by rw [← Nat.succ_mul]; exact Nat.mul_le_mul_right _ hi
  rw [sg_eq, if_pos (by omega), encL_drop hsz, List.drop_eq_getElem_cons hi, encL_cons]
  congr 1
  rw [← hsz ls[i] (List.getElem_mem hi), List.take_left']
  rfl
/-- v: a slice of n elements (sz cells each), whose cells are xs -/
def SlAt (W : World) (sz : Nat) (v : Value) (n : Nat) (xs : List Value) : Prop :=
  ∃ p cap, v = .slice p n cap ∧ n ≤ cap ∧ (∀ a : Addr, p = some a → True) ∧ xs.length = n * sz ∧ (0 < n → ∃ b o cs t fz, p = some ⟨b, o, none⟩ ∧ W.heap[b]? = some (.cells (List.toArray cs) t fz) ∧ seg cs o (n * sz) = some xs)
theorem SlAt.later {W w : World} {sz : Nat} {v : Value} {n : Nat} {xs : List Value} (h : SlAt W sz v n xs) (E : Ext [] W w) : SlAt w sz v n xs := by
  obtain ⟨p, cap, h1, h2, h3, h4, h5⟩ := h
  refine ⟨p, cap, h1, h2, h3, h4, fun hn => ?_⟩
  obtain ⟨b, o, cs, t, fz, h6, h7, h8⟩ := h5 hn
  exact ⟨b, o, cs, t, fz, h6, by rw [E.block b (Array.getElem?_eq_some_iff.1 h7).1 (by simp)]; exact h7, h8⟩
theorem SlAt.nil (W : World) (sz : Nat) : SlAt W sz (.slice none 0 0) 0 [] := ⟨none, 0, rfl, Nat.le_refl _, by simp, by simp, fun h => absurd h (by omega)⟩
theorem OwnS.slAt {e : TypeId} {sz : Nat} {v : Value} {n : Nat} {xs : List Value} {ent : List (Nat × Obj)} (h : OwnS e sz v n xs ent) {S : List Nat} {W0 w : World} {l : List (Nat × Obj)} (M : Mem S W0 w l) (hs : ∀ p ∈ ent, p ∈ l) : SlAt w sz v n xs := by
  rcases h with ⟨rfl, rfl, rfl, rfl⟩ | ⟨b, cap, junk, rfl, rfl, hxl, hjl, hnc⟩
  · exact SlAt.nil _ _
  · refine ⟨_, _, rfl, hnc, by simp, hxl, fun _ => ⟨b, 0, xs ++ junk, e, (0, 0), rfl, M.at_ (b, _) (hs _ (by simp)), ?_⟩⟩
    have := seg_of [] xs junk
    simpa [hxl] using this
/-- the elements' slice as a whole new list of them -/
theorem SlAt.src {P : Program} {W : World} {sz : Nat} {v : Value} {n : Nat} {xs : List Value} (h : SlAt W sz v n xs) (h1 : xs.all (·.oneCell') = true) : SrcOf P W v n sz xs := by
  obtain ⟨p, cap, rfl, h2, h3, h4, h5⟩ := h
  rcases Nat.eq_zero_or_pos n with hn | hn
  · subst hn
    have : xs = [] := List.length_eq_zero_iff.1 (by simpa using h4)
    subst this
    refine ⟨by simp [Builtin.lenOf], fun d => ?_, by simp, by simp⟩
    cases p with
    | none => simp [Builtin.firstCells]
    | some a => exact run_firstCells_some _ sz 0 _ _ _ [] (by simp) (fun j v hj => by simp at hj)
  · obtain ⟨b, o, cs, t, fz, rfl, h7, h8⟩ := h5 hn
    exact SrcOf.cells' h7 h8 h1
section
variable {P : Program} {ρ : Operand → Value} {w W0 : World} {S : List Nat} {l l' : List (Nat × Obj)} {R : Value → World → Prop} {d : Option Tmp} {ty : TypeId} {pos : String} {af : Array Edge} {g : Option (Nat × Bool)}
theorem o_loadWA {t : TypeId} {x : Operand} {b off n : Nat} {cs : List Value} {t' : TypeId} {fz : Nat × Nat} {vs : List Value} [ht : TAgg P t n] (M : Mem [] W0 w l) (hx : ρ x = .pointer (some ⟨b, off, none⟩)) (hb : W0.heap[b]? = some (.cells cs.toArray t' fz)) (hv : seg cs off n = some vs) (h : R (.agg vs.toArray) w) : OpTo P ⟨d, .load t x, ty, pos, af, g⟩ ρ w R :=
  o_load hx (run_loadVar_agg ht.h ((M.ext.block b (Array.getElem?_eq_some_iff.1 hb).1 (by simp)).trans hb) (by simpa using hv)) h
theorem o_capSl {x : Operand} {t e : TypeId} {p : Option Addr} {n c : Nat} (hx : ρ x = .slice p n c) [ht : TU P t (.slice e)] (h : R (.int .i64 c) w) : OpTo P ⟨d, .call ⟨.builtin .cap, #[x], #[t]⟩, ty, pos, af, g⟩ ρ w R :=
  OpTo.val (v := .int .i64 c) (w' := w) (by simp [execOp, resolve, invoke, builtin, hx, Builtin.cap_, run_underlying ht.h, goInt]) h
/-- x[i:] of a slice, i below its capacity -/
theorem o_slL {t e : TypeId} {x i : Operand} {k : IntKind} {b o len cap : Nat} {m : Int} (hx : ρ x = .slice (some ⟨b, o, none⟩) len cap) (hi : ρ i = .int k m) [ht : TU P t (.slice e)] {sz : Nat} [hs : TSz P e sz] (h0 : 0 ≤ m) (h1 : m ≤ len) (h3 : m < cap) (h : R (.slice (some ⟨b, o + m.toNat * sz, none⟩) (len - m.toNat) (cap - m.toNat)) w) : OpTo P ⟨d, .slice t x (some i) none none, ty, pos, af, g⟩ ρ w R := by
  have h6 : ¬ cap = m.toNat := by omega
  exact OpTo.val (v := .slice (some ⟨b, o + m.toNat * sz, none⟩) (len - m.toNat) (cap - m.toNat)) (w' := w) (by simp [execOp, Instr.sliceAt, Instr.slice, Instr.sliceBounds, Instr.sliceBound, asIntOf, hx, hi, run_underlying ht.h, run_sizeOf hs.h, h0, h1, h6, addr_add]) h
/-- x[i:] of a slice, whose place is not looked at -/
theorem o_slLany {t e : TypeId} {x i : Operand} {k : IntKind} {p : Option Addr} {len cap : Nat} {m : Int} (hx : ρ x = .slice p len cap) (hi : ρ i = .int k m) [ht : TU P t (.slice e)] {sz : Nat} [hs : TSz P e sz] (h0 : 0 ≤ m) (h1 : m ≤ len) (h : ∀ q, R (.slice q (len - m.toNat) (cap - m.toNat)) w) : OpTo P ⟨d, .slice t x (some i) none none, ty, pos, af, g⟩ ρ w R := by
  exact OpTo.val (v := .slice (if cap = m.toNat then p else p.map (·.add (m.toNat * sz))) (len - m.toNat) (cap - m.toNat)) (w' := w) (by simp [execOp, Instr.sliceAt, Instr.slice, Instr.sliceBounds, Instr.sliceBound, asIntOf, hx, hi, run_underlying ht.h, run_sizeOf hs.h, h0, h1]) (h _)
/-! entries of the model -/
theorem o_entry {c : Operand} {f : FuncId} {fn : Func} {e : Array Value → Sem Value} {xs : Array Operand} {ts : Array TypeId} {vs : Array Value} {v : Value} (hc : ρ c = .func (.func f) #[] #[]) (hf : P.funcs[f]? = some fn) (hname : (fn.name == "runtime.NumGoroutine") = false)
    (hb : fn.body.isNone = true) (hn : Extern.findNext fn = none) (he : Extern.find fn = some e) (ha : xs.map ρ = vs) (hr : (e vs).run P w = .ok v w) (h : R v w) : OpTo P ⟨d, .call ⟨.value c, xs, ts⟩, ty, pos, af, g⟩ ρ w R := by
  refine OpTo.val (v := v) (w' := w) ?_ h
  have := run_callFunc_extern hf hname hb hn he vs w
  rw [hr] at this
  simp [execOp, resolve, invoke, Deferred.ofValue, hc, ha, this]
end
/-! bytes compared -/
def cmpL : List Int → List Int → Int
  | [], [] => 0
  | [], _ :: _ => -1
  | _ :: _, [] => 1
  | x :: xs, y :: ys => if x < y then -1 else if y < x then 1 else cmpL xs ys
theorem find_range_succ (n : Nat) (p : Nat → Bool) : (List.range (n + 1)).find? p = if p 0 then some 0 else ((List.range n).find? fun i => p (i + 1)).map (· + 1) := by
  rw [List.range_succ_eq_map, List.find?_cons]
  cases h : p 0 with
  | true => simp
  | false => simp [List.find?_map]; rfl
theorem ba_get (bs : List UInt8) (i : Nat) : (⟨bs.toArray⟩ : ByteArray)[i]! = bs.getD i default := by
  rw [getElem!_def]
  rcases Nat.lt_or_ge i bs.length with h | h
  · rw [mkS_get h]; simp [h]
  · have : (⟨bs.toArray⟩ : ByteArray)[i]? = none := by
      rw [getElem?_neg]
      rw [mkS_size]; omega
    rw [this]; simp [h]
theorem cmp_cmpL : ∀ (xs ys : List UInt8), Extern.BytealgCompare.cmp ⟨xs.toArray⟩ ⟨ys.toArray⟩ = cmpL (xs.map fun c => (c.toNat : Int)) (ys.map fun c => (c.toNat : Int))
  | [], [] => by decide
  | [], y :: ys => by
    unfold Extern.BytealgCompare.cmp
    rw [mkS_size, mkS_size]
    simp [cmpL]
  | x :: xs, [] => by
    unfold Extern.BytealgCompare.cmp
    rw [mkS_size, mkS_size]
    simp [cmpL]
  | x :: xs, y :: ys => by
    have ih := cmp_cmpL xs ys
    unfold Extern.BytealgCompare.cmp at *
    rw [mkS_size, mkS_size] at *
    simp only [List.length_cons] at *
    have hm : min (xs.length + 1) (ys.length + 1) = min xs.length ys.length + 1 := by omega
    rw [hm, find_range_succ]
    have hg0 : ∀ (z : UInt8) (zs : List UInt8), (⟨(z :: zs).toArray⟩ : ByteArray)[0]! = z := fun z zs => by rw [ba_get]; rfl
    have hg1 : ∀ (z : UInt8) (zs : List UInt8) (i : Nat), (⟨(z :: zs).toArray⟩ : ByteArray)[i + 1]! = (⟨zs.toArray⟩ : ByteArray)[i]! := by
      intro z zs i
      rw [ba_get, ba_get]; simp
    simp only [hg0, hg1]
    by_cases hxy : x = y
    · subst hxy
      simp only [bne_self_eq_false, Bool.false_eq_true, if_false, List.map_cons, cmpL, Int.lt_irrefl]
      rw [← ih]
      cases List.find? (fun i => (⟨xs.toArray⟩ : ByteArray)[i]! != (⟨ys.toArray⟩ : ByteArray)[i]!) (List.range (min xs.length ys.length)) with
      | none => simp
      | some i => simp [hg1]
    · have hne : (x != y) = true := by simpa using hxy
      simp only [hne, if_true, hg0, List.map_cons, cmpL]
      have hnn : x.toNat ≠ y.toNat := fun h => hxy (UInt8.toNat_inj.1 h)
      by_cases hlt : x < y
      · have : x.toNat < y.toNat := hlt
        rw [if_pos hlt, if_pos (by omega)]
      · have : ¬ x.toNat < y.toNat := hlt
        rw [if_neg hlt, if_neg (by omega), if_pos (by omega)]
theorem cmpL_zero : ∀ {xs ys : List Int}, cmpL xs ys = 0 → xs = ys
  | [], [], _ => rfl
  | [], _ :: _, h => by simp [cmpL] at h
  | _ :: _, [], h => by simp [cmpL] at h
  | x :: xs, y :: ys, h => by
    simp only [cmpL] at h
    split at h
    · cases h
    · split at h
      · cases h
      · rw [cmpL_zero h, show x = y by omega]
theorem cmpL_lt_trans : ∀ {xs ys zs : List Int}, cmpL xs ys < 0 → cmpL ys zs < 0 → cmpL xs zs < 0
  | [], [], _, h, _ => by simp [cmpL] at h
  | [], _ :: _, [], _, h => by simp [cmpL] at h
  | [], _ :: _, _ :: _, _, _ => by simp [cmpL]
  | _ :: _, [], _, h, _ => by simp [cmpL] at h
  | _ :: _, _ :: _, [], _, h => by simp [cmpL] at h
  | x :: xs, y :: ys, z :: zs, h, k => by
    simp only [cmpL] at *
    rcases Int.lt_trichotomy x y with h1 | h1 | h1
    · rcases Int.lt_trichotomy y z with k1 | k1 | k1
      · rw [if_pos (by omega)]; omega
      · subst k1; rw [if_pos h1]; omega
      · rw [if_neg (by omega), if_pos k1] at k; omega
    · subst h1
      rw [if_neg (by omega), if_neg (by omega)] at h
      rcases Int.lt_trichotomy x z with k1 | k1 | k1
      · rw [if_pos k1]; omega
      · subst k1
        rw [if_neg (by omega), if_neg (by omega)] at *
        exact cmpL_lt_trans h k
      · rw [if_neg (by omega), if_pos k1] at k; omega
    · rw [if_neg (by omega), if_pos h1] at h; omega
/-- a slice of bytes -/
theorem run_bytesOf {P : Program} {w : World} {v : Value} {n : Nat} {xs : List Int} (h : SlAt w 1 v n (xs.map (Value.int .u8))) : (Extern.Bytes.bytesOf v).run P w = .ok ⟨(Lib.bytesOf xs).toArray⟩ w := by
  obtain ⟨p, cap, rfl, h2, h3, h4, h5⟩ := h
  simp only [List.length_map, Nat.mul_one] at h4
  rcases Nat.eq_zero_or_pos n with hn | hn
  · have : xs = [] := List.length_eq_zero_iff.1 (by omega)
    subst this; subst hn
    cases p with
    | none => simp [Extern.Bytes.bytesOf, Lib.bytesOf]; rfl
    | some a => simp [Extern.Bytes.bytesOf, Lib.bytesOf, Extern.Bytes.loadBytes]; rfl
  · obtain ⟨b, o, cs, t, fz, rfl, h7, h8⟩ := h5 hn
    have := Lib.run_loadBytesX (P := P) w xs ⟨b, o, none⟩ .empty (fun j x hj => by
      obtain ⟨h9, h10⟩ := seg_spec _ _ _ _ h8
      have hjl : j < xs.length := (List.getElem?_eq_some_iff.1 hj).1
      have := h10 j (by omega)
      rw [addr_add]
      refine cell_at h7 ?_
      simp only [List.getElem?_toArray, this]
      simp [hj])
    simp only [Extern.Bytes.bytesOf, ← h4]
    rw [this]
    simp [ByteArray.empty, ByteArray.emptyWithCapacity]
    rfl
theorem bytes_nums {xs : List Int} (h : ∀ x ∈ xs, 0 ≤ x ∧ x < 256) : (Lib.bytesOf xs).map (fun c => (c.toNat : Int)) = xs := by
  induction xs with
  | nil => rfl
  | cons x xs ih =>
    have h1 := h x (by simp)
    have e : (Lib.bytesOf (x :: xs)) = x.toNat.toUInt8 :: Lib.bytesOf xs := by simp [Lib.bytesOf]
    rw [e, List.map_cons, ih fun y hy => h y (by simp [hy])]
    congr 1
    simp only [Nat.toUInt8, UInt8.toNat_ofNat']
    omega
theorem run_compare {P : Program} {w : World} {v u : Value} {n m : Nat} {xs ys : List Int} (h : SlAt w 1 v n (xs.map (Value.int .u8))) (k : SlAt w 1 u m (ys.map (Value.int .u8))) (hx : ∀ x ∈ xs, 0 ≤ x ∧ x < 256) (hy : ∀ x ∈ ys, 0 ≤ x ∧ x < 256) :
    (Extern.BytealgCompare.compare #[v, u]).run P w = .ok (.int .i64 (cmpL xs ys)) w := by
  change Sem.run P (do pure (goInt (Extern.BytealgCompare.cmp (← Extern.Bytes.bytesOf v) (← Extern.Bytes.bytesOf u)))) w = _
  simp only [Sem.run_bind, run_bytesOf h, run_bytesOf k, Result.andThen_ok, Sem.run_pure, cmp_cmpL, bytes_nums hx, bytes_nums hy, goInt]
section
variable {P : Program} {ρ : Operand → Value} {w W0 : World} {S : List Nat} {l l' : List (Nat × Obj)} {R : Value → World → Prop} {d : Option Tmp} {ty : TypeId} {pos : String} {af : Array Edge} {g : Option (Nat × Bool)}
theorem run_ov {tS tR e : TypeId} {sz vb b o1 o2 la ca lb cb : Nat} {ys cs : List Value} {tA tB : TypeId} (ht : P.underlying tS = some (.slice e)) (hz : sizeIs P e sz = true) (hne : vb ≠ b) (ha : w.heap[vb]? = some (.cells ys.toArray tA (0, 0))) (hb : w.heap[b]? = some (.cells cs.toArray tB (0, 0))) (hk : cs.length ≠ 0) :
    (Extern.SlicesOverlaps.overlaps #[tS, tS] #[tR] #[.slice (some ⟨vb, o1, none⟩) la ca, .slice (some ⟨b, o2, none⟩) lb cb]).run P w = .ok (.bool false) w :=
  Lib.run_overlaps_apart w tS tR e ht sz (fun w => run_sizeOf hz) ⟨vb, o1, none⟩ ⟨b, o2, none⟩ la ca lb cb hne tA tB ys.length cs.length (by simp [World.shape?, ha]) (by simp [World.shape?, hb]) hk (by simp [World.frozen?, ha]) (by simp [World.frozen?, ha])
/-- append(x, make(..)...), where there is no room -/
theorem o_appendZ {st tn e : TypeId} {x y : Operand} {sz by_ i k cap : Nat} {p : Option Addr} {xs : List Value} [hst : TU P st (.slice e)] [htn : TU P tn (.int .i64)] [hel : TEl P e sz by_] (M : Mem S W0 w l) (hX : SrcOf P w (.slice p i cap) i sz xs)
    (hx : ρ x = .slice p i cap) (hy : ρ y = .int .i64 (k : Int)) (hgt : cap < i + k) (hci : i ≤ cap) (hsz : 0 < sz) (hbd : (i + k) * by_ ≤ 140737488355328) (hln : i + k ≤ 9223372036854775807)
    (h : ∀ b cap' zs w', zs.length = (cap' - i) * sz → i + k ≤ cap' → Mem S W0 w' ((b, .cells (xs ++ zs).toArray e (0, 0)) :: l) → R (.slice (some ⟨b, 0, none⟩) (i + k) cap') w') : OpTo P ⟨d, .call ⟨.builtin .append, #[x, y], #[st, tn]⟩, ty, pos, af, g⟩ ρ w R := by
  obtain ⟨inf, z, hi, rfl, rfl, hz, hzs⟩ := elB_spec hel.h
  have hw : IntKind.i64.wrap (k : Int) = k := w_i64 (by omega) (by omega)
  have hkb : k * inf.bytes ≤ 281474976710656 := by
    have : k * inf.bytes ≤ (i + k) * inf.bytes := Nat.mul_le_mul_right _ (by omega)
    omega
  have h48i : ¬ (281474976710656 < (k : Int) * (inf.bytes : Int)) := by
    rw [← Int.natCast_mul]; omega
  have hneg : ¬ ((k : Int) < 0) := by omega
  have hk0 : k ≠ 0 := by omega
  have hns : ¬ (k * inf.size = 0) := Nat.mul_ne_zero hk0 (by omega)
  have hn : ¬ (i + k ≤ cap) := by omega
  have h63' : ¬ (9223372036854775807 < ((i : Int) + (k : Int))) := by omega
  have h48 : ¬ (281474976710656 < Builtin.nextslicecap (i + k) cap * inf.bytes) := by
    have := growslice_fits (need := i + k) (old := cap) (bytes := inf.bytes) (by omega) hbd
    omega
  have hold := hX.cells (w.drawn + 1)
  have hnc : i + k ≤ grownCap w (i + k) cap e := grownCap_ge w _ _ _
  have hrun : (Builtin.append_ #[st, tn] ty #[.slice p i cap, .int .i64 (k : Int)]).run P w = .ok (.slice (some ⟨w.heap.size, 0, none⟩) (i + k) (grownCap w (i + k) cap e)) (w.drew.alloc (.cells (xs.toArray ++ Builtin.zeroCells z.cells k ++ Builtin.zeroCells z.cells (grownCap w (i + k) cap e - (i + k))) e)) := by
    have hold' : (Builtin.firstCells inf.size i (.slice p i cap)).run P w.drew = .ok xs.toArray w.drew := hold
    simp [Builtin.append_, run_underlying hst.h, run_underlying htn.h, sizeOf, typeInfo, zeroValue, hi, hz, asInt, asIntOf, hw, hk0, hneg, hns, h63', h48, h48i, hn, Question.forced, hold', newRow, grownCap] <;> (congr 2; apply Array.ext'; simp)
  have e1 : (xs.toArray ++ Builtin.zeroCells z.cells k ++ Builtin.zeroCells z.cells (grownCap w (i + k) cap e - (i + k))) = (xs ++ ((Builtin.zeroCells z.cells k).toList ++ (Builtin.zeroCells z.cells (grownCap w (i + k) cap e - (i + k))).toList)).toArray := by
    apply Array.ext'; simp
  rw [e1] at hrun
  have hzl : ((Builtin.zeroCells z.cells k).toList ++ (Builtin.zeroCells z.cells (grownCap w (i + k) cap e - (i + k))).toList).length = (grownCap w (i + k) cap e - i) * inf.size := by
    rw [List.length_append, Array.length_toList, Array.length_toList, size_zeroCells, size_zeroCells, hzs, ← Nat.add_mul]
    congr 1
    omega
  generalize (Builtin.zeroCells z.cells k).toList ++ (Builtin.zeroCells z.cells (grownCap w (i + k) cap e - (i + k))).toList = zs at *
  refine OpTo.val (v := .slice (some ⟨w.heap.size, 0, none⟩) (i + k) (grownCap w (i + k) cap e)) (w' := w.drew.alloc (.cells (xs ++ zs).toArray e (0, 0))) ?_ (h _ _ zs _ hzl hnc ((M.later (Ext.drawn w (w.drawn + 1) (Nat.le_succ _))).alloc (.cells (xs ++ zs).toArray e (0, 0))))
  simp [execOp, resolve, invoke, builtin, hx, hy, hrun]
end
end Go.Proofs.Ytainnefmobfcjaa
/-! LibT -/
namespace Go.Proofs.Ytainnefmobfcjaa
set_option linter.unusedVariables false
set_option linter.unusedSimpArgs false
open Go.RowKit
theorem add_add (a : Addr) (m r : Nat) : (a.add m).add r = a.add (m + r) := by
  obtain ⟨b, o, sp⟩ := a
  unfold Addr.add
  by_cases hm : m = 0
  · subst hm
    simp
  · by_cases hr : r = 0
    · subst hr; simp [hm]
    · simp [hm, hr, show ¬ m + r = 0 by omega]; omega
section
variable {H : Type} {enc : TypeId × Value → H} {P : Program} {w : World} {base : Nat} {sp : Nat → Bool} {held : Bool}
theorem open_slG {α : Type} {encE : α → List Value} {Is : α → Prop} {t e : TypeId} {sz : Nat} (ht : P.underlying t = some (.slice e)) (hsz : P.cellsOf e = sz) (h0 : 0 < sz)
    (hdec : ∀ n cs y, DataW.trod enc P w base sp held n e cs = some y → ∃ x : α, Is x ∧ cs = encE x) {fuel : Nat} {cs : List Value} {x : DataW H × List MemPlace} (h : DataW.trod enc P w base sp held fuel t cs = some x) :
    ∃ (v : Value) (ls : List α), cs = [v] ∧ (∀ x ∈ ls, Is x) ∧ SlAt w sz v ls.length (encL encE ls) ∧ ls.length ≤ 9223372036854775807 := by
  rcases DataW.trod_slice ht h with ⟨rfl, _⟩ | ⟨a, len, cap, elems, rest, n, _, rfl, _, _, hlc, hcm, hel, hat, _, _⟩
  · exact ⟨_, [], rfl, by simp, SlAt.nil _ _, by simp⟩
  have hml : maxLen = 9223372036854775807 := rfl
  rw [hsz] at hat
  have key : ∀ k, k ≤ len → ∃ ls : List α, ls.length = k ∧ (∀ x ∈ ls, Is x) ∧ (encL encE ls).length = k * sz ∧ ∀ j, j < k * sz → w.cell? (a.add j) = (encL encE ls)[j]? := by
    intro k
    induction k with
    | zero => exact fun _ => ⟨[], rfl, by simp, by simp [encL_nil], by simp⟩
    | succ k ih =>
      intro hk
      obtain ⟨ls, h1, h2, h3, h4⟩ := ih (by omega)
      have hb := hat k (by omega)
      rw [List.getElem?_eq_getElem (by omega), Option.bind_eq_some_iff] at hb
      obtain ⟨ck, hc, hy⟩ := hb
      obtain ⟨x, hx, rfl⟩ := hdec _ _ _ hy
      obtain ⟨_, hcl, hca⟩ := World.cells?_some hc
      refine ⟨ls ++ [x], by simp [h1], fun z hz => ?_, ?_, fun j hj => ?_⟩
      · rcases List.mem_append.1 hz with h | h
        · exact h2 z h
        · simp only [List.mem_singleton] at h
          rw [h]; exact hx
      · rw [encL_app, encL_one, List.length_append, h3, hcl, Nat.add_mul]; omega
      · rw [encL_app, encL_one]
        rcases Nat.lt_or_ge j (k * sz) with h | h
        · rw [List.getElem?_append_left (by omega)]
          exact h4 j h
        · rw [List.getElem?_append_right (by omega), h3, ← hca (j - k * sz) (by rw [Nat.add_mul] at hj; omega), add_add]
          congr 2
          omega
  obtain ⟨ls, h1, h2, h3, h4⟩ := key len (Nat.le_refl _)
  refine ⟨_, ls, rfl, h2, ⟨some a, cap, by rw [h1], by omega, fun _ _ => trivial, by rw [h3, h1], fun hl => ?_⟩, by omega⟩
  have hpos : 0 < len * sz := Nat.mul_pos (by omega) h0
  have hc0 := h4 0 hpos
  have hsp : a.spot = none := by
    cases hs : a.spot with
    | none => rfl
    | some q =>
      have e0 : a.add 0 = a := by simp [Addr.add]
      rw [e0, List.getElem?_eq_getElem (by omega)] at hc0
      simp only [World.cell?, hs] at hc0
      split at hc0 <;> simp at hc0
  obtain ⟨b, o, spt⟩ := a
  simp only at hsp
  subst hsp
  have hadd : ∀ i, (⟨b, o, none⟩ : Addr).add i = ⟨b, o + i, none⟩ := fun i => addr_add b o i
  rw [hadd, List.getElem?_eq_getElem (by omega)] at hc0
  cases hb : w.heap[b]? with
  | none => simp [World.cell?, hb] at hc0
  | some ob =>
    cases ob with
    | cells cs t fz =>
      refine ⟨b, o, cs.toList, t, fz, rfl, by simpa using hb, ?_⟩
      have hcell : ∀ i, i < len * sz → cs[o + i]? = (encL encE ls)[i]? := fun i hi => by
        have := h4 i hi
        rw [hadd] at this
        simpa [World.cell?, hb] using this
      have hle : o + len * sz ≤ cs.toList.length := by
        have := hcell (len * sz - 1) (by omega)
        rw [List.getElem?_eq_getElem (by omega)] at this
        have := (Array.getElem?_eq_some_iff.1 this).1
        simp only [Array.length_toList]
        omega
      rw [h1, sg_eq, if_pos hle]
      congr 1
      apply List.ext_getElem?
      intro i
      rcases Nat.lt_or_ge i (len * sz) with hi | hi
      · rw [List.getElem?_take_of_lt hi, List.getElem?_drop, Array.getElem?_toList, hcell i hi]
      · rw [List.getElem?_eq_none (by simp; omega), List.getElem?_eq_none (by omega)]
    | _ => simp [World.cell?, hb] at hc0
end
end Go.Proofs.Ytainnefmobfcjaa
/-! E0 -/
namespace Go.Proofs.Ytainnefmobfcjaa
set_option linter.unusedVariables false
set_option linter.unusedSimpArgs false
open Go.RowKit
attribute [local irreducible] OpTo wpListIn Code.wpIn MW Cal
theorem xor8_bd (m n : Int) : 0 ≤ bitsOf .xor .u8 m n ∧ bitsOf .xor .u8 m n < 256 := by
  unfold bitsOf
  simp only [IntKind.wrap, IntKind.signed, IntKind.bits, Bool.false_and, Bool.false_eq_true, if_false]
  omega
/-! the tape: a number, whatever it is -/
theorem nextE_c {bt : Nat} {p : Option Addr} {len cap k : Nat} {xs : List Int} (n : Int) (hn : 0 < n) (hn2 : n ≤ 9223372036854775807) (W : World) (hT : TapeS W bt p len xs) (hb : W.heap[bt]? = some (tobj p len cap k)) :
    Cal Try.prog 14 [.pointer (some ⟨bt, 0, none⟩), .int .i64 n].toArray W fun v w' => ∃ x k', v = .int .i64 x ∧ (0 ≤ x ∧ x < n) ∧ Mem [bt] W w' [(bt, tobj p len cap k')] :=
  Cal.mono (next_c n hn hn2 W hT hb) fun _ _ h => ⟨_, _, h.1, nxV_bd _ _ hn, h.2⟩
/-! border -/
def isTime (t : Int) : Bool := decide (0 ≤ t) && decide (t ≤ 1099511627776)
theorem isTime_c (t : Int) (W : World) : Cal Try.prog 39 [.int .i64 t].toArray W fun v w' => v = .bool (isTime t) ∧ Ext [] W w' := by
  unfold isTime
  by_cases h : 0 ≤ t
  · rw [decide_eq_true h, Bool.true_and]
    refine fn_ofM (n := 9) [] Try.func39 rfl rfl rfl ?_
    intro a w F M hwW
    with_reducible refine c_seq ?_
    with_reducible refine c_region ?_
    refine stepD rfl F rfl (o_assign (F.ev rfl) ?_); clear F; clear a; intro a F
    with_reducible refine l_nil ?_
    with_reducible refine q_then ?_
    with_reducible refine c_seq ?_
    with_reducible refine c_region ?_
    refine stepD rfl F rfl (o_move (F.ev rfl) ?_); clear F; clear a; intro a F
    refine stepD rfl F rfl (o_geqT (F.ev rfl) (F.ev rfl) (by omega) ?_); clear F; clear a; intro a F
    refine stepD rfl F rfl (o_move (F.ev rfl) ?_); clear F; clear a; intro a F
    refine stepG rfl F rfl rfl rfl (o_move (F.ev rfl) ?_); clear F; clear a; intro a F
    refine stepG rfl F rfl rfl rfl (o_leq (F.ev rfl) (F.ev rfl) ?_); clear F; clear a; intro a F
    refine stepD rfl F rfl (o_pickT (F.ev rfl) (F.ev rfl) ?_); clear F; clear a; intro a F
    refine stepD rfl F rfl (o_assign (F.ev rfl) ?_); clear F; clear a; intro a F
    with_reducible refine l_nil ?_
    with_reducible refine q_then ?_
    with_reducible refine c_ret ?_
    refine p_ret F rfl (.cons (.tmp (F.ev rfl)) .nil) ?_
    exact ⟨rfl, M.ext⟩
  · rw [decide_eq_false h, Bool.false_and]
    refine fn_ofM (n := 9) [] Try.func39 rfl rfl rfl ?_
    intro a w F M hwW
    with_reducible refine c_seq ?_
    with_reducible refine c_region ?_
    refine stepD rfl F rfl (o_assign (F.ev rfl) ?_); clear F; clear a; intro a F
    with_reducible refine l_nil ?_
    with_reducible refine q_then ?_
    with_reducible refine c_seq ?_
    with_reducible refine c_region ?_
    refine stepD rfl F rfl (o_move (F.ev rfl) ?_); clear F; clear a; intro a F
    refine stepD rfl F rfl (o_geqF (F.ev rfl) (F.ev rfl) (by omega) ?_); clear F; clear a; intro a F
    refine stepD rfl F rfl (o_move (F.ev rfl) ?_); clear F; clear a; intro a F
    refine stepOff F rfl rfl rfl rfl ?_; clear F; clear a; intro a F
    refine stepOff F rfl rfl rfl rfl ?_; clear F; clear a; intro a F
    refine stepD rfl F rfl (o_pickF (F.ev rfl) (F.ev rfl) ?_); clear F; clear a; intro a F
    refine stepD rfl F rfl (o_assign (F.ev rfl) ?_); clear F; clear a; intro a F
    with_reducible refine l_nil ?_
    with_reducible refine q_then ?_
    with_reducible refine c_ret ?_
    refine p_ret F rfl (.cons (.tmp (F.ev rfl)) .nil) ?_
    exact ⟨rfl, M.ext⟩
def laterV (a d : Int) : Int := if 1099511627776 < a + d then 1099511627776 else a + d
theorem later_c (a d : Int) (h0 : 0 ≤ a) (h1 : a ≤ 1099511627776) (d0 : 0 ≤ d) (d1 : d ≤ 1099511627776) (W : World) : Cal Try.prog 40 [.int .i64 a, .int .i64 d].toArray W fun v w' => v = .int .i64 (laterV a d) ∧ Ext [] W w' := by
  refine fn_ofM (n := 9) [] Try.func40 rfl rfl rfl ?_
  intro a w F M hwW
  with_reducible refine c_seq ?_
  with_reducible refine c_region ?_
  refine stepD rfl F rfl (o_assign (F.ev rfl) ?_); clear F; clear a; intro a F
  with_reducible refine l_nil ?_
  with_reducible refine q_then ?_
  with_reducible refine c_seq ?_
  with_reducible refine c_region ?_
  refine stepD rfl F rfl (o_move (F.ev rfl) ?_); clear F; clear a; intro a F
  refine stepD rfl F rfl (o_move (F.ev rfl) ?_); clear F; clear a; intro a F
  refine stepD rfl F rfl (o_add (F.ev rfl) (F.ev rfl) (w_i64 (by omega) (by omega)) ?_); clear F; clear a; intro a F
  refine stepD rfl F rfl (o_min (F.ev rfl) (F.ev rfl) ?_); clear F; clear a; intro a F
  refine stepD rfl F rfl (o_assign (F.ev rfl) ?_); clear F; clear a; intro a F
  with_reducible refine l_nil ?_
  with_reducible refine q_then ?_
  with_reducible refine c_ret ?_
  refine p_ret F rfl (.cons (.tmp (F.ev rfl)) .nil) ?_
  exact ⟨rfl, M.ext⟩
theorem bytesCompare_c {v u : Value} {n m : Nat} {xs ys : List Int} (W : World) (h : SlAt W 1 v n (ipC xs)) (k : SlAt W 1 u m (ipC ys)) (hx : ∀ x ∈ xs, 0 ≤ x ∧ x < 256) (hy : ∀ x ∈ ys, 0 ≤ x ∧ x < 256) :
    Cal Try.prog 77 [v, u].toArray W fun x w' => x = .int .i64 (cmpL xs ys) ∧ Ext [] W w' := by
  refine fn_ofM (n := 8) [] Try.func77 rfl rfl rfl ?_
  intro a w F M hwW
  with_reducible refine c_seq ?_
  with_reducible refine c_region ?_
  refine stepD rfl F rfl (o_assign (F.ev rfl) ?_); clear F; clear a; intro a F
  with_reducible refine l_nil ?_
  with_reducible refine q_then ?_
  with_reducible refine c_seq ?_
  with_reducible refine c_region ?_
  refine stepD rfl F rfl (o_move (F.ev rfl) ?_); clear F; clear a; intro a F
  refine stepD rfl F rfl (o_move (F.ev rfl) ?_); clear F; clear a; intro a F
  (refine stepD rfl F rfl (o_entry (F.ev rfl) Try.func99 (by kernel_rfl) (by kernel_rfl) (by kernel_rfl) (e := Extern.BytealgCompare.compare) (by kernel_rfl) (F.evs rfl) (run_compare (h.later M.ext) (k.later M.ext) hx hy) ?_); clear F; clear a; intro a F)
  refine stepD rfl F rfl (o_assign (F.ev rfl) ?_); clear F; clear a; intro a F
  with_reducible refine l_nil ?_
  with_reducible refine q_then ?_
  with_reducible refine c_ret ?_
  refine p_ret F rfl (.cons (.tmp (F.ev rfl)) .nil) ?_
  exact ⟨rfl, M.ext⟩
theorem compareIP_c (p q : List Int) (hp : IsIP p) (hq : IsIP q) (W : World) : Cal Try.prog 45 [.agg (ipC p).toArray, .agg (ipC q).toArray].toArray W fun x w' => x = .int .i64 (cmpL p q) ∧ Ext [] W w' := by
  have l1 := ipC_len hp.len
  have l2 := ipC_len hq.len
  refine fn_ofM (n := 8) [] Try.func45 rfl rfl rfl ?_
  intro a w F M hwW
  refine c_seq ?_
  refine c_region ?_
  (refine stepD rfl F rfl (o_box M (F.ev rfl) rfl ?_); clear F; clear M; intro b2 w M a F)
  (refine stepD rfl F rfl (o_box M (F.ev rfl) rfl ?_); clear F; clear M; intro b3 w M a F)
  refine stepD rfl F rfl (o_assign (F.ev rfl) ?_); clear F; clear a; intro a F
  with_reducible refine l_nil ?_
  with_reducible refine q_then ?_
  with_reducible refine c_seq ?_
  refine c_draw 3 F (by kernel_rfl) ?_
  intro w1 hE hok
  have M1 := M.later hE
  (refine mK hok rfl rfl (fun a' w' F' E' => o_arrAll (F'.ev rfl) ⟨Ext.refl _ _, rfl⟩) ?_)
  (refine mK hok rfl rfl (fun a' w' F' E' => o_arrAll (F'.ev rfl) ⟨Ext.refl _ _, rfl⟩) ?_)
  (refine mK hok rfl rfl (fun a' w' F' E' => o_call (F'.ev rfl) (F'.evs rfl) (Cal.mono (bytesCompare_c _ (n := 16) (m := 16) ⟨_, _, rfl, by omega, by simp, by omega, fun _ => ⟨b2, 0, ipC p, _, _, rfl, (M1.later E').heap (.there .here), seg_all (by omega)⟩⟩ ⟨_, _, rfl, by omega, by simp, by omega, fun _ => ⟨b3, 0, ipC q, _, _, rfl, (M1.later E').heap .here, seg_all (by omega)⟩⟩ hp.bd hq.bd) fun _ _ hh => ⟨hh.2, hh.1⟩)) ?_)
  (refine mDone rfl rfl ?_; clear F; clear M; intro a w F hE2 hX hTT hDD hPP; have M := M1.later hE2; clear M1; clear hX; clear hE2; clear hok; clear hE; clear hTT; clear hDD; clear hPP; (try dsimp only at F))
  refine stepD rfl F rfl (o_assign (F.ev rfl) ?_); clear F; clear a; intro a F
  with_reducible refine l_nil ?_
  with_reducible refine q_then ?_
  with_reducible refine c_ret ?_
  refine p_ret F rfl (.cons (.tmp (F.ev rfl)) .nil) ?_
  exact ⟨rfl, M.ext⟩
end Go.Proofs.Ytainnefmobfcjaa
/-! F0 -/
namespace Go.Proofs.Ytainnefmobfcjaa
set_option linter.unusedVariables false
set_option linter.unusedSimpArgs false
open Go.RowKit
/-! PInf -/
structure PInf where
  ip : List Int
  bits : Int
  onl : Bool
  aut : Bool
  life : Int
  deriving DecidableEq
def piC (o : PInf) : List Value := pfC o.ip o.bits ++ ([.bool o.onl, .bool o.aut, .int .u32 o.life])
def IsPi (o : PInf) : Prop := IsIP o.ip
theorem pi_len {o : PInf} (h : IsPi o) : (piC o).length = 20 := by
  obtain ⟨f_ip, f_bits, f_onl, f_aut, f_life⟩ := o
  obtain ⟨x0_0, x0_1, x0_2, x0_3, x0_4, x0_5, x0_6, x0_7, x0_8, x0_9, x0_10, x0_11, x0_12, x0_13, x0_14, x0_15, e0⟩ := len16 (show f_ip.length = 16 from (h).len)
  subst e0
  rfl
theorem pi_pre {o : PInf} (h : IsPi o) : seg (piC o) 0 17 = some (pfC o.ip o.bits) := by
  obtain ⟨f_ip, f_bits, f_onl, f_aut, f_life⟩ := o
  obtain ⟨x0_0, x0_1, x0_2, x0_3, x0_4, x0_5, x0_6, x0_7, x0_8, x0_9, x0_10, x0_11, x0_12, x0_13, x0_14, x0_15, e0⟩ := len16 (show f_ip.length = 16 from (h).len)
  subst e0
  rfl
theorem pi_bits {o : PInf} (h : IsPi o) : nth (piC o) 16 = some (.int .i64 o.bits) := by
  obtain ⟨f_ip, f_bits, f_onl, f_aut, f_life⟩ := o
  obtain ⟨x0_0, x0_1, x0_2, x0_3, x0_4, x0_5, x0_6, x0_7, x0_8, x0_9, x0_10, x0_11, x0_12, x0_13, x0_14, x0_15, e0⟩ := len16 (show f_ip.length = 16 from (h).len)
  subst e0
  rfl
theorem pi_aut {o : PInf} (h : IsPi o) : nth (piC o) 18 = some (.bool o.aut) := by
  obtain ⟨f_ip, f_bits, f_onl, f_aut, f_life⟩ := o
  obtain ⟨x0_0, x0_1, x0_2, x0_3, x0_4, x0_5, x0_6, x0_7, x0_8, x0_9, x0_10, x0_11, x0_12, x0_13, x0_14, x0_15, e0⟩ := len16 (show f_ip.length = 16 from (h).len)
  subst e0
  rfl
theorem pi_life {o : PInf} (h : IsPi o) : nth (piC o) 19 = some (.int .u32 o.life) := by
  obtain ⟨f_ip, f_bits, f_onl, f_aut, f_life⟩ := o
  obtain ⟨x0_0, x0_1, x0_2, x0_3, x0_4, x0_5, x0_6, x0_7, x0_8, x0_9, x0_10, x0_11, x0_12, x0_13, x0_14, x0_15, e0⟩ := len16 (show f_ip.length = 16 from (h).len)
  subst e0
  rfl
theorem pi_one (o : PInf) : (piC o).all (·.oneCell') = true := by
  simp [pfC, ipC, piC, Value.oneCell']
def piZ : List Value := [.int .u8 0, .int .u8 0, .int .u8 0, .int .u8 0, .int .u8 0, .int .u8 0, .int .u8 0, .int .u8 0, .int .u8 0, .int .u8 0, .int .u8 0, .int .u8 0, .int .u8 0, .int .u8 0, .int .u8 0, .int .u8 0, .int .i64 0, .bool false, .bool false, .int .u32 0]
theorem pi_build {o : PInf} (h : IsPi o) : putAll [(0, 17), (17, 1), (18, 1), (19, 1)] piZ [(0, pfC o.ip o.bits), (1, [.bool o.onl]), (2, [.bool o.aut]), (3, [.int .u32 o.life])] = some (piC o) := by
  obtain ⟨f_ip, f_bits, f_onl, f_aut, f_life⟩ := o
  obtain ⟨x0_0, x0_1, x0_2, x0_3, x0_4, x0_5, x0_6, x0_7, x0_8, x0_9, x0_10, x0_11, x0_12, x0_13, x0_14, x0_15, e0⟩ := len16 (show f_ip.length = 16 from (h).len)
  subst e0
  rfl
theorem pi_build1 {o : PInf} (h : IsPi o) : putAll (placesL 1 20) (zerosL piZ (1 * 20)) [(0, piC o)] = some (piC o) := by
  obtain ⟨f_ip, f_bits, f_onl, f_aut, f_life⟩ := o
  obtain ⟨x0_0, x0_1, x0_2, x0_3, x0_4, x0_5, x0_6, x0_7, x0_8, x0_9, x0_10, x0_11, x0_12, x0_13, x0_14, x0_15, e0⟩ := len16 (show f_ip.length = 16 from (h).len)
  subst e0
  rfl
abbrev piK : List LK := [.i .u8, .i .u8, .i .u8, .i .u8, .i .u8, .i .u8, .i .u8, .i .u8, .i .u8, .i .u8, .i .u8, .i .u8, .i .u8, .i .u8, .i .u8, .i .u8, .i .i64, .b, .b, .i .u32]
theorem pi_fits {o : PInf} (h : IsPi o) : fitsK piK (piC o) = true := by
  obtain ⟨f_ip, f_bits, f_onl, f_aut, f_life⟩ := o
  obtain ⟨x0_0, x0_1, x0_2, x0_3, x0_4, x0_5, x0_6, x0_7, x0_8, x0_9, x0_10, x0_11, x0_12, x0_13, x0_14, x0_15, e0⟩ := len16 (show f_ip.length = 16 from (h).len)
  subst e0
  rfl
theorem pi_eq {a b : PInf} (ha : IsPi a) (hb : IsPi b) : eqVs (piC a) (piC b) = decide (a = b) := by
  have l0 : a.ip.length = b.ip.length := by rw [(ha).len, (hb).len]
  rw [Bool.eq_iff_iff, decide_eq_true_eq]
  obtain ⟨a_ip, a_bits, a_onl, a_aut, a_life⟩ := a
  obtain ⟨b_ip, b_bits, b_onl, b_aut, b_life⟩ := b
  dsimp only at l0
  simp only [piC, PInf.mk.injEq]
  rw [eqVs_append _ _ _ _ (by first | rfl | assumption | (simp [pfC, ipC]; assumption))]
  rw [eqVs_pf l0]
  simp [eqVs, eqV, Bool.and_eq_true, beq_iff_eq, Bool.and_true, and_assoc, decide_eq_true_eq, List.cons_append, List.nil_append]
abbrev pisC (l : List PInf) : List Value := encL piC l
theorem pis_len {l : List PInf} (h : ∀ x ∈ l, IsPi x) : ∀ x ∈ l, (piC x).length = 20 := fun x hx => pi_len (h x hx)
theorem pis_one {l : List PInf} : (pisC l).all (·.oneCell') = true := encL_all fun x _ => pi_one x
/-! CInf -/
structure CInf where
  id : Int
  ip : List Int
  bits : Int
  cmp : Bool
  life : Int
  deriving DecidableEq
def ciC (o : CInf) : List Value := [.int .i64 o.id] ++ (pfC o.ip o.bits ++ ([.bool o.cmp, .int .u16 o.life]))
def IsCi (o : CInf) : Prop := IsIP o.ip
theorem ci_len {o : CInf} (h : IsCi o) : (ciC o).length = 20 := by
  obtain ⟨f_id, f_ip, f_bits, f_cmp, f_life⟩ := o
  obtain ⟨x0_0, x0_1, x0_2, x0_3, x0_4, x0_5, x0_6, x0_7, x0_8, x0_9, x0_10, x0_11, x0_12, x0_13, x0_14, x0_15, e0⟩ := len16 (show f_ip.length = 16 from (h).len)
  subst e0
  rfl
theorem ci_id {o : CInf} (h : IsCi o) : nth (ciC o) 0 = some (.int .i64 o.id) := by
  obtain ⟨f_id, f_ip, f_bits, f_cmp, f_life⟩ := o
  obtain ⟨x0_0, x0_1, x0_2, x0_3, x0_4, x0_5, x0_6, x0_7, x0_8, x0_9, x0_10, x0_11, x0_12, x0_13, x0_14, x0_15, e0⟩ := len16 (show f_ip.length = 16 from (h).len)
  subst e0
  rfl
theorem ci_pre {o : CInf} (h : IsCi o) : seg (ciC o) 1 17 = some (pfC o.ip o.bits) := by
  obtain ⟨f_id, f_ip, f_bits, f_cmp, f_life⟩ := o
  obtain ⟨x0_0, x0_1, x0_2, x0_3, x0_4, x0_5, x0_6, x0_7, x0_8, x0_9, x0_10, x0_11, x0_12, x0_13, x0_14, x0_15, e0⟩ := len16 (show f_ip.length = 16 from (h).len)
  subst e0
  rfl
theorem ci_one (o : CInf) : (ciC o).all (·.oneCell') = true := by
  simp [pfC, ipC, ciC, Value.oneCell']
def ciZ : List Value := [.int .i64 0, .int .u8 0, .int .u8 0, .int .u8 0, .int .u8 0, .int .u8 0, .int .u8 0, .int .u8 0, .int .u8 0, .int .u8 0, .int .u8 0, .int .u8 0, .int .u8 0, .int .u8 0, .int .u8 0, .int .u8 0, .int .u8 0, .int .i64 0, .bool false, .int .u16 0]
theorem ci_build {o : CInf} (h : IsCi o) : putAll [(0, 1), (1, 17), (18, 1), (19, 1)] ciZ [(0, [.int .i64 o.id]), (1, pfC o.ip o.bits), (2, [.bool o.cmp]), (3, [.int .u16 o.life])] = some (ciC o) := by
  obtain ⟨f_id, f_ip, f_bits, f_cmp, f_life⟩ := o
  obtain ⟨x0_0, x0_1, x0_2, x0_3, x0_4, x0_5, x0_6, x0_7, x0_8, x0_9, x0_10, x0_11, x0_12, x0_13, x0_14, x0_15, e0⟩ := len16 (show f_ip.length = 16 from (h).len)
  subst e0
  rfl
theorem ci_build1 {o : CInf} (h : IsCi o) : putAll (placesL 1 20) (zerosL ciZ (1 * 20)) [(0, ciC o)] = some (ciC o) := by
  obtain ⟨f_id, f_ip, f_bits, f_cmp, f_life⟩ := o
  obtain ⟨x0_0, x0_1, x0_2, x0_3, x0_4, x0_5, x0_6, x0_7, x0_8, x0_9, x0_10, x0_11, x0_12, x0_13, x0_14, x0_15, e0⟩ := len16 (show f_ip.length = 16 from (h).len)
  subst e0
  rfl
abbrev ciK : List LK := [.i .i64, .i .u8, .i .u8, .i .u8, .i .u8, .i .u8, .i .u8, .i .u8, .i .u8, .i .u8, .i .u8, .i .u8, .i .u8, .i .u8, .i .u8, .i .u8, .i .u8, .i .i64, .b, .i .u16]
theorem ci_fits {o : CInf} (h : IsCi o) : fitsK ciK (ciC o) = true := by
  obtain ⟨f_id, f_ip, f_bits, f_cmp, f_life⟩ := o
  obtain ⟨x0_0, x0_1, x0_2, x0_3, x0_4, x0_5, x0_6, x0_7, x0_8, x0_9, x0_10, x0_11, x0_12, x0_13, x0_14, x0_15, e0⟩ := len16 (show f_ip.length = 16 from (h).len)
  subst e0
  rfl
theorem ci_eq {a b : CInf} (ha : IsCi a) (hb : IsCi b) : eqVs (ciC a) (ciC b) = decide (a = b) := by
  have l0 : a.ip.length = b.ip.length := by rw [(ha).len, (hb).len]
  rw [Bool.eq_iff_iff, decide_eq_true_eq]
  obtain ⟨a_id, a_ip, a_bits, a_cmp, a_life⟩ := a
  obtain ⟨b_id, b_ip, b_bits, b_cmp, b_life⟩ := b
  dsimp only at l0
  simp only [ciC, CInf.mk.injEq]
  rw [eqVs_append _ _ _ _ (by first | rfl | assumption | (simp [pfC, ipC]; assumption))]
  rw [eqVs_append _ _ _ _ (by first | rfl | assumption | (simp [pfC, ipC]; assumption))]
  rw [eqVs_pf l0]
  simp [eqVs, eqV, Bool.and_eq_true, beq_iff_eq, Bool.and_true, and_assoc, decide_eq_true_eq, List.cons_append, List.nil_append]
abbrev cisC (l : List CInf) : List Value := encL ciC l
theorem cis_len {l : List CInf} (h : ∀ x ∈ l, IsCi x) : ∀ x ∈ l, (ciC x).length = 20 := fun x hx => ci_len (h x hx)
theorem cis_one {l : List CInf} : (cisC l).all (·.oneCell') = true := encL_all fun x _ => ci_one x
/-! OffH -/
structure OffH where
  rt : List Int
  ver : Int
  til : Int
  deriving DecidableEq
def ofC (o : OffH) (ps : Value) (cs : Value) : List Value := ipC o.rt ++ ([.int .i64 o.ver, .int .i64 o.til, ps, cs])
def IsOf (o : OffH) : Prop := IsIP o.rt
theorem of_len {o : OffH} (h : IsOf o) (ps : Value) (cs : Value) : (ofC o ps cs).length = 20 := by
  obtain ⟨f_rt, f_ver, f_til⟩ := o
  obtain ⟨x0_0, x0_1, x0_2, x0_3, x0_4, x0_5, x0_6, x0_7, x0_8, x0_9, x0_10, x0_11, x0_12, x0_13, x0_14, x0_15, e0⟩ := len16 (show f_rt.length = 16 from (h).len)
  subst e0
  rfl
theorem of_all {o : OffH} (h : IsOf o) (ps : Value) (cs : Value) : seg (ofC o ps cs) 0 20 = some (ofC o ps cs) := sg_all (of_len h ps cs)
theorem of_rt {o : OffH} (h : IsOf o) (ps : Value) (cs : Value) : seg (ofC o ps cs) 0 16 = some (ipC o.rt) := by
  obtain ⟨f_rt, f_ver, f_til⟩ := o
  obtain ⟨x0_0, x0_1, x0_2, x0_3, x0_4, x0_5, x0_6, x0_7, x0_8, x0_9, x0_10, x0_11, x0_12, x0_13, x0_14, x0_15, e0⟩ := len16 (show f_rt.length = 16 from (h).len)
  subst e0
  rfl
theorem of_ver {o : OffH} (h : IsOf o) (ps : Value) (cs : Value) : nth (ofC o ps cs) 16 = some (.int .i64 o.ver) := by
  obtain ⟨f_rt, f_ver, f_til⟩ := o
  obtain ⟨x0_0, x0_1, x0_2, x0_3, x0_4, x0_5, x0_6, x0_7, x0_8, x0_9, x0_10, x0_11, x0_12, x0_13, x0_14, x0_15, e0⟩ := len16 (show f_rt.length = 16 from (h).len)
  subst e0
  rfl
theorem of_til {o : OffH} (h : IsOf o) (ps : Value) (cs : Value) : nth (ofC o ps cs) 17 = some (.int .i64 o.til) := by
  obtain ⟨f_rt, f_ver, f_til⟩ := o
  obtain ⟨x0_0, x0_1, x0_2, x0_3, x0_4, x0_5, x0_6, x0_7, x0_8, x0_9, x0_10, x0_11, x0_12, x0_13, x0_14, x0_15, e0⟩ := len16 (show f_rt.length = 16 from (h).len)
  subst e0
  rfl
theorem of_put_til {o : OffH} (h : IsOf o) (ps : Value) (cs : Value) (z : Int) : put (ofC o ps cs) 17 [.int .i64 z] = some (ofC { o with til := z } ps cs) := by
  obtain ⟨f_rt, f_ver, f_til⟩ := o
  obtain ⟨x0_0, x0_1, x0_2, x0_3, x0_4, x0_5, x0_6, x0_7, x0_8, x0_9, x0_10, x0_11, x0_12, x0_13, x0_14, x0_15, e0⟩ := len16 (show f_rt.length = 16 from (h).len)
  subst e0
  rfl
theorem of_ps {o : OffH} (h : IsOf o) (ps : Value) (cs : Value) : nth (ofC o ps cs) 18 = some ps := by
  obtain ⟨f_rt, f_ver, f_til⟩ := o
  obtain ⟨x0_0, x0_1, x0_2, x0_3, x0_4, x0_5, x0_6, x0_7, x0_8, x0_9, x0_10, x0_11, x0_12, x0_13, x0_14, x0_15, e0⟩ := len16 (show f_rt.length = 16 from (h).len)
  subst e0
  rfl
theorem of_put_ps {o : OffH} (h : IsOf o) (ps : Value) (cs : Value) (z : Value) : put (ofC o ps cs) 18 [z] = some (ofC o z cs) := by
  obtain ⟨f_rt, f_ver, f_til⟩ := o
  obtain ⟨x0_0, x0_1, x0_2, x0_3, x0_4, x0_5, x0_6, x0_7, x0_8, x0_9, x0_10, x0_11, x0_12, x0_13, x0_14, x0_15, e0⟩ := len16 (show f_rt.length = 16 from (h).len)
  subst e0
  rfl
theorem of_cs {o : OffH} (h : IsOf o) (ps : Value) (cs : Value) : nth (ofC o ps cs) 19 = some cs := by
  obtain ⟨f_rt, f_ver, f_til⟩ := o
  obtain ⟨x0_0, x0_1, x0_2, x0_3, x0_4, x0_5, x0_6, x0_7, x0_8, x0_9, x0_10, x0_11, x0_12, x0_13, x0_14, x0_15, e0⟩ := len16 (show f_rt.length = 16 from (h).len)
  subst e0
  rfl
theorem of_put_cs {o : OffH} (h : IsOf o) (ps : Value) (cs : Value) (z : Value) : put (ofC o ps cs) 19 [z] = some (ofC o ps z) := by
  obtain ⟨f_rt, f_ver, f_til⟩ := o
  obtain ⟨x0_0, x0_1, x0_2, x0_3, x0_4, x0_5, x0_6, x0_7, x0_8, x0_9, x0_10, x0_11, x0_12, x0_13, x0_14, x0_15, e0⟩ := len16 (show f_rt.length = 16 from (h).len)
  subst e0
  rfl
theorem of_one (o : OffH) (ps : Value) (cs : Value) (hps : ps.oneCell' = true) (hcs : cs.oneCell' = true) : (ofC o ps cs).all (·.oneCell') = true := by
  simp only [pfC, ipC, ofC, List.all_append, List.all_cons, List.all_nil, hps, hcs]
  simp [pfC, ipC, ofC, Value.oneCell']
def ofZ : List Value := [.int .u8 0, .int .u8 0, .int .u8 0, .int .u8 0, .int .u8 0, .int .u8 0, .int .u8 0, .int .u8 0, .int .u8 0, .int .u8 0, .int .u8 0, .int .u8 0, .int .u8 0, .int .u8 0, .int .u8 0, .int .u8 0, .int .i64 0, .int .i64 0, .slice none 0 0, .slice none 0 0]
theorem of_build {o : OffH} (h : IsOf o) (ps : Value) (cs : Value) : putAll [(0, 16), (16, 1), (17, 1), (18, 1), (19, 1)] ofZ [(0, ipC o.rt), (1, [.int .i64 o.ver]), (2, [.int .i64 o.til]), (3, [ps]), (4, [cs])] = some (ofC o ps cs) := by
  obtain ⟨f_rt, f_ver, f_til⟩ := o
  obtain ⟨x0_0, x0_1, x0_2, x0_3, x0_4, x0_5, x0_6, x0_7, x0_8, x0_9, x0_10, x0_11, x0_12, x0_13, x0_14, x0_15, e0⟩ := len16 (show f_rt.length = 16 from (h).len)
  subst e0
  rfl
theorem of_build1 {o : OffH} (h : IsOf o) (ps : Value) (cs : Value) : putAll (placesL 1 20) (zerosL ofZ (1 * 20)) [(0, ofC o ps cs)] = some (ofC o ps cs) := by
  obtain ⟨f_rt, f_ver, f_til⟩ := o
  obtain ⟨x0_0, x0_1, x0_2, x0_3, x0_4, x0_5, x0_6, x0_7, x0_8, x0_9, x0_10, x0_11, x0_12, x0_13, x0_14, x0_15, e0⟩ := len16 (show f_rt.length = 16 from (h).len)
  subst e0
  rfl
end Go.Proofs.Ytainnefmobfcjaa
/-! F1 -/
namespace Go.Proofs.Ytainnefmobfcjaa
set_option linter.unusedVariables false
set_option linter.unusedSimpArgs false
open Go.RowKit
attribute [local irreducible] OpTo wpListIn Code.wpIn MW Cal
def allI (p : Nat → Bool) (n : Nat) : Bool := (List.range n).all p
theorem allI_f {p : Nat → Bool} {n i : Nat} (hi : i < n) (h : p i = false) : allI p n = false := by
  unfold allI
  rw [List.all_eq_false]
  exact ⟨i, List.mem_range.2 hi, by simp [h]⟩
theorem allI_t {p : Nat → Bool} {n : Nat} (h : ∀ i, i < n → p i = true) : allI p n = true := by
  unfold allI
  rw [List.all_eq_true]
  exact fun i hi => h i (List.mem_range.1 hi)
theorem all_f {α : Type} {q : α → Bool} {ls : List α} {i : Nat} (hi : i < ls.length) (h : q ls[i] = false) : ls.all q = false := by
  rw [List.all_eq_false]
  exact ⟨ls[i], List.getElem_mem hi, by simp [h]⟩
theorem all_t {α : Type} {q : α → Bool} {ls : List α} (h : ∀ i (hi : i < ls.length), q ls[i] = true) : ls.all q = true := by
  rw [List.all_eq_true]
  intro x hx
  obtain ⟨i, hi, rfl⟩ := List.mem_iff_getElem.1 hx
  exact h i hi
/-- an offer -/
structure Off where
  h : OffH
  ps : List PInf
  cs : List CInf
  deriving DecidableEq
def IsOff (o : Off) : Prop := IsOf o.h ∧ (∀ p ∈ o.ps, IsPi p) ∧ ∀ c ∈ o.cs, IsCi c
/-- .. with the values of its lists -/
structure OV where
  o : Off
  u : Value
  v : Value
def ovC (x : OV) : List Value := ofC x.o.h x.u x.v
def OffAt (W : World) (x : OV) : Prop := SlAt W 20 x.u x.o.ps.length (pisC x.o.ps) ∧ SlAt W 20 x.v x.o.cs.length (cisC x.o.cs)
theorem OffAt.later {W w : World} {x : OV} (h : OffAt W x) (E : Ext [] W w) : OffAt w x := ⟨h.1.later E, h.2.later E⟩
theorem SlAt.one {W : World} {sz n : Nat} {v : Value} {xs : List Value} (h : SlAt W sz v n xs) : v.oneCell' = true := by
  obtain ⟨p, cap, rfl, _⟩ := h
  rfl
theorem ov_one {W : World} {x : OV} (h : OffAt W x) : (ovC x).all (·.oneCell') = true := of_one _ _ _ h.1.one h.2.one
theorem ov_len {x : OV} (h : IsOff x.o) : (ovC x).length = 20 := of_len h.1 _ _
def validPi (p : PInf) : Bool := validP p.ip p.bits
def ctx1 (cs : List CInf) (i : Nat) : Bool := match cs[i]? with
  | none => true
  | some c => decide (0 ≤ c.id) && decide (c.id < 16) && !((cs.take i).any fun x => x.id == c.id) && validP c.ip c.bits
def hdO (o : Off) : Bool := decide (0 ≤ o.h.ver) && decide (o.h.ver ≤ 4294967295) && isTime o.h.til && decide (o.ps.length ≤ 16) && decide (o.cs.length ≤ 16)
def validO (o : Off) : Bool := hdO o && o.ps.all validPi && allI (ctx1 o.cs) o.cs.length
theorem ctx1_at {cs : List CInf} {i : Nat} (h : i < cs.length) : ctx1 cs i = (decide (0 ≤ cs[i].id) && decide (cs[i].id < 16) && !((cs.take i).any fun x => x.id == cs[i].id) && validP cs[i].ip cs[i].bits) := by
  simp [ctx1, List.getElem?_eq_getElem h]
/-- which IDs have been met -/
def usedC (seen : List CInf) : List Value := (List.range 16).map fun (k : Nat) => .bool (seen.any fun x => x.id == (k : Int))
theorem used_len (seen : List CInf) : (usedC seen).length = 16 := by simp [usedC]
theorem used_nil : usedC [] = [.bool false, .bool false, .bool false, .bool false, .bool false, .bool false, .bool false, .bool false, .bool false, .bool false, .bool false, .bool false, .bool false, .bool false, .bool false, .bool false] := rfl
theorem used_at (seen : List CInf) {id : Int} (h0 : 0 ≤ id) (h1 : id < 16) {q : Nat} (hq : q = id.toNat) : nth (usedC seen) q = some (.bool (seen.any fun x => x.id == id)) := by
  subst hq
  obtain ⟨k, rfl⟩ := Int.eq_ofNat_of_zero_le h0
  rw [nth_spec]
  simp only [usedC, Int.toNat_natCast]
  rw [List.getElem?_map, List.getElem?_range (by omega)]
  rfl
theorem used_put (seen : List CInf) (c : CInf) (h0 : 0 ≤ c.id) (h1 : c.id < 16) {q : Nat} (hq : q = c.id.toNat) : put (usedC seen) q [.bool true] = some (usedC (seen ++ [c])) := by
  subst hq
  rw [put1 _ rfl (by rw [used_len]; omega)]
  congr 1
  apply List.ext_getElem
  · simp [usedC]
  · intro i h2 h3
    rw [List.getElem_set]
    simp only [usedC, List.getElem_map, List.getElem_range, List.any_append, List.any_cons, List.any_nil, Bool.or_false]
    by_cases hi : c.id.toNat = i
    · rw [if_pos hi]
      have : (c.id == (i : Int)) = true := by simp; omega
      rw [this, Bool.or_true]
    · rw [if_neg hi]
      have : (c.id == (i : Int)) = false := by simp; omega
      rw [this, Bool.or_false]
set_option maxHeartbeats 4000000 in
theorem validOffer_c (x : OV) (hx : IsOff x.o) (W : World) (hA : OffAt W x) :
    Cal Try.prog 34 [.agg (ovC x).toArray].toArray W fun v w' => v = .bool (validO x.o) ∧ Ext [] W w' := by
  obtain ⟨⟨h, ps, cs⟩, u, v⟩ := x
  obtain ⟨hh, hps, hcs⟩ := hx
  replace hA : SlAt W 20 u ps.length (pisC ps) ∧ SlAt W 20 v cs.length (cisC cs) := hA
  dsimp only at hh hps hcs
  obtain ⟨⟨q1, cap1, rfl, hc1, hn1, hl1, hm1⟩, ⟨q2, cap2, rfl, hc2, hn2, hl2, hm2⟩⟩ := hA
  unfold validO
  dsimp only
  obtain ⟨ok, hok⟩ : ∃ ok, ok = hdO ⟨h, ps, cs⟩ := ⟨_, rfl⟩
  rw [← hok]
  have e1 := of_ver hh (.slice q1 ps.length cap1) (.slice q2 cs.length cap2)
  have e2 := of_til hh (.slice q1 ps.length cap1) (.slice q2 cs.length cap2)
  have e3 := of_ps hh (.slice q1 ps.length cap1) (.slice q2 cs.length cap2)
  have e4 := of_cs hh (.slice q1 ps.length cap1) (.slice q2 cs.length cap2)
  unfold ovC
  dsimp only
  generalize hoc : ofC h (.slice q1 ps.length cap1) (.slice q2 cs.length cap2) = oc at *
  refine fn_ofM (n := 77) [] Try.func34 rfl rfl rfl ?_
  intro a w F M hwW
  refine c_seq ?_
  refine c_region ?_
  (refine stepD rfl F rfl (o_box M (F.ev rfl) rfl ?_); clear F; clear M; intro b1 w M a F)
  refine stepD rfl F rfl (o_assign (F.ev rfl) ?_); clear F; clear a; intro a F
  refine l_nil ?_
  refine q_then ?_
  refine c_seq ?_
  refine c_seq ?_
  refine c_cut (fun a w => Frm a 77 [] [(33, .bool !ok), (1, .pointer (some ⟨b1, 0, none⟩))] ∧ (ok = true → ps.length ≤ 16 ∧ cs.length ≤ 16) ∧ Mem [] W w [(b1, .cells oc.toArray 58 (0, 0))]) ?_ ?_
  · by_cases c1 : h.ver < 0
    · obtain rfl : ok = false := by rw [hok]; simp [hdO]; omega
      with_reducible refine c_region ?_
      refine stepD rfl F rfl (o_fieldAddr (F.ev rfl) ?_); clear F; clear a; intro a F
      refine stepD rfl F rfl (o_load1 M (F.ev rfl) (by repeat (first | exact .here | apply Has.there)) (by first | assumption | rfl) ?_); clear F; clear a; intro a F
      refine stepD rfl F rfl (o_lssT (F.ev rfl) (F.ev rfl) (by omega) ?_); clear F; clear a; intro a F
      refine stepD rfl F rfl (o_move (F.ev rfl) ?_); clear F; clear a; intro a F
      refine stepOff F rfl rfl rfl rfl ?_; clear F; clear a; intro a F
      refine stepOff F rfl rfl rfl rfl ?_; clear F; clear a; intro a F
      refine stepOff F rfl rfl rfl rfl ?_; clear F; clear a; intro a F
      refine stepD rfl F rfl (o_pickT (F.ev rfl) (F.ev rfl) ?_); clear F; clear a; intro a F
      refine stepD rfl F rfl (o_move (F.ev rfl) ?_); clear F; clear a; intro a F
      refine stepOff F rfl rfl rfl rfl ?_; clear F; clear a; intro a F
      refine stepOff F rfl rfl rfl rfl ?_; clear F; clear a; intro a F
      refine stepOff F rfl rfl rfl rfl ?_; clear F; clear a; intro a F
      refine stepOff F rfl rfl rfl rfl ?_; clear F; clear a; intro a F
      refine stepD rfl F rfl (o_pickT (F.ev rfl) (F.ev rfl) ?_); clear F; clear a; intro a F
      refine stepD rfl F rfl (o_move (F.ev rfl) ?_); clear F; clear a; intro a F
      refine stepOff F rfl rfl rfl rfl ?_; clear F; clear a; intro a F
      refine stepOff F rfl rfl rfl rfl ?_; clear F; clear a; intro a F
      refine stepOff F rfl rfl rfl rfl ?_; clear F; clear a; intro a F
      refine stepOff F rfl rfl rfl rfl ?_; clear F; clear a; intro a F
      refine stepD rfl F rfl (o_pickT (F.ev rfl) (F.ev rfl) ?_); clear F; clear a; intro a F
      refine stepD rfl F rfl (o_move (F.ev rfl) ?_); clear F; clear a; intro a F
      refine stepOff F rfl rfl rfl rfl ?_; clear F; clear a; intro a F
      refine stepOff F rfl rfl rfl rfl ?_; clear F; clear a; intro a F
      refine stepOff F rfl rfl rfl rfl ?_; clear F; clear a; intro a F
      refine stepOff F rfl rfl rfl rfl ?_; clear F; clear a; intro a F
      refine stepD rfl F rfl (o_pickT (F.ev rfl) (F.ev rfl) ?_); clear F; clear a; intro a F
      with_reducible refine l_nil ?_
      exact ⟨F.only [33, 1] rfl, by simp, M⟩
    by_cases c2 : 4294967295 < h.ver
    · obtain rfl : ok = false := by rw [hok]; simp [hdO]; omega
      with_reducible refine c_region ?_
      refine stepD rfl F rfl (o_fieldAddr (F.ev rfl) ?_); clear F; clear a; intro a F
      refine stepD rfl F rfl (o_load1 M (F.ev rfl) (by repeat (first | exact .here | apply Has.there)) (by first | assumption | rfl) ?_); clear F; clear a; intro a F
      refine stepD rfl F rfl (o_lssF (F.ev rfl) (F.ev rfl) (by omega) ?_); clear F; clear a; intro a F
      refine stepD rfl F rfl (o_move (F.ev rfl) ?_); clear F; clear a; intro a F
      refine stepG rfl F rfl rfl rfl (o_fieldAddr (F.ev rfl) ?_); clear F; clear a; intro a F
      refine stepG rfl F rfl rfl rfl (o_load1 M (F.ev rfl) (by repeat (first | exact .here | apply Has.there)) (by first | assumption | rfl) ?_); clear F; clear a; intro a F
      refine stepG rfl F rfl rfl rfl (o_gtrT (F.ev rfl) (F.ev rfl) (by omega) ?_); clear F; clear a; intro a F
      refine stepD rfl F rfl (o_pickF (F.ev rfl) (F.ev rfl) ?_); clear F; clear a; intro a F
      refine stepD rfl F rfl (o_move (F.ev rfl) ?_); clear F; clear a; intro a F
      refine stepOff F rfl rfl rfl rfl ?_; clear F; clear a; intro a F
      refine stepOff F rfl rfl rfl rfl ?_; clear F; clear a; intro a F
      refine stepOff F rfl rfl rfl rfl ?_; clear F; clear a; intro a F
      refine stepOff F rfl rfl rfl rfl ?_; clear F; clear a; intro a F
      refine stepD rfl F rfl (o_pickT (F.ev rfl) (F.ev rfl) ?_); clear F; clear a; intro a F
      refine stepD rfl F rfl (o_move (F.ev rfl) ?_); clear F; clear a; intro a F
      refine stepOff F rfl rfl rfl rfl ?_; clear F; clear a; intro a F
      refine stepOff F rfl rfl rfl rfl ?_; clear F; clear a; intro a F
      refine stepOff F rfl rfl rfl rfl ?_; clear F; clear a; intro a F
      refine stepOff F rfl rfl rfl rfl ?_; clear F; clear a; intro a F
      refine stepD rfl F rfl (o_pickT (F.ev rfl) (F.ev rfl) ?_); clear F; clear a; intro a F
      refine stepD rfl F rfl (o_move (F.ev rfl) ?_); clear F; clear a; intro a F
      refine stepOff F rfl rfl rfl rfl ?_; clear F; clear a; intro a F
      refine stepOff F rfl rfl rfl rfl ?_; clear F; clear a; intro a F
      refine stepOff F rfl rfl rfl rfl ?_; clear F; clear a; intro a F
      refine stepOff F rfl rfl rfl rfl ?_; clear F; clear a; intro a F
      refine stepD rfl F rfl (o_pickT (F.ev rfl) (F.ev rfl) ?_); clear F; clear a; intro a F
      with_reducible refine l_nil ?_
      exact ⟨F.only [33, 1] rfl, by simp, M⟩
    cases c3 : isTime h.til
    · obtain rfl : ok = false := by rw [hok]; simp [hdO, c3]
      with_reducible refine c_region ?_
      refine stepD rfl F rfl (o_fieldAddr (F.ev rfl) ?_); clear F; clear a; intro a F
      refine stepD rfl F rfl (o_load1 M (F.ev rfl) (by repeat (first | exact .here | apply Has.there)) (by first | assumption | rfl) ?_); clear F; clear a; intro a F
      refine stepD rfl F rfl (o_lssF (F.ev rfl) (F.ev rfl) (by omega) ?_); clear F; clear a; intro a F
      refine stepD rfl F rfl (o_move (F.ev rfl) ?_); clear F; clear a; intro a F
      refine stepG rfl F rfl rfl rfl (o_fieldAddr (F.ev rfl) ?_); clear F; clear a; intro a F
      refine stepG rfl F rfl rfl rfl (o_load1 M (F.ev rfl) (by repeat (first | exact .here | apply Has.there)) (by first | assumption | rfl) ?_); clear F; clear a; intro a F
      refine stepG rfl F rfl rfl rfl (o_gtrF (F.ev rfl) (F.ev rfl) (by omega) ?_); clear F; clear a; intro a F
      refine stepD rfl F rfl (o_pickF (F.ev rfl) (F.ev rfl) ?_); clear F; clear a; intro a F
      refine stepD rfl F rfl (o_move (F.ev rfl) ?_); clear F; clear a; intro a F
      refine stepG rfl F rfl rfl rfl (o_fieldAddr (F.ev rfl) ?_); clear F; clear a; intro a F
      refine stepG rfl F rfl rfl rfl (o_load1 M (F.ev rfl) (by repeat (first | exact .here | apply Has.there)) (by first | assumption | rfl) ?_); clear F; clear a; intro a F
      (refine stepG rfl F rfl rfl rfl (o_call (F.ev rfl) (F.evs rfl) (Cal.mono (isTime_c h.til _) ?_)); clear F; clear a; rintro _ w ⟨rfl, hE⟩ a F; replace M := M.later hE; clear hE)
      rw [c3] at F
      refine stepG rfl F rfl rfl rfl (o_not (F.ev rfl) ?_); clear F; clear a; intro a F
      refine stepD rfl F rfl (o_pickF (F.ev rfl) (F.ev rfl) ?_); clear F; clear a; intro a F
      refine stepD rfl F rfl (o_move (F.ev rfl) ?_); clear F; clear a; intro a F
      refine stepOff F rfl rfl rfl rfl ?_; clear F; clear a; intro a F
      refine stepOff F rfl rfl rfl rfl ?_; clear F; clear a; intro a F
      refine stepOff F rfl rfl rfl rfl ?_; clear F; clear a; intro a F
      refine stepOff F rfl rfl rfl rfl ?_; clear F; clear a; intro a F
      refine stepD rfl F rfl (o_pickT (F.ev rfl) (F.ev rfl) ?_); clear F; clear a; intro a F
      refine stepD rfl F rfl (o_move (F.ev rfl) ?_); clear F; clear a; intro a F
      refine stepOff F rfl rfl rfl rfl ?_; clear F; clear a; intro a F
      refine stepOff F rfl rfl rfl rfl ?_; clear F; clear a; intro a F
      refine stepOff F rfl rfl rfl rfl ?_; clear F; clear a; intro a F
      refine stepOff F rfl rfl rfl rfl ?_; clear F; clear a; intro a F
      refine stepD rfl F rfl (o_pickT (F.ev rfl) (F.ev rfl) ?_); clear F; clear a; intro a F
      with_reducible refine l_nil ?_
      exact ⟨F.only [33, 1] rfl, by simp, M⟩
    by_cases c4 : 16 < ps.length
    · obtain rfl : ok = false := by rw [hok]; simp [hdO]; omega
      with_reducible refine c_region ?_
      refine stepD rfl F rfl (o_fieldAddr (F.ev rfl) ?_); clear F; clear a; intro a F
      refine stepD rfl F rfl (o_load1 M (F.ev rfl) (by repeat (first | exact .here | apply Has.there)) (by first | assumption | rfl) ?_); clear F; clear a; intro a F
      refine stepD rfl F rfl (o_lssF (F.ev rfl) (F.ev rfl) (by omega) ?_); clear F; clear a; intro a F
      refine stepD rfl F rfl (o_move (F.ev rfl) ?_); clear F; clear a; intro a F
      refine stepG rfl F rfl rfl rfl (o_fieldAddr (F.ev rfl) ?_); clear F; clear a; intro a F
      refine stepG rfl F rfl rfl rfl (o_load1 M (F.ev rfl) (by repeat (first | exact .here | apply Has.there)) (by first | assumption | rfl) ?_); clear F; clear a; intro a F
      refine stepG rfl F rfl rfl rfl (o_gtrF (F.ev rfl) (F.ev rfl) (by omega) ?_); clear F; clear a; intro a F
      refine stepD rfl F rfl (o_pickF (F.ev rfl) (F.ev rfl) ?_); clear F; clear a; intro a F
      refine stepD rfl F rfl (o_move (F.ev rfl) ?_); clear F; clear a; intro a F
      refine stepG rfl F rfl rfl rfl (o_fieldAddr (F.ev rfl) ?_); clear F; clear a; intro a F
      refine stepG rfl F rfl rfl rfl (o_load1 M (F.ev rfl) (by repeat (first | exact .here | apply Has.there)) (by first | assumption | rfl) ?_); clear F; clear a; intro a F
      (refine stepG rfl F rfl rfl rfl (o_call (F.ev rfl) (F.evs rfl) (Cal.mono (isTime_c h.til _) ?_)); clear F; clear a; rintro _ w ⟨rfl, hE⟩ a F; replace M := M.later hE; clear hE)
      rw [c3] at F
      refine stepG rfl F rfl rfl rfl (o_not (F.ev rfl) ?_); clear F; clear a; intro a F
      refine stepD rfl F rfl (o_pickF (F.ev rfl) (F.ev rfl) ?_); clear F; clear a; intro a F
      refine stepD rfl F rfl (o_move (F.ev rfl) ?_); clear F; clear a; intro a F
      refine stepG rfl F rfl rfl rfl (o_fieldAddr (F.ev rfl) ?_); clear F; clear a; intro a F
      refine stepG rfl F rfl rfl rfl (o_load1 M (F.ev rfl) (by repeat (first | exact .here | apply Has.there)) (by first | assumption | rfl) ?_); clear F; clear a; intro a F
      refine stepG rfl F rfl rfl rfl (o_lenSl (F.ev rfl) ?_); clear F; clear a; intro a F
      refine stepG rfl F rfl rfl rfl (o_gtrT (F.ev rfl) (F.ev rfl) (by omega) ?_); clear F; clear a; intro a F
      refine stepD rfl F rfl (o_pickF (F.ev rfl) (F.ev rfl) ?_); clear F; clear a; intro a F
      refine stepD rfl F rfl (o_move (F.ev rfl) ?_); clear F; clear a; intro a F
      refine stepOff F rfl rfl rfl rfl ?_; clear F; clear a; intro a F
      refine stepOff F rfl rfl rfl rfl ?_; clear F; clear a; intro a F
      refine stepOff F rfl rfl rfl rfl ?_; clear F; clear a; intro a F
      refine stepOff F rfl rfl rfl rfl ?_; clear F; clear a; intro a F
      refine stepD rfl F rfl (o_pickT (F.ev rfl) (F.ev rfl) ?_); clear F; clear a; intro a F
      with_reducible refine l_nil ?_
      exact ⟨F.only [33, 1] rfl, by simp, M⟩
    by_cases c5 : 16 < cs.length
    · obtain rfl : ok = false := by rw [hok]; simp [hdO]; omega
      with_reducible refine c_region ?_
      refine stepD rfl F rfl (o_fieldAddr (F.ev rfl) ?_); clear F; clear a; intro a F
      refine stepD rfl F rfl (o_load1 M (F.ev rfl) (by repeat (first | exact .here | apply Has.there)) (by first | assumption | rfl) ?_); clear F; clear a; intro a F
      refine stepD rfl F rfl (o_lssF (F.ev rfl) (F.ev rfl) (by omega) ?_); clear F; clear a; intro a F
      refine stepD rfl F rfl (o_move (F.ev rfl) ?_); clear F; clear a; intro a F
      refine stepG rfl F rfl rfl rfl (o_fieldAddr (F.ev rfl) ?_); clear F; clear a; intro a F
      refine stepG rfl F rfl rfl rfl (o_load1 M (F.ev rfl) (by repeat (first | exact .here | apply Has.there)) (by first | assumption | rfl) ?_); clear F; clear a; intro a F
      refine stepG rfl F rfl rfl rfl (o_gtrF (F.ev rfl) (F.ev rfl) (by omega) ?_); clear F; clear a; intro a F
      refine stepD rfl F rfl (o_pickF (F.ev rfl) (F.ev rfl) ?_); clear F; clear a; intro a F
      refine stepD rfl F rfl (o_move (F.ev rfl) ?_); clear F; clear a; intro a F
      refine stepG rfl F rfl rfl rfl (o_fieldAddr (F.ev rfl) ?_); clear F; clear a; intro a F
      refine stepG rfl F rfl rfl rfl (o_load1 M (F.ev rfl) (by repeat (first | exact .here | apply Has.there)) (by first | assumption | rfl) ?_); clear F; clear a; intro a F
      (refine stepG rfl F rfl rfl rfl (o_call (F.ev rfl) (F.evs rfl) (Cal.mono (isTime_c h.til _) ?_)); clear F; clear a; rintro _ w ⟨rfl, hE⟩ a F; replace M := M.later hE; clear hE)
      rw [c3] at F
      refine stepG rfl F rfl rfl rfl (o_not (F.ev rfl) ?_); clear F; clear a; intro a F
      refine stepD rfl F rfl (o_pickF (F.ev rfl) (F.ev rfl) ?_); clear F; clear a; intro a F
      refine stepD rfl F rfl (o_move (F.ev rfl) ?_); clear F; clear a; intro a F
      refine stepG rfl F rfl rfl rfl (o_fieldAddr (F.ev rfl) ?_); clear F; clear a; intro a F
      refine stepG rfl F rfl rfl rfl (o_load1 M (F.ev rfl) (by repeat (first | exact .here | apply Has.there)) (by first | assumption | rfl) ?_); clear F; clear a; intro a F
      refine stepG rfl F rfl rfl rfl (o_lenSl (F.ev rfl) ?_); clear F; clear a; intro a F
      refine stepG rfl F rfl rfl rfl (o_gtrF (F.ev rfl) (F.ev rfl) (by omega) ?_); clear F; clear a; intro a F
      refine stepD rfl F rfl (o_pickF (F.ev rfl) (F.ev rfl) ?_); clear F; clear a; intro a F
      refine stepD rfl F rfl (o_move (F.ev rfl) ?_); clear F; clear a; intro a F
      refine stepG rfl F rfl rfl rfl (o_fieldAddr (F.ev rfl) ?_); clear F; clear a; intro a F
      refine stepG rfl F rfl rfl rfl (o_load1 M (F.ev rfl) (by repeat (first | exact .here | apply Has.there)) (by first | assumption | rfl) ?_); clear F; clear a; intro a F
      refine stepG rfl F rfl rfl rfl (o_lenSl (F.ev rfl) ?_); clear F; clear a; intro a F
      refine stepG rfl F rfl rfl rfl (o_gtrT (F.ev rfl) (F.ev rfl) (by omega) ?_); clear F; clear a; intro a F
      refine stepD rfl F rfl (o_pickF (F.ev rfl) (F.ev rfl) ?_); clear F; clear a; intro a F
      with_reducible refine l_nil ?_
      exact ⟨F.only [33, 1] rfl, by simp, M⟩
    · obtain rfl : ok = true := by rw [hok]; simp [hdO, c3]; omega
      with_reducible refine c_region ?_
      refine stepD rfl F rfl (o_fieldAddr (F.ev rfl) ?_); clear F; clear a; intro a F
      refine stepD rfl F rfl (o_load1 M (F.ev rfl) (by repeat (first | exact .here | apply Has.there)) (by first | assumption | rfl) ?_); clear F; clear a; intro a F
      refine stepD rfl F rfl (o_lssF (F.ev rfl) (F.ev rfl) (by omega) ?_); clear F; clear a; intro a F
      refine stepD rfl F rfl (o_move (F.ev rfl) ?_); clear F; clear a; intro a F
      refine stepG rfl F rfl rfl rfl (o_fieldAddr (F.ev rfl) ?_); clear F; clear a; intro a F
      refine stepG rfl F rfl rfl rfl (o_load1 M (F.ev rfl) (by repeat (first | exact .here | apply Has.there)) (by first | assumption | rfl) ?_); clear F; clear a; intro a F
      refine stepG rfl F rfl rfl rfl (o_gtrF (F.ev rfl) (F.ev rfl) (by omega) ?_); clear F; clear a; intro a F
      refine stepD rfl F rfl (o_pickF (F.ev rfl) (F.ev rfl) ?_); clear F; clear a; intro a F
      refine stepD rfl F rfl (o_move (F.ev rfl) ?_); clear F; clear a; intro a F
      refine stepG rfl F rfl rfl rfl (o_fieldAddr (F.ev rfl) ?_); clear F; clear a; intro a F
      refine stepG rfl F rfl rfl rfl (o_load1 M (F.ev rfl) (by repeat (first | exact .here | apply Has.there)) (by first | assumption | rfl) ?_); clear F; clear a; intro a F
      (refine stepG rfl F rfl rfl rfl (o_call (F.ev rfl) (F.evs rfl) (Cal.mono (isTime_c h.til _) ?_)); clear F; clear a; rintro _ w ⟨rfl, hE⟩ a F; replace M := M.later hE; clear hE)
      rw [c3] at F
      refine stepG rfl F rfl rfl rfl (o_not (F.ev rfl) ?_); clear F; clear a; intro a F
      refine stepD rfl F rfl (o_pickF (F.ev rfl) (F.ev rfl) ?_); clear F; clear a; intro a F
      refine stepD rfl F rfl (o_move (F.ev rfl) ?_); clear F; clear a; intro a F
      refine stepG rfl F rfl rfl rfl (o_fieldAddr (F.ev rfl) ?_); clear F; clear a; intro a F
      refine stepG rfl F rfl rfl rfl (o_load1 M (F.ev rfl) (by repeat (first | exact .here | apply Has.there)) (by first | assumption | rfl) ?_); clear F; clear a; intro a F
      refine stepG rfl F rfl rfl rfl (o_lenSl (F.ev rfl) ?_); clear F; clear a; intro a F
      refine stepG rfl F rfl rfl rfl (o_gtrF (F.ev rfl) (F.ev rfl) (by omega) ?_); clear F; clear a; intro a F
      refine stepD rfl F rfl (o_pickF (F.ev rfl) (F.ev rfl) ?_); clear F; clear a; intro a F
      refine stepD rfl F rfl (o_move (F.ev rfl) ?_); clear F; clear a; intro a F
      refine stepG rfl F rfl rfl rfl (o_fieldAddr (F.ev rfl) ?_); clear F; clear a; intro a F
      refine stepG rfl F rfl rfl rfl (o_load1 M (F.ev rfl) (by repeat (first | exact .here | apply Has.there)) (by first | assumption | rfl) ?_); clear F; clear a; intro a F
      refine stepG rfl F rfl rfl rfl (o_lenSl (F.ev rfl) ?_); clear F; clear a; intro a F
      refine stepG rfl F rfl rfl rfl (o_gtrF (F.ev rfl) (F.ev rfl) (by omega) ?_); clear F; clear a; intro a F
      refine stepD rfl F rfl (o_pickF (F.ev rfl) (F.ev rfl) ?_); clear F; clear a; intro a F
      with_reducible refine l_nil ?_
      exact ⟨F.only [33, 1] rfl, by simp; omega, M⟩
  · clear F M a w
    rintro a w ⟨F, hle, M⟩
    clear hok
    cases ok
    · with_reducible refine q_then ?_
      refine c_true F rfl rfl ?_
      with_reducible refine c_seq ?_
      with_reducible refine c_region ?_
      refine stepD rfl F rfl (o_assign (F.ev rfl) ?_); clear F; clear a; intro a F
      with_reducible refine l_nil ?_
      with_reducible refine q_then ?_
      with_reducible refine c_ret ?_
      with_reducible refine q_thenR ?_
      refine p_ret F rfl (.cons (.tmp (F.ev rfl)) .nil) ?_
      exact ⟨by simp [oneOr], M.ext⟩
    · obtain ⟨hp16, hc16⟩ := hle rfl
      simp only [Bool.true_and]
      with_reducible refine q_then ?_
      refine c_false F rfl rfl ?_
      with_reducible refine c_skip ?_
      with_reducible refine q_then ?_
      with_reducible refine c_seq ?_
      with_reducible refine c_seq ?_
      with_reducible refine c_region ?_
      refine stepD rfl F rfl (o_fieldAddr (F.ev rfl) ?_); clear F; clear a; intro a F
      refine stepD rfl F rfl (o_load1 M (F.ev rfl) (by repeat (first | exact .here | apply Has.there)) (by first | assumption | rfl) ?_); clear F; clear a; intro a F
      refine stepD rfl F rfl (o_lenSl (F.ev rfl) ?_); clear F; clear a; intro a F
      refine stepD rfl F rfl (o_move (F.ev rfl) ?_); clear F; clear a; intro a F
      with_reducible refine l_nil ?_
      with_reducible refine q_then ?_
      with_reducible refine c_block ?_
      refine c_loop (fun m a w => ∃ i : Nat, m = ps.length - i ∧ i ≤ ps.length ∧ (∀ j (hj : j < i) (hl : j < ps.length), validPi ps[j] = true) ∧ Frm a 77 [] [(37, .int .i64 i), (36, .int .i64 ps.length), (35, .slice q1 ps.length cap1), (1, .pointer (some ⟨b1, 0, none⟩))] ∧ Mem [] W w [(b1, .cells oc.toArray 58 (0, 0))]) ps.length ⟨0, rfl, by omega, by omega, F.only [37, 36, 35, 1] rfl, M⟩ ?_
      clear F M
      rintro m a w ⟨i, hm, hi, hv, F, M⟩
      by_cases hlt : i < ps.length
      · obtain ⟨b, o, cs', t, fz, rfl, hb, hs⟩ := hm1 (by omega)
        obtain ⟨p, hp0⟩ : ∃ p, p = ps[i] := ⟨_, rfl⟩
        have hpi : IsPi p := by rw [hp0]; exact hps _ (List.getElem_mem hlt)
        have f1 : seg cs' (o + (i : Int).toNat * 20) 20 = some (piC p) := by rw [hp0]; exact seg_el (pis_len hps) hs hlt (by omega)
        have f2 := pi_pre hpi
        with_reducible refine c_seq ?_
        with_reducible refine c_region ?_
        refine stepD rfl F rfl (o_lssT (F.ev rfl) (F.ev rfl) (by omega) ?_); clear F; clear a; intro a F
        with_reducible refine l_nil ?_
        with_reducible refine q_then ?_
        with_reducible refine c_seq ?_
        refine c_true F rfl rfl ?_
        with_reducible refine c_skip ?_
        with_reducible refine q_then ?_
        with_reducible refine c_seq ?_
        with_reducible refine c_block ?_
        with_reducible refine c_seq ?_
        with_reducible refine c_region ?_
        refine stepD rfl F rfl (o_indexSl (F.ev rfl) (F.ev rfl) (by omega) (by omega) ?_); clear F; clear a; intro a F
        refine stepD rfl F rfl (o_loadWA M (F.ev rfl) (by assumption) (by first | assumption | rfl) ?_); clear F; clear a; intro a F
        (refine stepD rfl F rfl (o_alloc M ?_); clear F; clear M; intro b4 w M a F)
        (refine stepN rfl F (o_storeA M (F.ev rfl) (F.ev rfl) (pi_len hpi) (pi_one _)  (by repeat (first | exact .here | apply Has.there))  (put_all (by rw [pi_len hpi]; rfl)) (by repeat (first | exact .here | apply Upd.there)) ?_); clear F; clear M; intro w M a F)
        with_reducible refine l_nil ?_
        with_reducible refine q_then ?_
        with_reducible refine c_seq ?_
        with_reducible refine c_region ?_
        refine stepD rfl F rfl (o_fieldAddr (F.ev rfl) ?_); clear F; clear a; intro a F
        refine stepD rfl F rfl (o_loadA M (F.ev rfl) (by repeat (first | exact .here | apply Has.there)) (by first | assumption | rfl) ?_); clear F; clear a; intro a F
        (refine stepD rfl F rfl (o_call (F.ev rfl) (F.evs rfl) (Cal.mono (validPrefix_c p.ip p.bits hpi.len _) ?_)); clear F; clear a; rintro _ w ⟨rfl, hE⟩ a F; replace M := M.later hE; clear hE)
        cases hvp : validP p.ip p.bits
        · rw [hvp] at F
          have : ps.all validPi = false := all_f hlt (by rw [← hp0]; exact hvp)
          rw [this, Bool.false_and]
          refine stepD rfl F rfl (o_not (F.ev rfl) ?_); clear F; clear a; intro a F
          with_reducible refine l_nil ?_
          with_reducible refine q_then ?_
          refine c_true F rfl rfl ?_
          with_reducible refine c_seq ?_
          with_reducible refine c_region ?_
          refine stepD rfl F rfl (o_assign (F.ev rfl) ?_); clear F; clear a; intro a F
          with_reducible refine l_nil ?_
          with_reducible refine q_then ?_
          with_reducible refine c_ret ?_
          with_reducible refine q_inBR ?_
          with_reducible refine q_thenR ?_
          with_reducible refine q_thenR ?_
          with_reducible refine q_inBR ?_
          with_reducible refine q_thenR ?_
          refine p_ret F rfl (.cons (.tmp (F.ev rfl)) .nil) ?_
          exact ⟨rfl, M.ext⟩
        · rw [hvp] at F
          refine stepD rfl F rfl (o_not (F.ev rfl) ?_); clear F; clear a; intro a F
          with_reducible refine l_nil ?_
          with_reducible refine q_then ?_
          refine c_false F rfl rfl ?_
          with_reducible refine c_skip ?_
          with_reducible refine q_inB ?_
          with_reducible refine q_then ?_
          with_reducible refine c_region ?_
          refine stepD rfl F rfl (o_add (F.ev rfl) (F.ev rfl) (w_i64 (by omega) (by omega)) ?_); clear F; clear a; intro a F
          refine stepD rfl F rfl (o_move (F.ev rfl) ?_); clear F; clear a; intro a F
          with_reducible refine l_nil ?_
          with_reducible refine q_then ?_
          exact ⟨_, by omega, i + 1, rfl, by omega, fun j hj hl => by
            rcases Nat.lt_or_ge j i with h1 | h1
            · exact hv j h1 hl
            · obtain rfl : j = i := by omega
              rw [← hp0]; exact hvp, F.only [37, 36, 35, 1] rfl, M.sub (.cons _ (.refl _))⟩
      · obtain rfl : i = ps.length := by omega
        have : ps.all validPi = true := all_t fun j hj => hv j hj hj
        rw [this, Bool.true_and]
        with_reducible refine c_seq ?_
        with_reducible refine c_region ?_
        refine stepD rfl F rfl (o_lssF (F.ev rfl) (F.ev rfl) (by omega) ?_); clear F; clear a; intro a F
        with_reducible refine l_nil ?_
        with_reducible refine q_then ?_
        with_reducible refine c_seq ?_
        refine c_false F rfl rfl ?_
        with_reducible refine c_exit ?_
        with_reducible refine q_thenX ?_
        with_reducible refine q_thenX ?_
        with_reducible refine q_inBX ?_
        with_reducible refine q_then ?_
        with_reducible refine c_seq ?_
        with_reducible refine c_region ?_
        (refine stepD rfl F rfl (o_alloc M ?_); clear F; clear M; intro b5 w M a F)
        with_reducible refine l_nil ?_
        with_reducible refine q_then ?_
        with_reducible refine c_seq ?_
        with_reducible refine c_seq ?_
        with_reducible refine c_region ?_
        refine stepD rfl F rfl (o_fieldAddr (F.ev rfl) ?_); clear F; clear a; intro a F
        refine stepD rfl F rfl (o_load1 M (F.ev rfl) (by repeat (first | exact .here | apply Has.there)) (by first | assumption | rfl) ?_); clear F; clear a; intro a F
        refine stepD rfl F rfl (o_lenSl (F.ev rfl) ?_); clear F; clear a; intro a F
        refine stepD rfl F rfl (o_move (F.ev rfl) ?_); clear F; clear a; intro a F
        with_reducible refine l_nil ?_
        with_reducible refine q_then ?_
        with_reducible refine c_block ?_
        rw [← used_nil] at M
        refine c_loop (fun m a w => ∃ i : Nat, m = cs.length - i ∧ i ≤ cs.length ∧ (∀ j, j < i → ctx1 cs j = true) ∧ Frm a 77 [] [(49, .int .i64 i), (48, .int .i64 cs.length), (47, .slice q2 cs.length cap2), (5, .pointer (some ⟨b5, 0, none⟩)), (1, .pointer (some ⟨b1, 0, none⟩))] ∧ Mem [] W w [(b5, .cells (usedC (cs.take i)).toArray 120 (0, 0)), (b1, .cells oc.toArray 58 (0, 0))]) cs.length ⟨0, rfl, by omega, by omega, F.only [49, 48, 47, 5, 1] rfl, M⟩ ?_
        clear F M
        rintro m a w ⟨i, hm, hi, hv2, F, M⟩
        by_cases hlt : i < cs.length
        · obtain ⟨b, o, cs', t, fz, rfl, hb, hs⟩ := hm2 (by omega)
          obtain ⟨c, hc0⟩ : ∃ c, c = cs[i] := ⟨_, rfl⟩
          have hci : IsCi c := by rw [hc0]; exact hcs _ (List.getElem_mem hlt)
          have f1 : seg cs' (o + (i : Int).toNat * 20) 20 = some (ciC c) := by rw [hc0]; exact seg_el (cis_len hcs) hs hlt (by omega)
          have f2 := ci_id hci
          have f3 := ci_pre hci
          have hct := ctx1_at hlt
          rw [← hc0] at hct
          with_reducible refine c_seq ?_
          with_reducible refine c_region ?_
          refine stepD rfl F rfl (o_lssT (F.ev rfl) (F.ev rfl) (by omega) ?_); clear F; clear a; intro a F
          with_reducible refine l_nil ?_
          with_reducible refine q_then ?_
          with_reducible refine c_seq ?_
          refine c_true F rfl rfl ?_
          with_reducible refine c_skip ?_
          with_reducible refine q_then ?_
          with_reducible refine c_seq ?_
          with_reducible refine c_block ?_
          with_reducible refine c_seq ?_
          with_reducible refine c_region ?_
          refine stepD rfl F rfl (o_indexSl (F.ev rfl) (F.ev rfl) (by omega) (by omega) ?_); clear F; clear a; intro a F
          refine stepD rfl F rfl (o_loadWA M (F.ev rfl) (by assumption) (by first | assumption | rfl) ?_); clear F; clear a; intro a F
          (refine stepD rfl F rfl (o_alloc M ?_); clear F; clear M; intro b7 w M a F)
          (refine stepN rfl F (o_storeA M (F.ev rfl) (F.ev rfl) (ci_len hci) (ci_one _)  (by repeat (first | exact .here | apply Has.there))  (put_all (by rw [ci_len hci]; rfl)) (by repeat (first | exact .here | apply Upd.there)) ?_); clear F; clear M; intro w M a F)
          by_cases c1 : c.id < 0
          · have : allI (ctx1 cs) cs.length = false := allI_f hlt (by rw [hct, decide_eq_false (by omega)]; rfl)
            rw [this]
            with_reducible refine l_nil ?_
            with_reducible refine q_then ?_
            with_reducible refine c_seq ?_
            with_reducible refine c_seq ?_
            with_reducible refine c_region ?_
            refine stepD rfl F rfl (o_fieldAddr (F.ev rfl) ?_); clear F; clear a; intro a F
            refine stepD rfl F rfl (o_load1 M (F.ev rfl) (by repeat (first | exact .here | apply Has.there)) (by first | assumption | rfl) ?_); clear F; clear a; intro a F
            refine stepD rfl F rfl (o_lssT (F.ev rfl) (F.ev rfl) (by omega) ?_); clear F; clear a; intro a F
            refine stepD rfl F rfl (o_move (F.ev rfl) ?_); clear F; clear a; intro a F
            refine stepOff F rfl rfl rfl rfl ?_; clear F; clear a; intro a F
            refine stepOff F rfl rfl rfl rfl ?_; clear F; clear a; intro a F
            refine stepOff F rfl rfl rfl rfl ?_; clear F; clear a; intro a F
            refine stepD rfl F rfl (o_pickT (F.ev rfl) (F.ev rfl) ?_); clear F; clear a; intro a F
            refine stepD rfl F rfl (o_move (F.ev rfl) ?_); clear F; clear a; intro a F
            refine stepOff F rfl rfl rfl rfl ?_; clear F; clear a; intro a F
            refine stepOff F rfl rfl rfl rfl ?_; clear F; clear a; intro a F
            refine stepOff F rfl rfl rfl rfl ?_; clear F; clear a; intro a F
            refine stepOff F rfl rfl rfl rfl ?_; clear F; clear a; intro a F
            refine stepD rfl F rfl (o_pickT (F.ev rfl) (F.ev rfl) ?_); clear F; clear a; intro a F
            refine stepD rfl F rfl (o_move (F.ev rfl) ?_); clear F; clear a; intro a F
            refine stepOff F rfl rfl rfl rfl ?_; clear F; clear a; intro a F
            refine stepOff F rfl rfl rfl rfl ?_; clear F; clear a; intro a F
            refine stepOff F rfl rfl rfl rfl ?_; clear F; clear a; intro a F
            refine stepOff F rfl rfl rfl rfl ?_; clear F; clear a; intro a F
            refine stepD rfl F rfl (o_pickT (F.ev rfl) (F.ev rfl) ?_); clear F; clear a; intro a F
            with_reducible refine l_nil ?_
            with_reducible refine q_then ?_
            refine c_true F rfl rfl ?_
            with_reducible refine c_seq ?_
            with_reducible refine c_region ?_
            refine stepD rfl F rfl (o_assign (F.ev rfl) ?_); clear F; clear a; intro a F
            with_reducible refine l_nil ?_
            with_reducible refine q_then ?_
            with_reducible refine c_ret ?_
            with_reducible refine q_thenR ?_
            with_reducible refine q_inBR ?_
            with_reducible refine q_thenR ?_
            with_reducible refine q_thenR ?_
            with_reducible refine q_inBR ?_
            with_reducible refine q_thenR ?_
            refine p_ret F rfl (.cons (.tmp (F.ev rfl)) .nil) ?_
            exact ⟨rfl, M.ext⟩
          by_cases c2 : 16 ≤ c.id
          · have : allI (ctx1 cs) cs.length = false := allI_f hlt (by rw [hct, decide_eq_false (show ¬ c.id < 16 by omega)]; simp)
            rw [this]
            with_reducible refine l_nil ?_
            with_reducible refine q_then ?_
            with_reducible refine c_seq ?_
            with_reducible refine c_seq ?_
            with_reducible refine c_region ?_
            refine stepD rfl F rfl (o_fieldAddr (F.ev rfl) ?_); clear F; clear a; intro a F
            refine stepD rfl F rfl (o_load1 M (F.ev rfl) (by repeat (first | exact .here | apply Has.there)) (by first | assumption | rfl) ?_); clear F; clear a; intro a F
            refine stepD rfl F rfl (o_lssF (F.ev rfl) (F.ev rfl) (by omega) ?_); clear F; clear a; intro a F
            refine stepD rfl F rfl (o_move (F.ev rfl) ?_); clear F; clear a; intro a F
            refine stepG rfl F rfl rfl rfl (o_fieldAddr (F.ev rfl) ?_); clear F; clear a; intro a F
            refine stepG rfl F rfl rfl rfl (o_load1 M (F.ev rfl) (by repeat (first | exact .here | apply Has.there)) (by first | assumption | rfl) ?_); clear F; clear a; intro a F
            refine stepG rfl F rfl rfl rfl (o_geqT (F.ev rfl) (F.ev rfl) (by omega) ?_); clear F; clear a; intro a F
            refine stepD rfl F rfl (o_pickF (F.ev rfl) (F.ev rfl) ?_); clear F; clear a; intro a F
            refine stepD rfl F rfl (o_move (F.ev rfl) ?_); clear F; clear a; intro a F
            refine stepOff F rfl rfl rfl rfl ?_; clear F; clear a; intro a F
            refine stepOff F rfl rfl rfl rfl ?_; clear F; clear a; intro a F
            refine stepOff F rfl rfl rfl rfl ?_; clear F; clear a; intro a F
            refine stepOff F rfl rfl rfl rfl ?_; clear F; clear a; intro a F
            refine stepD rfl F rfl (o_pickT (F.ev rfl) (F.ev rfl) ?_); clear F; clear a; intro a F
            refine stepD rfl F rfl (o_move (F.ev rfl) ?_); clear F; clear a; intro a F
            refine stepOff F rfl rfl rfl rfl ?_; clear F; clear a; intro a F
            refine stepOff F rfl rfl rfl rfl ?_; clear F; clear a; intro a F
            refine stepOff F rfl rfl rfl rfl ?_; clear F; clear a; intro a F
            refine stepOff F rfl rfl rfl rfl ?_; clear F; clear a; intro a F
            refine stepD rfl F rfl (o_pickT (F.ev rfl) (F.ev rfl) ?_); clear F; clear a; intro a F
            with_reducible refine l_nil ?_
            with_reducible refine q_then ?_
            refine c_true F rfl rfl ?_
            with_reducible refine c_seq ?_
            with_reducible refine c_region ?_
            refine stepD rfl F rfl (o_assign (F.ev rfl) ?_); clear F; clear a; intro a F
            with_reducible refine l_nil ?_
            with_reducible refine q_then ?_
            with_reducible refine c_ret ?_
            with_reducible refine q_thenR ?_
            with_reducible refine q_inBR ?_
            with_reducible refine q_thenR ?_
            with_reducible refine q_thenR ?_
            with_reducible refine q_inBR ?_
            with_reducible refine q_thenR ?_
            refine p_ret F rfl (.cons (.tmp (F.ev rfl)) .nil) ?_
            exact ⟨rfl, M.ext⟩
          rw [decide_eq_true (show 0 ≤ c.id by omega), decide_eq_true (show c.id < 16 by omega), Bool.true_and, Bool.true_and] at hct
          have f4 : nth (usedC (cs.take i)) (0 + c.id.toNat * 1) = some (.bool ((cs.take i).any fun x => x.id == c.id)) := used_at _ (by omega) (by omega) (by omega)
          cases c3 : (cs.take i).any fun x => x.id == c.id
          · rw [c3] at f4 hct
            cases c4 : validP c.ip c.bits
            · have : allI (ctx1 cs) cs.length = false := allI_f hlt (by rw [hct, c4]; rfl)
              rw [this]
              with_reducible refine l_nil ?_
              with_reducible refine q_then ?_
              with_reducible refine c_seq ?_
              with_reducible refine c_seq ?_
              with_reducible refine c_region ?_
              refine stepD rfl F rfl (o_fieldAddr (F.ev rfl) ?_); clear F; clear a; intro a F
              refine stepD rfl F rfl (o_load1 M (F.ev rfl) (by repeat (first | exact .here | apply Has.there)) (by first | assumption | rfl) ?_); clear F; clear a; intro a F
              refine stepD rfl F rfl (o_lssF (F.ev rfl) (F.ev rfl) (by omega) ?_); clear F; clear a; intro a F
              refine stepD rfl F rfl (o_move (F.ev rfl) ?_); clear F; clear a; intro a F
              refine stepG rfl F rfl rfl rfl (o_fieldAddr (F.ev rfl) ?_); clear F; clear a; intro a F
              refine stepG rfl F rfl rfl rfl (o_load1 M (F.ev rfl) (by repeat (first | exact .here | apply Has.there)) (by first | assumption | rfl) ?_); clear F; clear a; intro a F
              refine stepG rfl F rfl rfl rfl (o_geqF (F.ev rfl) (F.ev rfl) (by omega) ?_); clear F; clear a; intro a F
              refine stepD rfl F rfl (o_pickF (F.ev rfl) (F.ev rfl) ?_); clear F; clear a; intro a F
              refine stepD rfl F rfl (o_move (F.ev rfl) ?_); clear F; clear a; intro a F
              refine stepG rfl F rfl rfl rfl (o_fieldAddr (F.ev rfl) ?_); clear F; clear a; intro a F
              refine stepG rfl F rfl rfl rfl (o_load1 M (F.ev rfl) (by repeat (first | exact .here | apply Has.there)) (by first | assumption | rfl) ?_); clear F; clear a; intro a F
              refine stepG rfl F rfl rfl rfl (o_indexArr (F.ev rfl) (F.ev rfl) (by omega) (by omega) ?_); clear F; clear a; intro a F
              refine stepG rfl F rfl rfl rfl (o_load1 M (F.ev rfl) (by repeat (first | exact .here | apply Has.there)) (by first | assumption | rfl) ?_); clear F; clear a; intro a F
              refine stepD rfl F rfl (o_pickF (F.ev rfl) (F.ev rfl) ?_); clear F; clear a; intro a F
              refine stepD rfl F rfl (o_move (F.ev rfl) ?_); clear F; clear a; intro a F
              refine stepG rfl F rfl rfl rfl (o_fieldAddr (F.ev rfl) ?_); clear F; clear a; intro a F
              refine stepG rfl F rfl rfl rfl (o_loadA M (F.ev rfl) (by repeat (first | exact .here | apply Has.there)) (by first | assumption | rfl) ?_); clear F; clear a; intro a F
              (refine stepG rfl F rfl rfl rfl (o_call (F.ev rfl) (F.evs rfl) (Cal.mono (validPrefix_c c.ip c.bits hci.len _) ?_)); clear F; clear a; rintro _ w ⟨rfl, hE⟩ a F; replace M := M.later hE; clear hE)
              rw [c4] at F
              refine stepG rfl F rfl rfl rfl (o_not (F.ev rfl) ?_); clear F; clear a; intro a F
              refine stepD rfl F rfl (o_pickF (F.ev rfl) (F.ev rfl) ?_); clear F; clear a; intro a F
              with_reducible refine l_nil ?_
              with_reducible refine q_then ?_
              refine c_true F rfl rfl ?_
              with_reducible refine c_seq ?_
              with_reducible refine c_region ?_
              refine stepD rfl F rfl (o_assign (F.ev rfl) ?_); clear F; clear a; intro a F
              with_reducible refine l_nil ?_
              with_reducible refine q_then ?_
              with_reducible refine c_ret ?_
              with_reducible refine q_thenR ?_
              with_reducible refine q_inBR ?_
              with_reducible refine q_thenR ?_
              with_reducible refine q_thenR ?_
              with_reducible refine q_inBR ?_
              with_reducible refine q_thenR ?_
              refine p_ret F rfl (.cons (.tmp (F.ev rfl)) .nil) ?_
              exact ⟨rfl, M.ext⟩
            · with_reducible refine l_nil ?_
              with_reducible refine q_then ?_
              with_reducible refine c_seq ?_
              with_reducible refine c_seq ?_
              with_reducible refine c_region ?_
              refine stepD rfl F rfl (o_fieldAddr (F.ev rfl) ?_); clear F; clear a; intro a F
              refine stepD rfl F rfl (o_load1 M (F.ev rfl) (by repeat (first | exact .here | apply Has.there)) (by first | assumption | rfl) ?_); clear F; clear a; intro a F
              refine stepD rfl F rfl (o_lssF (F.ev rfl) (F.ev rfl) (by omega) ?_); clear F; clear a; intro a F
              refine stepD rfl F rfl (o_move (F.ev rfl) ?_); clear F; clear a; intro a F
              refine stepG rfl F rfl rfl rfl (o_fieldAddr (F.ev rfl) ?_); clear F; clear a; intro a F
              refine stepG rfl F rfl rfl rfl (o_load1 M (F.ev rfl) (by repeat (first | exact .here | apply Has.there)) (by first | assumption | rfl) ?_); clear F; clear a; intro a F
              refine stepG rfl F rfl rfl rfl (o_geqF (F.ev rfl) (F.ev rfl) (by omega) ?_); clear F; clear a; intro a F
              refine stepD rfl F rfl (o_pickF (F.ev rfl) (F.ev rfl) ?_); clear F; clear a; intro a F
              refine stepD rfl F rfl (o_move (F.ev rfl) ?_); clear F; clear a; intro a F
              refine stepG rfl F rfl rfl rfl (o_fieldAddr (F.ev rfl) ?_); clear F; clear a; intro a F
              refine stepG rfl F rfl rfl rfl (o_load1 M (F.ev rfl) (by repeat (first | exact .here | apply Has.there)) (by first | assumption | rfl) ?_); clear F; clear a; intro a F
              refine stepG rfl F rfl rfl rfl (o_indexArr (F.ev rfl) (F.ev rfl) (by omega) (by omega) ?_); clear F; clear a; intro a F
              refine stepG rfl F rfl rfl rfl (o_load1 M (F.ev rfl) (by repeat (first | exact .here | apply Has.there)) (by first | assumption | rfl) ?_); clear F; clear a; intro a F
              refine stepD rfl F rfl (o_pickF (F.ev rfl) (F.ev rfl) ?_); clear F; clear a; intro a F
              refine stepD rfl F rfl (o_move (F.ev rfl) ?_); clear F; clear a; intro a F
              refine stepG rfl F rfl rfl rfl (o_fieldAddr (F.ev rfl) ?_); clear F; clear a; intro a F
              refine stepG rfl F rfl rfl rfl (o_loadA M (F.ev rfl) (by repeat (first | exact .here | apply Has.there)) (by first | assumption | rfl) ?_); clear F; clear a; intro a F
              (refine stepG rfl F rfl rfl rfl (o_call (F.ev rfl) (F.evs rfl) (Cal.mono (validPrefix_c c.ip c.bits hci.len _) ?_)); clear F; clear a; rintro _ w ⟨rfl, hE⟩ a F; replace M := M.later hE; clear hE)
              rw [c4] at F
              refine stepG rfl F rfl rfl rfl (o_not (F.ev rfl) ?_); clear F; clear a; intro a F
              refine stepD rfl F rfl (o_pickF (F.ev rfl) (F.ev rfl) ?_); clear F; clear a; intro a F
              with_reducible refine l_nil ?_
              with_reducible refine q_then ?_
              refine c_false F rfl rfl ?_
              with_reducible refine c_skip ?_
              with_reducible refine q_then ?_
              with_reducible refine c_region ?_
              refine stepD rfl F rfl (o_fieldAddr (F.ev rfl) ?_); clear F; clear a; intro a F
              refine stepD rfl F rfl (o_load1 M (F.ev rfl) (by repeat (first | exact .here | apply Has.there)) (by first | assumption | rfl) ?_); clear F; clear a; intro a F
              refine stepD rfl F rfl (o_indexArr (F.ev rfl) (F.ev rfl) (by omega) (by omega) ?_); clear F; clear a; intro a F
              (refine stepN rfl F (o_store1 M (F.ev rfl) (F.ev rfl) rfl (by repeat (first | exact .here | apply Has.there)) (used_put (cs.take i) c (by omega) (by omega) (by omega)) (by repeat (first | exact .here | apply Upd.there)) ?_); clear F; clear M; intro w M a F)
              with_reducible refine l_nil ?_
              with_reducible refine q_inB ?_
              with_reducible refine q_then ?_
              with_reducible refine c_region ?_
              refine stepD rfl F rfl (o_add (F.ev rfl) (F.ev rfl) (w_i64 (by omega) (by omega)) ?_); clear F; clear a; intro a F
              refine stepD rfl F rfl (o_move (F.ev rfl) ?_); clear F; clear a; intro a F
              with_reducible refine l_nil ?_
              with_reducible refine q_then ?_
              exact ⟨_, by omega, i + 1, rfl, by omega, fun j hj => by
                rcases Nat.lt_or_ge j i with h1 | h1
                · exact hv2 j h1
                · obtain rfl : j = i := by omega
                  rw [hct, c4]; rfl, F.only [49, 48, 47, 5, 1] rfl, by
                rw [List.take_add_one, List.getElem?_eq_getElem hlt, ← hc0]
                exact M.sub (.cons _ (.refl _))⟩
          · rw [c3] at f4 hct
            have : allI (ctx1 cs) cs.length = false := allI_f hlt (by rw [hct]; rfl)
            rw [this]
            with_reducible refine l_nil ?_
            with_reducible refine q_then ?_
            with_reducible refine c_seq ?_
            with_reducible refine c_seq ?_
            with_reducible refine c_region ?_
            refine stepD rfl F rfl (o_fieldAddr (F.ev rfl) ?_); clear F; clear a; intro a F
            refine stepD rfl F rfl (o_load1 M (F.ev rfl) (by repeat (first | exact .here | apply Has.there)) (by first | assumption | rfl) ?_); clear F; clear a; intro a F
            refine stepD rfl F rfl (o_lssF (F.ev rfl) (F.ev rfl) (by omega) ?_); clear F; clear a; intro a F
            refine stepD rfl F rfl (o_move (F.ev rfl) ?_); clear F; clear a; intro a F
            refine stepG rfl F rfl rfl rfl (o_fieldAddr (F.ev rfl) ?_); clear F; clear a; intro a F
            refine stepG rfl F rfl rfl rfl (o_load1 M (F.ev rfl) (by repeat (first | exact .here | apply Has.there)) (by first | assumption | rfl) ?_); clear F; clear a; intro a F
            refine stepG rfl F rfl rfl rfl (o_geqF (F.ev rfl) (F.ev rfl) (by omega) ?_); clear F; clear a; intro a F
            refine stepD rfl F rfl (o_pickF (F.ev rfl) (F.ev rfl) ?_); clear F; clear a; intro a F
            refine stepD rfl F rfl (o_move (F.ev rfl) ?_); clear F; clear a; intro a F
            refine stepG rfl F rfl rfl rfl (o_fieldAddr (F.ev rfl) ?_); clear F; clear a; intro a F
            refine stepG rfl F rfl rfl rfl (o_load1 M (F.ev rfl) (by repeat (first | exact .here | apply Has.there)) (by first | assumption | rfl) ?_); clear F; clear a; intro a F
            refine stepG rfl F rfl rfl rfl (o_indexArr (F.ev rfl) (F.ev rfl) (by omega) (by omega) ?_); clear F; clear a; intro a F
            refine stepG rfl F rfl rfl rfl (o_load1 M (F.ev rfl) (by repeat (first | exact .here | apply Has.there)) (by first | assumption | rfl) ?_); clear F; clear a; intro a F
            refine stepD rfl F rfl (o_pickF (F.ev rfl) (F.ev rfl) ?_); clear F; clear a; intro a F
            refine stepD rfl F rfl (o_move (F.ev rfl) ?_); clear F; clear a; intro a F
            refine stepOff F rfl rfl rfl rfl ?_; clear F; clear a; intro a F
            refine stepOff F rfl rfl rfl rfl ?_; clear F; clear a; intro a F
            refine stepOff F rfl rfl rfl rfl ?_; clear F; clear a; intro a F
            refine stepOff F rfl rfl rfl rfl ?_; clear F; clear a; intro a F
            refine stepD rfl F rfl (o_pickT (F.ev rfl) (F.ev rfl) ?_); clear F; clear a; intro a F
            with_reducible refine l_nil ?_
            with_reducible refine q_then ?_
            refine c_true F rfl rfl ?_
            with_reducible refine c_seq ?_
            with_reducible refine c_region ?_
            refine stepD rfl F rfl (o_assign (F.ev rfl) ?_); clear F; clear a; intro a F
            with_reducible refine l_nil ?_
            with_reducible refine q_then ?_
            with_reducible refine c_ret ?_
            with_reducible refine q_thenR ?_
            with_reducible refine q_inBR ?_
            with_reducible refine q_thenR ?_
            with_reducible refine q_thenR ?_
            with_reducible refine q_inBR ?_
            with_reducible refine q_thenR ?_
            refine p_ret F rfl (.cons (.tmp (F.ev rfl)) .nil) ?_
            exact ⟨rfl, M.ext⟩
        · obtain rfl : i = cs.length := by omega
          have : allI (ctx1 cs) cs.length = true := allI_t hv2
          rw [this]
          with_reducible refine c_seq ?_
          with_reducible refine c_region ?_
          refine stepD rfl F rfl (o_lssF (F.ev rfl) (F.ev rfl) (by omega) ?_); clear F; clear a; intro a F
          with_reducible refine l_nil ?_
          with_reducible refine q_then ?_
          with_reducible refine c_seq ?_
          refine c_false F rfl rfl ?_
          with_reducible refine c_exit ?_
          with_reducible refine q_thenX ?_
          with_reducible refine q_thenX ?_
          with_reducible refine q_inBX ?_
          with_reducible refine q_then ?_
          with_reducible refine c_seq ?_
          with_reducible refine c_region ?_
          refine stepD rfl F rfl (o_assign (F.ev rfl) ?_); clear F; clear a; intro a F
          with_reducible refine l_nil ?_
          with_reducible refine q_then ?_
          with_reducible refine c_ret ?_
          refine p_ret F rfl (.cons (.tmp (F.ev rfl)) .nil) ?_
          exact ⟨rfl, M.ext⟩
end Go.Proofs.Ytainnefmobfcjaa
/-! NOpen3 -/
namespace Go.Proofs.Ytainnefmobfcjaa
set_option linter.unusedVariables false
set_option linter.unusedSimpArgs false
open Go.ChangeShapes Go.WideShapes Go.ChangeAt Go.RowKit
section
variable {H : Type} {enc : TypeId × Value → H} {w : World} {base : Nat} {sp : Nat → Bool} {held : Bool}
set_option maxRecDepth 100000 in
theorem dec_ip {n : Nat} {cs : List Value} {y : DataW H × List MemPlace} (h : DataW.trod enc Try.prog w base sp held n 26 cs = some y) : ∃ a : List Int, IsIP a ∧ cs = ipC a := by
  have hw := open_leaf 8 26 (List.replicate 16 (.i .u8)) (by kernel_rfl) n cs y h (.inl (by kernel_rfl))
  obtain ⟨a, rfl, hl, hb⟩ := ip_wf cs 16 hw
  exact ⟨a, ⟨hl, hb⟩, rfl⟩
set_option maxRecDepth 100000 in
theorem dec_pi (n : Nat) (cs : List Value) (y : DataW H × List MemPlace) (h : DataW.trod enc Try.prog w base sp held n 111 cs = some y) : ∃ x : PInf, IsPi x ∧ cs = piC x := by
  have hw := open_leaf 8 111 (List.replicate 16 (.i .u8) ++ [.i .i64, .b, .b, .i .u32]) (by kernel_rfl) n cs y h (.inl (by kernel_rfl))
  obtain ⟨c0, c1, rfl, h1, h2⟩ := wfK_split hw
  obtain ⟨a, rfl, hl, hb⟩ := ip_wf c0 16 h1
  obtain ⟨x1, c2, rfl, g1, h3⟩ := wfK_cons h2
  obtain ⟨x2, c3, rfl, g2, h4⟩ := wfK_cons h3
  obtain ⟨x3, c4, rfl, g3, h5⟩ := wfK_cons h4
  obtain ⟨x4, c5, rfl, g4, h6⟩ := wfK_cons h5
  obtain rfl := wfK_nil h6
  obtain ⟨n1, rfl, _, _⟩ := wfV_int g1
  obtain ⟨n4, rfl, _, _⟩ := wfV_int g4
  cases x2 <;> simp [wfV] at g2
  cases x3 <;> simp [wfV] at g3
  exact ⟨⟨a, n1, _, _, n4⟩, ⟨hl, hb⟩, by simp [piC, pfC]; exact ⟨rfl, rfl⟩⟩
set_option maxRecDepth 100000 in
theorem dec_ci (n : Nat) (cs : List Value) (y : DataW H × List MemPlace) (h : DataW.trod enc Try.prog w base sp held n 116 cs = some y) : ∃ x : CInf, IsCi x ∧ cs = ciC x := by
  have hw := open_leaf 8 116 ([.i .i64] ++ (List.replicate 16 (.i .u8) ++ [.i .i64, .b, .i .u16])) (by kernel_rfl) n cs y h (.inl (by kernel_rfl))
  obtain ⟨x0, c0, rfl, g0, hw⟩ := wfK_cons (show wfK (LK.i .i64 :: (List.replicate 16 (LK.i .u8) ++ [LK.i .i64, LK.b, LK.i .u16])) cs = true from hw)
  obtain ⟨c0, c1, rfl, h1, h2⟩ := wfK_split (ks := List.replicate 16 (LK.i .u8)) (ks' := [LK.i .i64, LK.b, LK.i .u16]) hw
  obtain ⟨a, rfl, hl, hb⟩ := ip_wf c0 16 h1
  obtain ⟨x1, c2, rfl, g1, h3⟩ := wfK_cons h2
  obtain ⟨x2, c3, rfl, g2, h4⟩ := wfK_cons h3
  obtain ⟨x4, c5, rfl, g4, h6⟩ := wfK_cons h4
  obtain rfl := wfK_nil h6
  obtain ⟨n0, rfl, _, _⟩ := wfV_int g0
  obtain ⟨n1, rfl, _, _⟩ := wfV_int g1
  obtain ⟨n4, rfl, _, _⟩ := wfV_int g4
  cases x2 <;> simp [wfV] at g2
  exact ⟨⟨n0, a, n1, _, n4⟩, ⟨hl, hb⟩, by simp [ciC, pfC]; rfl⟩
end
section
variable {H : Type} {enc : TypeId × Value → H} {w : World} {r : Reach} {b0 base : Nat} {sp : Nat → Bool} {held : Bool} {v : Value} {d : DataW H} {p : List MemPlace}
theorem agg_of {P : Program} {t : TypeId} (ht : isAggT P t = true) (hval : Value.okWide P w r b0 t v) : ∃ cs : List Value, v = .agg cs.toArray := by
  unfold isAggT at ht
  unfold Value.okWide at hval
  split at ht
  · rename_i hu; rw [hu] at hval; obtain ⟨cs, h, _⟩ := hval; exact ⟨cs.toList, by simpa using h⟩
  · rename_i hu; rw [hu] at hval; obtain ⟨cs, h, _⟩ := hval; exact ⟨cs.toList, by simpa using h⟩
  · cases ht
end
end Go.Proofs.Ytainnefmobfcjaa
/-! F2 -/
namespace Go.Proofs.Ytainnefmobfcjaa
set_option linter.unusedVariables false
set_option linter.unusedSimpArgs false
open Go.RowKit
attribute [local irreducible] OpTo wpListIn Code.wpIn MW Cal
theorem risTime_c (t : Int) (W : World) : Cal Try.prog 64 [.int .i64 t].toArray W fun v w' => v = .bool (isTime t) ∧ Ext [] W w' := by
  unfold isTime
  by_cases h : 0 ≤ t
  · rw [decide_eq_true h, Bool.true_and]
    refine fn_ofM (n := 9) [] Try.func64 rfl rfl rfl ?_
    intro a w F M hwW
    with_reducible refine c_seq ?_
    with_reducible refine c_region ?_
    refine stepD rfl F rfl (o_assign (F.ev rfl) ?_); clear F; clear a; intro a F
    with_reducible refine l_nil ?_
    with_reducible refine q_then ?_
    with_reducible refine c_seq ?_
    with_reducible refine c_region ?_
    refine stepD rfl F rfl (o_move (F.ev rfl) ?_); clear F; clear a; intro a F
    refine stepD rfl F rfl (o_geqT (F.ev rfl) (F.ev rfl) (by omega) ?_); clear F; clear a; intro a F
    refine stepD rfl F rfl (o_move (F.ev rfl) ?_); clear F; clear a; intro a F
    refine stepG rfl F rfl rfl rfl (o_move (F.ev rfl) ?_); clear F; clear a; intro a F
    refine stepG rfl F rfl rfl rfl (o_leq (F.ev rfl) (F.ev rfl) ?_); clear F; clear a; intro a F
    refine stepD rfl F rfl (o_pickT (F.ev rfl) (F.ev rfl) ?_); clear F; clear a; intro a F
    refine stepD rfl F rfl (o_assign (F.ev rfl) ?_); clear F; clear a; intro a F
    with_reducible refine l_nil ?_
    with_reducible refine q_then ?_
    with_reducible refine c_ret ?_
    refine p_ret F rfl (.cons (.tmp (F.ev rfl)) .nil) ?_
    exact ⟨rfl, M.ext⟩
  · rw [decide_eq_false h, Bool.false_and]
    refine fn_ofM (n := 9) [] Try.func64 rfl rfl rfl ?_
    intro a w F M hwW
    with_reducible refine c_seq ?_
    with_reducible refine c_region ?_
    refine stepD rfl F rfl (o_assign (F.ev rfl) ?_); clear F; clear a; intro a F
    with_reducible refine l_nil ?_
    with_reducible refine q_then ?_
    with_reducible refine c_seq ?_
    with_reducible refine c_region ?_
    refine stepD rfl F rfl (o_move (F.ev rfl) ?_); clear F; clear a; intro a F
    refine stepD rfl F rfl (o_geqF (F.ev rfl) (F.ev rfl) (by omega) ?_); clear F; clear a; intro a F
    refine stepD rfl F rfl (o_move (F.ev rfl) ?_); clear F; clear a; intro a F
    refine stepOff F rfl rfl rfl rfl ?_; clear F; clear a; intro a F
    refine stepOff F rfl rfl rfl rfl ?_; clear F; clear a; intro a F
    refine stepD rfl F rfl (o_pickF (F.ev rfl) (F.ev rfl) ?_); clear F; clear a; intro a F
    refine stepD rfl F rfl (o_assign (F.ev rfl) ?_); clear F; clear a; intro a F
    with_reducible refine l_nil ?_
    with_reducible refine q_then ?_
    with_reducible refine c_ret ?_
    refine p_ret F rfl (.cons (.tmp (F.ev rfl)) .nil) ?_
    exact ⟨rfl, M.ext⟩
theorem rafter_c (a d : Int) (h0 : 0 ≤ a) (h1 : a ≤ 1099511627776) (d0 : 0 ≤ d) (d1 : d ≤ 1099511627776) (W : World) : Cal Try.prog 65 [.int .i64 a, .int .i64 d].toArray W fun v w' => v = .int .i64 (laterV a d) ∧ Ext [] W w' := by
  refine fn_ofM (n := 9) [] Try.func65 rfl rfl rfl ?_
  intro a w F M hwW
  with_reducible refine c_seq ?_
  with_reducible refine c_region ?_
  refine stepD rfl F rfl (o_assign (F.ev rfl) ?_); clear F; clear a; intro a F
  with_reducible refine l_nil ?_
  with_reducible refine q_then ?_
  with_reducible refine c_seq ?_
  with_reducible refine c_region ?_
  refine stepD rfl F rfl (o_move (F.ev rfl) ?_); clear F; clear a; intro a F
  refine stepD rfl F rfl (o_move (F.ev rfl) ?_); clear F; clear a; intro a F
  refine stepD rfl F rfl (o_add (F.ev rfl) (F.ev rfl) (w_i64 (by omega) (by omega)) ?_); clear F; clear a; intro a F
  refine stepD rfl F rfl (o_min (F.ev rfl) (F.ev rfl) ?_); clear F; clear a; intro a F
  refine stepD rfl F rfl (o_assign (F.ev rfl) ?_); clear F; clear a; intro a F
  with_reducible refine l_nil ?_
  with_reducible refine q_then ?_
  with_reducible refine c_ret ?_
  refine p_ret F rfl (.cons (.tmp (F.ev rfl)) .nil) ?_
  exact ⟨rfl, M.ext⟩
set_option maxHeartbeats 4000000 in
theorem rvalidOffer_c (x : OV) (hx : IsOff x.o) (W : World) (hA : OffAt W x) :
    Cal Try.prog 35 [.agg (ovC x).toArray].toArray W fun v w' => v = .bool (validO x.o) ∧ Ext [] W w' := by
  obtain ⟨⟨h, ps, cs⟩, u, v⟩ := x
  obtain ⟨hh, hps, hcs⟩ := hx
  replace hA : SlAt W 20 u ps.length (pisC ps) ∧ SlAt W 20 v cs.length (cisC cs) := hA
  dsimp only at hh hps hcs
  obtain ⟨⟨q1, cap1, rfl, hc1, hn1, hl1, hm1⟩, ⟨q2, cap2, rfl, hc2, hn2, hl2, hm2⟩⟩ := hA
  unfold validO
  dsimp only
  obtain ⟨ok, hok⟩ : ∃ ok, ok = hdO ⟨h, ps, cs⟩ := ⟨_, rfl⟩
  rw [← hok]
  have e1 := of_ver hh (.slice q1 ps.length cap1) (.slice q2 cs.length cap2)
  have e2 := of_til hh (.slice q1 ps.length cap1) (.slice q2 cs.length cap2)
  have e3 := of_ps hh (.slice q1 ps.length cap1) (.slice q2 cs.length cap2)
  have e4 := of_cs hh (.slice q1 ps.length cap1) (.slice q2 cs.length cap2)
  unfold ovC
  dsimp only
  generalize hoc : ofC h (.slice q1 ps.length cap1) (.slice q2 cs.length cap2) = oc at *
  refine fn_ofM (n := 85) [] Try.func35 rfl rfl rfl ?_
  intro a w F M hwW
  refine c_seq ?_
  refine c_region ?_
  (refine stepD rfl F rfl (o_box M (F.ev rfl) rfl ?_); clear F; clear M; intro b1 w M a F)
  refine stepD rfl F rfl (o_assign (F.ev rfl) ?_); clear F; clear a; intro a F
  refine l_nil ?_
  refine q_then ?_
  refine c_seq ?_
  refine c_seq ?_
  refine c_cut (fun a w => Frm a 85 [] [(34, .bool !ok), (1, .pointer (some ⟨b1, 0, none⟩))] ∧ (ok = true → ps.length ≤ 16 ∧ cs.length ≤ 16) ∧ Mem [] W w [(b1, .cells oc.toArray 58 (0, 0))]) ?_ ?_
  · by_cases c1 : h.ver < 0
    · obtain rfl : ok = false := by rw [hok]; simp [hdO]; omega
      with_reducible refine c_region ?_
      refine stepD rfl F rfl (o_fieldAddr (F.ev rfl) ?_); clear F; clear a; intro a F
      refine stepD rfl F rfl (o_load1 M (F.ev rfl) (by repeat (first | exact .here | apply Has.there)) (by first | assumption | rfl) ?_); clear F; clear a; intro a F
      refine stepD rfl F rfl (o_lssT (F.ev rfl) (F.ev rfl) (by omega) ?_); clear F; clear a; intro a F
      refine stepD rfl F rfl (o_move (F.ev rfl) ?_); clear F; clear a; intro a F
      refine stepOff F rfl rfl rfl rfl ?_; clear F; clear a; intro a F
      refine stepOff F rfl rfl rfl rfl ?_; clear F; clear a; intro a F
      refine stepOff F rfl rfl rfl rfl ?_; clear F; clear a; intro a F
      refine stepD rfl F rfl (o_pickT (F.ev rfl) (F.ev rfl) ?_); clear F; clear a; intro a F
      refine stepD rfl F rfl (o_move (F.ev rfl) ?_); clear F; clear a; intro a F
      refine stepOff F rfl rfl rfl rfl ?_; clear F; clear a; intro a F
      refine stepOff F rfl rfl rfl rfl ?_; clear F; clear a; intro a F
      refine stepOff F rfl rfl rfl rfl ?_; clear F; clear a; intro a F
      refine stepOff F rfl rfl rfl rfl ?_; clear F; clear a; intro a F
      refine stepD rfl F rfl (o_pickT (F.ev rfl) (F.ev rfl) ?_); clear F; clear a; intro a F
      refine stepD rfl F rfl (o_move (F.ev rfl) ?_); clear F; clear a; intro a F
      refine stepOff F rfl rfl rfl rfl ?_; clear F; clear a; intro a F
      refine stepOff F rfl rfl rfl rfl ?_; clear F; clear a; intro a F
      refine stepOff F rfl rfl rfl rfl ?_; clear F; clear a; intro a F
      refine stepOff F rfl rfl rfl rfl ?_; clear F; clear a; intro a F
      refine stepD rfl F rfl (o_pickT (F.ev rfl) (F.ev rfl) ?_); clear F; clear a; intro a F
      refine stepD rfl F rfl (o_move (F.ev rfl) ?_); clear F; clear a; intro a F
      refine stepOff F rfl rfl rfl rfl ?_; clear F; clear a; intro a F
      refine stepOff F rfl rfl rfl rfl ?_; clear F; clear a; intro a F
      refine stepOff F rfl rfl rfl rfl ?_; clear F; clear a; intro a F
      refine stepOff F rfl rfl rfl rfl ?_; clear F; clear a; intro a F
      refine stepD rfl F rfl (o_pickT (F.ev rfl) (F.ev rfl) ?_); clear F; clear a; intro a F
      with_reducible refine l_nil ?_
      exact ⟨F.only [34, 1] rfl, by simp, M⟩
    by_cases c2 : 4294967295 < h.ver
    · obtain rfl : ok = false := by rw [hok]; simp [hdO]; omega
      with_reducible refine c_region ?_
      refine stepD rfl F rfl (o_fieldAddr (F.ev rfl) ?_); clear F; clear a; intro a F
      refine stepD rfl F rfl (o_load1 M (F.ev rfl) (by repeat (first | exact .here | apply Has.there)) (by first | assumption | rfl) ?_); clear F; clear a; intro a F
      refine stepD rfl F rfl (o_lssF (F.ev rfl) (F.ev rfl) (by omega) ?_); clear F; clear a; intro a F
      refine stepD rfl F rfl (o_move (F.ev rfl) ?_); clear F; clear a; intro a F
      refine stepG rfl F rfl rfl rfl (o_fieldAddr (F.ev rfl) ?_); clear F; clear a; intro a F
      refine stepG rfl F rfl rfl rfl (o_load1 M (F.ev rfl) (by repeat (first | exact .here | apply Has.there)) (by first | assumption | rfl) ?_); clear F; clear a; intro a F
      refine stepG rfl F rfl rfl rfl (o_gtrT (F.ev rfl) (F.ev rfl) (by omega) ?_); clear F; clear a; intro a F
      refine stepD rfl F rfl (o_pickF (F.ev rfl) (F.ev rfl) ?_); clear F; clear a; intro a F
      refine stepD rfl F rfl (o_move (F.ev rfl) ?_); clear F; clear a; intro a F
      refine stepOff F rfl rfl rfl rfl ?_; clear F; clear a; intro a F
      refine stepOff F rfl rfl rfl rfl ?_; clear F; clear a; intro a F
      refine stepOff F rfl rfl rfl rfl ?_; clear F; clear a; intro a F
      refine stepOff F rfl rfl rfl rfl ?_; clear F; clear a; intro a F
      refine stepD rfl F rfl (o_pickT (F.ev rfl) (F.ev rfl) ?_); clear F; clear a; intro a F
      refine stepD rfl F rfl (o_move (F.ev rfl) ?_); clear F; clear a; intro a F
      refine stepOff F rfl rfl rfl rfl ?_; clear F; clear a; intro a F
      refine stepOff F rfl rfl rfl rfl ?_; clear F; clear a; intro a F
      refine stepOff F rfl rfl rfl rfl ?_; clear F; clear a; intro a F
      refine stepOff F rfl rfl rfl rfl ?_; clear F; clear a; intro a F
      refine stepD rfl F rfl (o_pickT (F.ev rfl) (F.ev rfl) ?_); clear F; clear a; intro a F
      refine stepD rfl F rfl (o_move (F.ev rfl) ?_); clear F; clear a; intro a F
      refine stepOff F rfl rfl rfl rfl ?_; clear F; clear a; intro a F
      refine stepOff F rfl rfl rfl rfl ?_; clear F; clear a; intro a F
      refine stepOff F rfl rfl rfl rfl ?_; clear F; clear a; intro a F
      refine stepOff F rfl rfl rfl rfl ?_; clear F; clear a; intro a F
      refine stepD rfl F rfl (o_pickT (F.ev rfl) (F.ev rfl) ?_); clear F; clear a; intro a F
      with_reducible refine l_nil ?_
      exact ⟨F.only [34, 1] rfl, by simp, M⟩
    cases c3 : isTime h.til
    · obtain rfl : ok = false := by rw [hok]; simp [hdO, c3]
      with_reducible refine c_region ?_
      refine stepD rfl F rfl (o_fieldAddr (F.ev rfl) ?_); clear F; clear a; intro a F
      refine stepD rfl F rfl (o_load1 M (F.ev rfl) (by repeat (first | exact .here | apply Has.there)) (by first | assumption | rfl) ?_); clear F; clear a; intro a F
      refine stepD rfl F rfl (o_lssF (F.ev rfl) (F.ev rfl) (by omega) ?_); clear F; clear a; intro a F
      refine stepD rfl F rfl (o_move (F.ev rfl) ?_); clear F; clear a; intro a F
      refine stepG rfl F rfl rfl rfl (o_fieldAddr (F.ev rfl) ?_); clear F; clear a; intro a F
      refine stepG rfl F rfl rfl rfl (o_load1 M (F.ev rfl) (by repeat (first | exact .here | apply Has.there)) (by first | assumption | rfl) ?_); clear F; clear a; intro a F
      refine stepG rfl F rfl rfl rfl (o_gtrF (F.ev rfl) (F.ev rfl) (by omega) ?_); clear F; clear a; intro a F
      refine stepD rfl F rfl (o_pickF (F.ev rfl) (F.ev rfl) ?_); clear F; clear a; intro a F
      refine stepD rfl F rfl (o_move (F.ev rfl) ?_); clear F; clear a; intro a F
      refine stepG rfl F rfl rfl rfl (o_fieldAddr (F.ev rfl) ?_); clear F; clear a; intro a F
      refine stepG rfl F rfl rfl rfl (o_load1 M (F.ev rfl) (by repeat (first | exact .here | apply Has.there)) (by first | assumption | rfl) ?_); clear F; clear a; intro a F
      (refine stepG rfl F rfl rfl rfl (o_call (F.ev rfl) (F.evs rfl) (Cal.mono (risTime_c h.til _) ?_)); clear F; clear a; rintro _ w ⟨rfl, hE⟩ a F; replace M := M.later hE; clear hE)
      rw [c3] at F
      refine stepG rfl F rfl rfl rfl (o_not (F.ev rfl) ?_); clear F; clear a; intro a F
      refine stepD rfl F rfl (o_pickF (F.ev rfl) (F.ev rfl) ?_); clear F; clear a; intro a F
      refine stepD rfl F rfl (o_move (F.ev rfl) ?_); clear F; clear a; intro a F
      refine stepOff F rfl rfl rfl rfl ?_; clear F; clear a; intro a F
      refine stepOff F rfl rfl rfl rfl ?_; clear F; clear a; intro a F
      refine stepOff F rfl rfl rfl rfl ?_; clear F; clear a; intro a F
      refine stepOff F rfl rfl rfl rfl ?_; clear F; clear a; intro a F
      refine stepD rfl F rfl (o_pickT (F.ev rfl) (F.ev rfl) ?_); clear F; clear a; intro a F
      refine stepD rfl F rfl (o_move (F.ev rfl) ?_); clear F; clear a; intro a F
      refine stepOff F rfl rfl rfl rfl ?_; clear F; clear a; intro a F
      refine stepOff F rfl rfl rfl rfl ?_; clear F; clear a; intro a F
      refine stepOff F rfl rfl rfl rfl ?_; clear F; clear a; intro a F
      refine stepOff F rfl rfl rfl rfl ?_; clear F; clear a; intro a F
      refine stepD rfl F rfl (o_pickT (F.ev rfl) (F.ev rfl) ?_); clear F; clear a; intro a F
      with_reducible refine l_nil ?_
      exact ⟨F.only [34, 1] rfl, by simp, M⟩
    by_cases c4 : 16 < ps.length
    · obtain rfl : ok = false := by rw [hok]; simp [hdO]; omega
      with_reducible refine c_region ?_
      refine stepD rfl F rfl (o_fieldAddr (F.ev rfl) ?_); clear F; clear a; intro a F
      refine stepD rfl F rfl (o_load1 M (F.ev rfl) (by repeat (first | exact .here | apply Has.there)) (by first | assumption | rfl) ?_); clear F; clear a; intro a F
      refine stepD rfl F rfl (o_lssF (F.ev rfl) (F.ev rfl) (by omega) ?_); clear F; clear a; intro a F
      refine stepD rfl F rfl (o_move (F.ev rfl) ?_); clear F; clear a; intro a F
      refine stepG rfl F rfl rfl rfl (o_fieldAddr (F.ev rfl) ?_); clear F; clear a; intro a F
      refine stepG rfl F rfl rfl rfl (o_load1 M (F.ev rfl) (by repeat (first | exact .here | apply Has.there)) (by first | assumption | rfl) ?_); clear F; clear a; intro a F
      refine stepG rfl F rfl rfl rfl (o_gtrF (F.ev rfl) (F.ev rfl) (by omega) ?_); clear F; clear a; intro a F
      refine stepD rfl F rfl (o_pickF (F.ev rfl) (F.ev rfl) ?_); clear F; clear a; intro a F
      refine stepD rfl F rfl (o_move (F.ev rfl) ?_); clear F; clear a; intro a F
      refine stepG rfl F rfl rfl rfl (o_fieldAddr (F.ev rfl) ?_); clear F; clear a; intro a F
      refine stepG rfl F rfl rfl rfl (o_load1 M (F.ev rfl) (by repeat (first | exact .here | apply Has.there)) (by first | assumption | rfl) ?_); clear F; clear a; intro a F
      (refine stepG rfl F rfl rfl rfl (o_call (F.ev rfl) (F.evs rfl) (Cal.mono (risTime_c h.til _) ?_)); clear F; clear a; rintro _ w ⟨rfl, hE⟩ a F; replace M := M.later hE; clear hE)
      rw [c3] at F
      refine stepG rfl F rfl rfl rfl (o_not (F.ev rfl) ?_); clear F; clear a; intro a F
      refine stepD rfl F rfl (o_pickF (F.ev rfl) (F.ev rfl) ?_); clear F; clear a; intro a F
      refine stepD rfl F rfl (o_move (F.ev rfl) ?_); clear F; clear a; intro a F
      refine stepG rfl F rfl rfl rfl (o_fieldAddr (F.ev rfl) ?_); clear F; clear a; intro a F
      refine stepG rfl F rfl rfl rfl (o_load1 M (F.ev rfl) (by repeat (first | exact .here | apply Has.there)) (by first | assumption | rfl) ?_); clear F; clear a; intro a F
      refine stepG rfl F rfl rfl rfl (o_lenSl (F.ev rfl) ?_); clear F; clear a; intro a F
      refine stepG rfl F rfl rfl rfl (o_gtrT (F.ev rfl) (F.ev rfl) (by omega) ?_); clear F; clear a; intro a F
      refine stepD rfl F rfl (o_pickF (F.ev rfl) (F.ev rfl) ?_); clear F; clear a; intro a F
      refine stepD rfl F rfl (o_move (F.ev rfl) ?_); clear F; clear a; intro a F
      refine stepOff F rfl rfl rfl rfl ?_; clear F; clear a; intro a F
      refine stepOff F rfl rfl rfl rfl ?_; clear F; clear a; intro a F
      refine stepOff F rfl rfl rfl rfl ?_; clear F; clear a; intro a F
      refine stepOff F rfl rfl rfl rfl ?_; clear F; clear a; intro a F
      refine stepD rfl F rfl (o_pickT (F.ev rfl) (F.ev rfl) ?_); clear F; clear a; intro a F
      with_reducible refine l_nil ?_
      exact ⟨F.only [34, 1] rfl, by simp, M⟩
    by_cases c5 : 16 < cs.length
    · obtain rfl : ok = false := by rw [hok]; simp [hdO]; omega
      with_reducible refine c_region ?_
      refine stepD rfl F rfl (o_fieldAddr (F.ev rfl) ?_); clear F; clear a; intro a F
      refine stepD rfl F rfl (o_load1 M (F.ev rfl) (by repeat (first | exact .here | apply Has.there)) (by first | assumption | rfl) ?_); clear F; clear a; intro a F
      refine stepD rfl F rfl (o_lssF (F.ev rfl) (F.ev rfl) (by omega) ?_); clear F; clear a; intro a F
      refine stepD rfl F rfl (o_move (F.ev rfl) ?_); clear F; clear a; intro a F
      refine stepG rfl F rfl rfl rfl (o_fieldAddr (F.ev rfl) ?_); clear F; clear a; intro a F
      refine stepG rfl F rfl rfl rfl (o_load1 M (F.ev rfl) (by repeat (first | exact .here | apply Has.there)) (by first | assumption | rfl) ?_); clear F; clear a; intro a F
      refine stepG rfl F rfl rfl rfl (o_gtrF (F.ev rfl) (F.ev rfl) (by omega) ?_); clear F; clear a; intro a F
      refine stepD rfl F rfl (o_pickF (F.ev rfl) (F.ev rfl) ?_); clear F; clear a; intro a F
      refine stepD rfl F rfl (o_move (F.ev rfl) ?_); clear F; clear a; intro a F
      refine stepG rfl F rfl rfl rfl (o_fieldAddr (F.ev rfl) ?_); clear F; clear a; intro a F
      refine stepG rfl F rfl rfl rfl (o_load1 M (F.ev rfl) (by repeat (first | exact .here | apply Has.there)) (by first | assumption | rfl) ?_); clear F; clear a; intro a F
      (refine stepG rfl F rfl rfl rfl (o_call (F.ev rfl) (F.evs rfl) (Cal.mono (risTime_c h.til _) ?_)); clear F; clear a; rintro _ w ⟨rfl, hE⟩ a F; replace M := M.later hE; clear hE)
      rw [c3] at F
      refine stepG rfl F rfl rfl rfl (o_not (F.ev rfl) ?_); clear F; clear a; intro a F
      refine stepD rfl F rfl (o_pickF (F.ev rfl) (F.ev rfl) ?_); clear F; clear a; intro a F
      refine stepD rfl F rfl (o_move (F.ev rfl) ?_); clear F; clear a; intro a F
      refine stepG rfl F rfl rfl rfl (o_fieldAddr (F.ev rfl) ?_); clear F; clear a; intro a F
      refine stepG rfl F rfl rfl rfl (o_load1 M (F.ev rfl) (by repeat (first | exact .here | apply Has.there)) (by first | assumption | rfl) ?_); clear F; clear a; intro a F
      refine stepG rfl F rfl rfl rfl (o_lenSl (F.ev rfl) ?_); clear F; clear a; intro a F
      refine stepG rfl F rfl rfl rfl (o_gtrF (F.ev rfl) (F.ev rfl) (by omega) ?_); clear F; clear a; intro a F
      refine stepD rfl F rfl (o_pickF (F.ev rfl) (F.ev rfl) ?_); clear F; clear a; intro a F
      refine stepD rfl F rfl (o_move (F.ev rfl) ?_); clear F; clear a; intro a F
      refine stepG rfl F rfl rfl rfl (o_fieldAddr (F.ev rfl) ?_); clear F; clear a; intro a F
      refine stepG rfl F rfl rfl rfl (o_load1 M (F.ev rfl) (by repeat (first | exact .here | apply Has.there)) (by first | assumption | rfl) ?_); clear F; clear a; intro a F
      refine stepG rfl F rfl rfl rfl (o_lenSl (F.ev rfl) ?_); clear F; clear a; intro a F
      refine stepG rfl F rfl rfl rfl (o_gtrT (F.ev rfl) (F.ev rfl) (by omega) ?_); clear F; clear a; intro a F
      refine stepD rfl F rfl (o_pickF (F.ev rfl) (F.ev rfl) ?_); clear F; clear a; intro a F
      with_reducible refine l_nil ?_
      exact ⟨F.only [34, 1] rfl, by simp, M⟩
    · obtain rfl : ok = true := by rw [hok]; simp [hdO, c3]; omega
      with_reducible refine c_region ?_
      refine stepD rfl F rfl (o_fieldAddr (F.ev rfl) ?_); clear F; clear a; intro a F
      refine stepD rfl F rfl (o_load1 M (F.ev rfl) (by repeat (first | exact .here | apply Has.there)) (by first | assumption | rfl) ?_); clear F; clear a; intro a F
      refine stepD rfl F rfl (o_lssF (F.ev rfl) (F.ev rfl) (by omega) ?_); clear F; clear a; intro a F
      refine stepD rfl F rfl (o_move (F.ev rfl) ?_); clear F; clear a; intro a F
      refine stepG rfl F rfl rfl rfl (o_fieldAddr (F.ev rfl) ?_); clear F; clear a; intro a F
      refine stepG rfl F rfl rfl rfl (o_load1 M (F.ev rfl) (by repeat (first | exact .here | apply Has.there)) (by first | assumption | rfl) ?_); clear F; clear a; intro a F
      refine stepG rfl F rfl rfl rfl (o_gtrF (F.ev rfl) (F.ev rfl) (by omega) ?_); clear F; clear a; intro a F
      refine stepD rfl F rfl (o_pickF (F.ev rfl) (F.ev rfl) ?_); clear F; clear a; intro a F
      refine stepD rfl F rfl (o_move (F.ev rfl) ?_); clear F; clear a; intro a F
      refine stepG rfl F rfl rfl rfl (o_fieldAddr (F.ev rfl) ?_); clear F; clear a; intro a F
      refine stepG rfl F rfl rfl rfl (o_load1 M (F.ev rfl) (by repeat (first | exact .here | apply Has.there)) (by first | assumption | rfl) ?_); clear F; clear a; intro a F
      (refine stepG rfl F rfl rfl rfl (o_call (F.ev rfl) (F.evs rfl) (Cal.mono (risTime_c h.til _) ?_)); clear F; clear a; rintro _ w ⟨rfl, hE⟩ a F; replace M := M.later hE; clear hE)
      rw [c3] at F
      refine stepG rfl F rfl rfl rfl (o_not (F.ev rfl) ?_); clear F; clear a; intro a F
      refine stepD rfl F rfl (o_pickF (F.ev rfl) (F.ev rfl) ?_); clear F; clear a; intro a F
      refine stepD rfl F rfl (o_move (F.ev rfl) ?_); clear F; clear a; intro a F
      refine stepG rfl F rfl rfl rfl (o_fieldAddr (F.ev rfl) ?_); clear F; clear a; intro a F
      refine stepG rfl F rfl rfl rfl (o_load1 M (F.ev rfl) (by repeat (first | exact .here | apply Has.there)) (by first | assumption | rfl) ?_); clear F; clear a; intro a F
      refine stepG rfl F rfl rfl rfl (o_lenSl (F.ev rfl) ?_); clear F; clear a; intro a F
      refine stepG rfl F rfl rfl rfl (o_gtrF (F.ev rfl) (F.ev rfl) (by omega) ?_); clear F; clear a; intro a F
      refine stepD rfl F rfl (o_pickF (F.ev rfl) (F.ev rfl) ?_); clear F; clear a; intro a F
      refine stepD rfl F rfl (o_move (F.ev rfl) ?_); clear F; clear a; intro a F
      refine stepG rfl F rfl rfl rfl (o_fieldAddr (F.ev rfl) ?_); clear F; clear a; intro a F
      refine stepG rfl F rfl rfl rfl (o_load1 M (F.ev rfl) (by repeat (first | exact .here | apply Has.there)) (by first | assumption | rfl) ?_); clear F; clear a; intro a F
      refine stepG rfl F rfl rfl rfl (o_lenSl (F.ev rfl) ?_); clear F; clear a; intro a F
      refine stepG rfl F rfl rfl rfl (o_gtrF (F.ev rfl) (F.ev rfl) (by omega) ?_); clear F; clear a; intro a F
      refine stepD rfl F rfl (o_pickF (F.ev rfl) (F.ev rfl) ?_); clear F; clear a; intro a F
      with_reducible refine l_nil ?_
      exact ⟨F.only [34, 1] rfl, by simp; omega, M⟩
  · clear F M a w
    rintro a w ⟨F, hle, M⟩
    clear hok
    cases ok
    · with_reducible refine q_then ?_
      refine c_true F rfl rfl ?_
      with_reducible refine c_seq ?_
      with_reducible refine c_region ?_
      refine stepD rfl F rfl (o_assign (F.ev rfl) ?_); clear F; clear a; intro a F
      with_reducible refine l_nil ?_
      with_reducible refine q_then ?_
      with_reducible refine c_ret ?_
      with_reducible refine q_thenR ?_
      refine p_ret F rfl (.cons (.tmp (F.ev rfl)) .nil) ?_
      exact ⟨by simp [oneOr], M.ext⟩
    · obtain ⟨hp16, hc16⟩ := hle rfl
      simp only [Bool.true_and]
      with_reducible refine q_then ?_
      refine c_false F rfl rfl ?_
      with_reducible refine c_skip ?_
      with_reducible refine q_then ?_
      with_reducible refine c_seq ?_
      with_reducible refine c_seq ?_
      with_reducible refine c_region ?_
      refine stepD rfl F rfl (o_fieldAddr (F.ev rfl) ?_); clear F; clear a; intro a F
      refine stepD rfl F rfl (o_load1 M (F.ev rfl) (by repeat (first | exact .here | apply Has.there)) (by first | assumption | rfl) ?_); clear F; clear a; intro a F
      refine stepD rfl F rfl (o_lenSl (F.ev rfl) ?_); clear F; clear a; intro a F
      refine stepD rfl F rfl (o_move (F.ev rfl) ?_); clear F; clear a; intro a F
      with_reducible refine l_nil ?_
      with_reducible refine q_then ?_
      with_reducible refine c_block ?_
      refine c_loop (fun m a w => ∃ i : Nat, m = ps.length - i ∧ i ≤ ps.length ∧ (∀ j (hj : j < i) (hl : j < ps.length), validPi ps[j] = true) ∧ Frm a 85 [] [(38, .int .i64 i), (37, .int .i64 ps.length), (36, .slice q1 ps.length cap1), (1, .pointer (some ⟨b1, 0, none⟩))] ∧ Mem [] W w [(b1, .cells oc.toArray 58 (0, 0))]) ps.length ⟨0, rfl, by omega, by omega, F.only [38, 37, 36, 1] rfl, M⟩ ?_
      clear F M
      rintro m a w ⟨i, hm, hi, hv, F, M⟩
      by_cases hlt : i < ps.length
      · obtain ⟨b, o, cs', t, fz, rfl, hb, hs⟩ := hm1 (by omega)
        obtain ⟨p, hp0⟩ : ∃ p, p = ps[i] := ⟨_, rfl⟩
        have hpi : IsPi p := by rw [hp0]; exact hps _ (List.getElem_mem hlt)
        have f1 : seg cs' (o + (i : Int).toNat * 20) 20 = some (piC p) := by rw [hp0]; exact seg_el (pis_len hps) hs hlt (by omega)
        have f2 := pi_pre hpi
        with_reducible refine c_seq ?_
        with_reducible refine c_region ?_
        refine stepD rfl F rfl (o_lssT (F.ev rfl) (F.ev rfl) (by omega) ?_); clear F; clear a; intro a F
        with_reducible refine l_nil ?_
        with_reducible refine q_then ?_
        with_reducible refine c_seq ?_
        refine c_true F rfl rfl ?_
        with_reducible refine c_skip ?_
        with_reducible refine q_then ?_
        with_reducible refine c_seq ?_
        with_reducible refine c_block ?_
        with_reducible refine c_seq ?_
        with_reducible refine c_region ?_
        refine stepD rfl F rfl (o_indexSl (F.ev rfl) (F.ev rfl) (by omega) (by omega) ?_); clear F; clear a; intro a F
        refine stepD rfl F rfl (o_loadWA M (F.ev rfl) (by assumption) (by first | assumption | rfl) ?_); clear F; clear a; intro a F
        (refine stepD rfl F rfl (o_alloc M ?_); clear F; clear M; intro b4 w M a F)
        (refine stepN rfl F (o_storeA M (F.ev rfl) (F.ev rfl) (pi_len hpi) (pi_one _)  (by repeat (first | exact .here | apply Has.there))  (put_all (by rw [pi_len hpi]; rfl)) (by repeat (first | exact .here | apply Upd.there)) ?_); clear F; clear M; intro w M a F)
        with_reducible refine l_nil ?_
        with_reducible refine q_then ?_
        with_reducible refine c_seq ?_
        with_reducible refine c_region ?_
        refine stepD rfl F rfl (o_fieldAddr (F.ev rfl) ?_); clear F; clear a; intro a F
        refine stepD rfl F rfl (o_loadA M (F.ev rfl) (by repeat (first | exact .here | apply Has.there)) (by first | assumption | rfl) ?_); clear F; clear a; intro a F
        (refine stepD rfl F rfl (o_call (F.ev rfl) (F.evs rfl) (Cal.mono (rvalidPrefix_c p.ip p.bits hpi _) ?_)); clear F; clear a; rintro _ w ⟨rfl, hE⟩ a F; replace M := M.later hE; clear hE)
        cases hvp : validP p.ip p.bits
        · rw [hvp] at F
          have : ps.all validPi = false := all_f hlt (by rw [← hp0]; exact hvp)
          rw [this, Bool.false_and]
          refine stepD rfl F rfl (o_not (F.ev rfl) ?_); clear F; clear a; intro a F
          with_reducible refine l_nil ?_
          with_reducible refine q_then ?_
          refine c_true F rfl rfl ?_
          with_reducible refine c_seq ?_
          with_reducible refine c_region ?_
          refine stepD rfl F rfl (o_assign (F.ev rfl) ?_); clear F; clear a; intro a F
          with_reducible refine l_nil ?_
          with_reducible refine q_then ?_
          with_reducible refine c_ret ?_
          with_reducible refine q_inBR ?_
          with_reducible refine q_thenR ?_
          with_reducible refine q_thenR ?_
          with_reducible refine q_inBR ?_
          with_reducible refine q_thenR ?_
          refine p_ret F rfl (.cons (.tmp (F.ev rfl)) .nil) ?_
          exact ⟨rfl, M.ext⟩
        · rw [hvp] at F
          refine stepD rfl F rfl (o_not (F.ev rfl) ?_); clear F; clear a; intro a F
          with_reducible refine l_nil ?_
          with_reducible refine q_then ?_
          refine c_false F rfl rfl ?_
          with_reducible refine c_skip ?_
          with_reducible refine q_inB ?_
          with_reducible refine q_then ?_
          with_reducible refine c_region ?_
          refine stepD rfl F rfl (o_add (F.ev rfl) (F.ev rfl) (w_i64 (by omega) (by omega)) ?_); clear F; clear a; intro a F
          refine stepD rfl F rfl (o_move (F.ev rfl) ?_); clear F; clear a; intro a F
          with_reducible refine l_nil ?_
          with_reducible refine q_then ?_
          exact ⟨_, by omega, i + 1, rfl, by omega, fun j hj hl => by
            rcases Nat.lt_or_ge j i with h1 | h1
            · exact hv j h1 hl
            · obtain rfl : j = i := by omega
              rw [← hp0]; exact hvp, F.only [38, 37, 36, 1] rfl, M.sub (.cons _ (.refl _))⟩
      · obtain rfl : i = ps.length := by omega
        have : ps.all validPi = true := all_t fun j hj => hv j hj hj
        rw [this, Bool.true_and]
        with_reducible refine c_seq ?_
        with_reducible refine c_region ?_
        refine stepD rfl F rfl (o_lssF (F.ev rfl) (F.ev rfl) (by omega) ?_); clear F; clear a; intro a F
        with_reducible refine l_nil ?_
        with_reducible refine q_then ?_
        with_reducible refine c_seq ?_
        refine c_false F rfl rfl ?_
        with_reducible refine c_exit ?_
        with_reducible refine q_thenX ?_
        with_reducible refine q_thenX ?_
        with_reducible refine q_inBX ?_
        with_reducible refine q_then ?_
        with_reducible refine c_seq ?_
        with_reducible refine c_seq ?_
        with_reducible refine c_region ?_
        refine stepD rfl F rfl (o_fieldAddr (F.ev rfl) ?_); clear F; clear a; intro a F
        refine stepD rfl F rfl (o_load1 M (F.ev rfl) (by repeat (first | exact .here | apply Has.there)) (by first | assumption | rfl) ?_); clear F; clear a; intro a F
        refine stepD rfl F rfl (o_lenSl (F.ev rfl) ?_); clear F; clear a; intro a F
        refine stepD rfl F rfl (o_move (F.ev rfl) ?_); clear F; clear a; intro a F
        with_reducible refine l_nil ?_
        with_reducible refine q_then ?_
        with_reducible refine c_block ?_
        refine c_loop (fun m a w => ∃ i : Nat, m = cs.length - i ∧ i ≤ cs.length ∧ (∀ j, j < i → ctx1 cs j = true) ∧ Frm a 85 [] [(50, .int .i64 i), (49, .int .i64 cs.length), (48, .slice q2 cs.length cap2), (1, .pointer (some ⟨b1, 0, none⟩))] ∧ Mem [] W w [(b1, .cells oc.toArray 58 (0, 0))]) cs.length ⟨0, rfl, by omega, by omega, F.only [50, 49, 48, 1] rfl, M⟩ ?_
        clear F M
        rintro m a w ⟨i, hm, hi, hv2, F, M⟩
        by_cases hlt : i < cs.length
        · obtain ⟨b, o, cs', t, fz, rfl, hb, hs⟩ := hm2 (by omega)
          obtain ⟨c, hc0⟩ : ∃ c, c = cs[i] := ⟨_, rfl⟩
          have hci : IsCi c := by rw [hc0]; exact hcs _ (List.getElem_mem hlt)
          have f1 : seg cs' (o + (i : Int).toNat * 20) 20 = some (ciC c) := by rw [hc0]; exact seg_el (cis_len hcs) hs hlt (by omega)
          have f2 := ci_id hci
          have f3 := ci_pre hci
          have hct := ctx1_at hlt
          rw [← hc0] at hct
          with_reducible refine c_seq ?_
          with_reducible refine c_region ?_
          refine stepD rfl F rfl (o_lssT (F.ev rfl) (F.ev rfl) (by omega) ?_); clear F; clear a; intro a F
          with_reducible refine l_nil ?_
          with_reducible refine q_then ?_
          with_reducible refine c_seq ?_
          refine c_true F rfl rfl ?_
          with_reducible refine c_skip ?_
          with_reducible refine q_then ?_
          with_reducible refine c_seq ?_
          with_reducible refine c_block ?_
          with_reducible refine c_seq ?_
          with_reducible refine c_region ?_
          refine stepD rfl F rfl (o_move (F.ev rfl) ?_); clear F; clear a; intro a F
          refine stepD rfl F rfl (o_indexSl (F.ev rfl) (F.ev rfl) (by omega) (by omega) ?_); clear F; clear a; intro a F
          refine stepD rfl F rfl (o_loadWA M (F.ev rfl) (by assumption) (by first | assumption | rfl) ?_); clear F; clear a; intro a F
          (refine stepD rfl F rfl (o_alloc M ?_); clear F; clear M; intro b7 w M a F)
          refine stepD rfl F rfl (o_assign (F.ev rfl) ?_); clear F; clear a; intro a F
          (refine stepN rfl F (o_storeA M (F.ev rfl) (F.ev rfl) (ci_len hci) (ci_one _)  (by repeat (first | exact .here | apply Has.there))  (put_all (by rw [ci_len hci]; rfl)) (by repeat (first | exact .here | apply Upd.there)) ?_); clear F; clear M; intro w M a F)
          by_cases c1 : c.id < 0
          · have : allI (ctx1 cs) cs.length = false := allI_f hlt (by rw [hct, decide_eq_false (by omega)]; rfl)
            rw [this]
            with_reducible refine l_nil ?_
            with_reducible refine q_then ?_
            with_reducible refine c_seq ?_
            with_reducible refine c_seq ?_
            with_reducible refine c_region ?_
            refine stepD rfl F rfl (o_fieldAddr (F.ev rfl) ?_); clear F; clear a; intro a F
            refine stepD rfl F rfl (o_load1 M (F.ev rfl) (by repeat (first | exact .here | apply Has.there)) (by first | assumption | rfl) ?_); clear F; clear a; intro a F
            refine stepD rfl F rfl (o_lssT (F.ev rfl) (F.ev rfl) (by omega) ?_); clear F; clear a; intro a F
            refine stepD rfl F rfl (o_move (F.ev rfl) ?_); clear F; clear a; intro a F
            refine stepOff F rfl rfl rfl rfl ?_; clear F; clear a; intro a F
            refine stepOff F rfl rfl rfl rfl ?_; clear F; clear a; intro a F
            refine stepOff F rfl rfl rfl rfl ?_; clear F; clear a; intro a F
            refine stepD rfl F rfl (o_pickT (F.ev rfl) (F.ev rfl) ?_); clear F; clear a; intro a F
            refine stepD rfl F rfl (o_move (F.ev rfl) ?_); clear F; clear a; intro a F
            refine stepOff F rfl rfl rfl rfl ?_; clear F; clear a; intro a F
            refine stepOff F rfl rfl rfl rfl ?_; clear F; clear a; intro a F
            refine stepOff F rfl rfl rfl rfl ?_; clear F; clear a; intro a F
            refine stepOff F rfl rfl rfl rfl ?_; clear F; clear a; intro a F
            refine stepD rfl F rfl (o_pickT (F.ev rfl) (F.ev rfl) ?_); clear F; clear a; intro a F
            with_reducible refine l_nil ?_
            with_reducible refine q_then ?_
            refine c_true F rfl rfl ?_
            with_reducible refine c_seq ?_
            with_reducible refine c_region ?_
            refine stepD rfl F rfl (o_assign (F.ev rfl) ?_); clear F; clear a; intro a F
            with_reducible refine l_nil ?_
            with_reducible refine q_then ?_
            with_reducible refine c_ret ?_
            with_reducible refine q_thenR ?_
            with_reducible refine q_inBR ?_
            with_reducible refine q_thenR ?_
            with_reducible refine q_thenR ?_
            with_reducible refine q_inBR ?_
            with_reducible refine q_thenR ?_
            refine p_ret F rfl (.cons (.tmp (F.ev rfl)) .nil) ?_
            exact ⟨rfl, M.ext⟩
          by_cases c2 : 16 ≤ c.id
          · have : allI (ctx1 cs) cs.length = false := allI_f hlt (by rw [hct, decide_eq_false (show ¬ c.id < 16 by omega)]; simp)
            rw [this]
            with_reducible refine l_nil ?_
            with_reducible refine q_then ?_
            with_reducible refine c_seq ?_
            with_reducible refine c_seq ?_
            with_reducible refine c_region ?_
            refine stepD rfl F rfl (o_fieldAddr (F.ev rfl) ?_); clear F; clear a; intro a F
            refine stepD rfl F rfl (o_load1 M (F.ev rfl) (by repeat (first | exact .here | apply Has.there)) (by first | assumption | rfl) ?_); clear F; clear a; intro a F
            refine stepD rfl F rfl (o_lssF (F.ev rfl) (F.ev rfl) (by omega) ?_); clear F; clear a; intro a F
            refine stepD rfl F rfl (o_move (F.ev rfl) ?_); clear F; clear a; intro a F
            refine stepG rfl F rfl rfl rfl (o_fieldAddr (F.ev rfl) ?_); clear F; clear a; intro a F
            refine stepG rfl F rfl rfl rfl (o_load1 M (F.ev rfl) (by repeat (first | exact .here | apply Has.there)) (by first | assumption | rfl) ?_); clear F; clear a; intro a F
            refine stepG rfl F rfl rfl rfl (o_gtrT (F.ev rfl) (F.ev rfl) (by omega) ?_); clear F; clear a; intro a F
            refine stepD rfl F rfl (o_pickF (F.ev rfl) (F.ev rfl) ?_); clear F; clear a; intro a F
            refine stepD rfl F rfl (o_move (F.ev rfl) ?_); clear F; clear a; intro a F
            refine stepOff F rfl rfl rfl rfl ?_; clear F; clear a; intro a F
            refine stepOff F rfl rfl rfl rfl ?_; clear F; clear a; intro a F
            refine stepOff F rfl rfl rfl rfl ?_; clear F; clear a; intro a F
            refine stepOff F rfl rfl rfl rfl ?_; clear F; clear a; intro a F
            refine stepD rfl F rfl (o_pickT (F.ev rfl) (F.ev rfl) ?_); clear F; clear a; intro a F
            with_reducible refine l_nil ?_
            with_reducible refine q_then ?_
            refine c_true F rfl rfl ?_
            with_reducible refine c_seq ?_
            with_reducible refine c_region ?_
            refine stepD rfl F rfl (o_assign (F.ev rfl) ?_); clear F; clear a; intro a F
            with_reducible refine l_nil ?_
            with_reducible refine q_then ?_
            with_reducible refine c_ret ?_
            with_reducible refine q_thenR ?_
            with_reducible refine q_inBR ?_
            with_reducible refine q_thenR ?_
            with_reducible refine q_thenR ?_
            with_reducible refine q_inBR ?_
            with_reducible refine q_thenR ?_
            refine p_ret F rfl (.cons (.tmp (F.ev rfl)) .nil) ?_
            exact ⟨rfl, M.ext⟩
          rw [decide_eq_true (show 0 ≤ c.id by omega), decide_eq_true (show c.id < 16 by omega), Bool.true_and, Bool.true_and] at hct
          cases c4 : validP c.ip c.bits
          · have : allI (ctx1 cs) cs.length = false := allI_f hlt (by rw [hct, c4]; simp)
            rw [this]
            with_reducible refine l_nil ?_
            with_reducible refine q_then ?_
            with_reducible refine c_seq ?_
            with_reducible refine c_seq ?_
            with_reducible refine c_region ?_
            refine stepD rfl F rfl (o_fieldAddr (F.ev rfl) ?_); clear F; clear a; intro a F
            refine stepD rfl F rfl (o_load1 M (F.ev rfl) (by repeat (first | exact .here | apply Has.there)) (by first | assumption | rfl) ?_); clear F; clear a; intro a F
            refine stepD rfl F rfl (o_lssF (F.ev rfl) (F.ev rfl) (by omega) ?_); clear F; clear a; intro a F
            refine stepD rfl F rfl (o_move (F.ev rfl) ?_); clear F; clear a; intro a F
            refine stepG rfl F rfl rfl rfl (o_fieldAddr (F.ev rfl) ?_); clear F; clear a; intro a F
            refine stepG rfl F rfl rfl rfl (o_load1 M (F.ev rfl) (by repeat (first | exact .here | apply Has.there)) (by first | assumption | rfl) ?_); clear F; clear a; intro a F
            refine stepG rfl F rfl rfl rfl (o_gtrF (F.ev rfl) (F.ev rfl) (by omega) ?_); clear F; clear a; intro a F
            refine stepD rfl F rfl (o_pickF (F.ev rfl) (F.ev rfl) ?_); clear F; clear a; intro a F
            refine stepD rfl F rfl (o_move (F.ev rfl) ?_); clear F; clear a; intro a F
            refine stepG rfl F rfl rfl rfl (o_fieldAddr (F.ev rfl) ?_); clear F; clear a; intro a F
            refine stepG rfl F rfl rfl rfl (o_loadA M (F.ev rfl) (by repeat (first | exact .here | apply Has.there)) (by first | assumption | rfl) ?_); clear F; clear a; intro a F
            (refine stepG rfl F rfl rfl rfl (o_call (F.ev rfl) (F.evs rfl) (Cal.mono (rvalidPrefix_c c.ip c.bits hci _) ?_)); clear F; clear a; rintro _ w ⟨rfl, hE⟩ a F; replace M := M.later hE; clear hE)
            rw [c4] at F
            refine stepG rfl F rfl rfl rfl (o_not (F.ev rfl) ?_); clear F; clear a; intro a F
            refine stepD rfl F rfl (o_pickF (F.ev rfl) (F.ev rfl) ?_); clear F; clear a; intro a F
            with_reducible refine l_nil ?_
            with_reducible refine q_then ?_
            refine c_true F rfl rfl ?_
            with_reducible refine c_seq ?_
            with_reducible refine c_region ?_
            refine stepD rfl F rfl (o_assign (F.ev rfl) ?_); clear F; clear a; intro a F
            with_reducible refine l_nil ?_
            with_reducible refine q_then ?_
            with_reducible refine c_ret ?_
            with_reducible refine q_thenR ?_
            with_reducible refine q_inBR ?_
            with_reducible refine q_thenR ?_
            with_reducible refine q_thenR ?_
            with_reducible refine q_inBR ?_
            with_reducible refine q_thenR ?_
            refine p_ret F rfl (.cons (.tmp (F.ev rfl)) .nil) ?_
            exact ⟨rfl, M.ext⟩
          rw [c4, Bool.and_true] at hct
          with_reducible refine l_nil ?_
          with_reducible refine q_then ?_
          with_reducible refine c_seq ?_
          with_reducible refine c_seq ?_
          with_reducible refine c_region ?_
          refine stepD rfl F rfl (o_fieldAddr (F.ev rfl) ?_); clear F; clear a; intro a F
          refine stepD rfl F rfl (o_load1 M (F.ev rfl) (by repeat (first | exact .here | apply Has.there)) (by first | assumption | rfl) ?_); clear F; clear a; intro a F
          refine stepD rfl F rfl (o_lssF (F.ev rfl) (F.ev rfl) (by omega) ?_); clear F; clear a; intro a F
          refine stepD rfl F rfl (o_move (F.ev rfl) ?_); clear F; clear a; intro a F
          refine stepG rfl F rfl rfl rfl (o_fieldAddr (F.ev rfl) ?_); clear F; clear a; intro a F
          refine stepG rfl F rfl rfl rfl (o_load1 M (F.ev rfl) (by repeat (first | exact .here | apply Has.there)) (by first | assumption | rfl) ?_); clear F; clear a; intro a F
          refine stepG rfl F rfl rfl rfl (o_gtrF (F.ev rfl) (F.ev rfl) (by omega) ?_); clear F; clear a; intro a F
          refine stepD rfl F rfl (o_pickF (F.ev rfl) (F.ev rfl) ?_); clear F; clear a; intro a F
          refine stepD rfl F rfl (o_move (F.ev rfl) ?_); clear F; clear a; intro a F
          refine stepG rfl F rfl rfl rfl (o_fieldAddr (F.ev rfl) ?_); clear F; clear a; intro a F
          refine stepG rfl F rfl rfl rfl (o_loadA M (F.ev rfl) (by repeat (first | exact .here | apply Has.there)) (by first | assumption | rfl) ?_); clear F; clear a; intro a F
          (refine stepG rfl F rfl rfl rfl (o_call (F.ev rfl) (F.evs rfl) (Cal.mono (rvalidPrefix_c c.ip c.bits hci _) ?_)); clear F; clear a; rintro _ w ⟨rfl, hE⟩ a F; replace M := M.later hE; clear hE)
          rw [c4] at F
          refine stepG rfl F rfl rfl rfl (o_not (F.ev rfl) ?_); clear F; clear a; intro a F
          refine stepD rfl F rfl (o_pickF (F.ev rfl) (F.ev rfl) ?_); clear F; clear a; intro a F
          with_reducible refine l_nil ?_
          with_reducible refine q_then ?_
          refine c_false F rfl rfl ?_
          with_reducible refine c_skip ?_
          with_reducible refine q_then ?_
          with_reducible refine c_seq ?_
          with_reducible refine c_region ?_
          refine stepD rfl F rfl (o_fieldAddr (F.ev rfl) ?_); clear F; clear a; intro a F
          refine stepD rfl F rfl (o_load1 M (F.ev rfl) (by repeat (first | exact .here | apply Has.there)) (by first | assumption | rfl) ?_); clear F; clear a; intro a F
          refine stepD rfl F rfl (o_move (F.ev rfl) ?_); clear F; clear a; intro a F
          (refine stepD rfl F rfl (o_slH (F.ev rfl) (F.ev rfl) (by simp) (by omega) (by omega) ?_); clear F; clear a; intro a F)
          refine stepD rfl F rfl (o_lenSl (F.ev rfl) ?_); clear F; clear a; intro a F
          refine stepD rfl F rfl (o_move (F.ev rfl) ?_); clear F; clear a; intro a F
          with_reducible refine l_nil ?_
          with_reducible refine q_then ?_
          with_reducible refine c_block ?_
          refine c_loop (fun m a w => ∃ j : Nat, m = i - j ∧ j ≤ i ∧ (∀ r (hr : r < j) (hl : r < cs.length), ¬ cs[r].id = c.id) ∧ Frm a 85 [] [(74, .int .i64 j), (73, .int .i64 i), (72, .slice (some ⟨b, o, none⟩) i cap2), (50, .int .i64 i), (49, .int .i64 cs.length), (48, .slice (some ⟨b, o, none⟩) cs.length cap2), (6, .pointer (some ⟨b7, 0, none⟩)), (1, .pointer (some ⟨b1, 0, none⟩))] ∧ Mem [] W w [(b7, .cells (ciC c).toArray 116 (0, 0)), (b1, .cells oc.toArray 58 (0, 0))]) i ⟨0, rfl, by omega, by omega, F.only [74, 73, 72, 50, 49, 48, 6, 1] rfl, M⟩ ?_
          clear F M
          rintro m2 a w ⟨j, hm3, hj, hno, F, M⟩
          by_cases hjl : j < i
          · obtain ⟨d, hd0⟩ : ∃ d, d = cs[j] := ⟨_, rfl⟩
            have hdi : IsCi d := by rw [hd0]; exact hcs _ (List.getElem_mem _)
            have g1 : seg cs' (o + (j : Int).toNat * 20) 20 = some (ciC d) := by rw [hd0]; exact seg_el (cis_len hcs) hs (by omega) (by omega)
            have g2 := ci_id hdi
            with_reducible refine c_seq ?_
            with_reducible refine c_region ?_
            refine stepD rfl F rfl (o_lssT (F.ev rfl) (F.ev rfl) (by omega) ?_); clear F; clear a; intro a F
            with_reducible refine l_nil ?_
            with_reducible refine q_then ?_
            with_reducible refine c_seq ?_
            refine c_true F rfl rfl ?_
            with_reducible refine c_skip ?_
            with_reducible refine q_then ?_
            with_reducible refine c_seq ?_
            with_reducible refine c_block ?_
            with_reducible refine c_seq ?_
            with_reducible refine c_region ?_
            refine stepD rfl F rfl (o_indexSl (F.ev rfl) (F.ev rfl) (by omega) (by omega) ?_); clear F; clear a; intro a F
            refine stepD rfl F rfl (o_loadWA M (F.ev rfl) (by assumption) (by first | assumption | rfl) ?_); clear F; clear a; intro a F
            (refine stepD rfl F rfl (o_alloc M ?_); clear F; clear M; intro b8 w M a F)
            (refine stepN rfl F (o_storeA M (F.ev rfl) (F.ev rfl) (ci_len hdi) (ci_one _)  (by repeat (first | exact .here | apply Has.there))  (put_all (by rw [ci_len hdi]; rfl)) (by repeat (first | exact .here | apply Upd.there)) ?_); clear F; clear M; intro w M a F)
            by_cases c5 : d.id = c.id
            · have : allI (ctx1 cs) cs.length = false := allI_f hlt (by
                rw [hct, Bool.not_eq_false', List.any_eq_true]
                exact ⟨d, by rw [hd0]; exact List.mem_take_iff_getElem.2 ⟨j, by omega, rfl⟩, by simpa using c5⟩)
              rw [this]
              with_reducible refine l_nil ?_
              with_reducible refine q_then ?_
              with_reducible refine c_seq ?_
              with_reducible refine c_region ?_
              refine stepD rfl F rfl (o_fieldAddr (F.ev rfl) ?_); clear F; clear a; intro a F
              refine stepD rfl F rfl (o_load1 M (F.ev rfl) (by repeat (first | exact .here | apply Has.there)) (by first | assumption | rfl) ?_); clear F; clear a; intro a F
              refine stepD rfl F rfl (o_fieldAddr (F.ev rfl) ?_); clear F; clear a; intro a F
              refine stepD rfl F rfl (o_load1 M (F.ev rfl) (by repeat (first | exact .here | apply Has.there)) (by first | assumption | rfl) ?_); clear F; clear a; intro a F
              refine stepD rfl F rfl (o_eqlT (F.ev rfl) (F.ev rfl) (by omega) ?_); clear F; clear a; intro a F
              with_reducible refine l_nil ?_
              with_reducible refine q_then ?_
              refine c_true F rfl rfl ?_
              with_reducible refine c_seq ?_
              with_reducible refine c_region ?_
              refine stepD rfl F rfl (o_assign (F.ev rfl) ?_); clear F; clear a; intro a F
              with_reducible refine l_nil ?_
              with_reducible refine q_then ?_
              with_reducible refine c_ret ?_
              with_reducible refine q_inBR ?_
              with_reducible refine q_thenR ?_
              with_reducible refine q_thenR ?_
              with_reducible refine q_inBR ?_
              with_reducible refine q_inBR ?_
              with_reducible refine q_thenR ?_
              with_reducible refine q_thenR ?_
              with_reducible refine q_inBR ?_
              with_reducible refine q_thenR ?_
              refine p_ret F rfl (.cons (.tmp (F.ev rfl)) .nil) ?_
              exact ⟨rfl, M.ext⟩
            · with_reducible refine l_nil ?_
              with_reducible refine q_then ?_
              with_reducible refine c_seq ?_
              with_reducible refine c_region ?_
              refine stepD rfl F rfl (o_fieldAddr (F.ev rfl) ?_); clear F; clear a; intro a F
              refine stepD rfl F rfl (o_load1 M (F.ev rfl) (by repeat (first | exact .here | apply Has.there)) (by first | assumption | rfl) ?_); clear F; clear a; intro a F
              refine stepD rfl F rfl (o_fieldAddr (F.ev rfl) ?_); clear F; clear a; intro a F
              refine stepD rfl F rfl (o_load1 M (F.ev rfl) (by repeat (first | exact .here | apply Has.there)) (by first | assumption | rfl) ?_); clear F; clear a; intro a F
              refine stepD rfl F rfl (o_eqlF (F.ev rfl) (F.ev rfl) (by omega) ?_); clear F; clear a; intro a F
              with_reducible refine l_nil ?_
              with_reducible refine q_then ?_
              refine c_false F rfl rfl ?_
              with_reducible refine c_skip ?_
              with_reducible refine q_inB ?_
              with_reducible refine q_then ?_
              with_reducible refine c_region ?_
              refine stepD rfl F rfl (o_add (F.ev rfl) (F.ev rfl) (w_i64 (by omega) (by omega)) ?_); clear F; clear a; intro a F
              refine stepD rfl F rfl (o_move (F.ev rfl) ?_); clear F; clear a; intro a F
              with_reducible refine l_nil ?_
              with_reducible refine q_then ?_
              exact ⟨_, by omega, j + 1, rfl, by omega, fun r hr hl => by
                rcases Nat.lt_or_ge r j with h1 | h1
                · exact hno r h1 hl
                · obtain rfl : r = j := by omega
                  rw [← hd0]; exact c5, F.only [74, 73, 72, 50, 49, 48, 6, 1] rfl, M.sub (.cons _ (.refl _))⟩
          · obtain rfl : j = i := by omega
            with_reducible refine c_seq ?_
            with_reducible refine c_region ?_
            refine stepD rfl F rfl (o_lssF (F.ev rfl) (F.ev rfl) (by omega) ?_); clear F; clear a; intro a F
            with_reducible refine l_nil ?_
            with_reducible refine q_then ?_
            with_reducible refine c_seq ?_
            refine c_false F rfl rfl ?_
            with_reducible refine c_exit ?_
            with_reducible refine q_thenX ?_
            with_reducible refine q_thenX ?_
            with_reducible refine q_inBX ?_
            with_reducible refine q_inB ?_
            with_reducible refine q_then ?_
            with_reducible refine c_region ?_
            refine stepD rfl F rfl (o_add (F.ev rfl) (F.ev rfl) (w_i64 (by omega) (by omega)) ?_); clear F; clear a; intro a F
            refine stepD rfl F rfl (o_move (F.ev rfl) ?_); clear F; clear a; intro a F
            with_reducible refine l_nil ?_
            with_reducible refine q_then ?_
            exact ⟨_, by omega, j + 1, rfl, by omega, fun r hr => by
              rcases Nat.lt_or_ge r j with h1 | h1
              · exact hv2 r h1
              · obtain rfl : r = j := by omega
                rw [hct, Bool.not_eq_true', List.any_eq_false]
                intro x hx
                obtain ⟨r', hr', rfl⟩ := List.mem_take_iff_getElem.1 hx
                simpa using hno r' (by omega) (by omega), F.only [50, 49, 48, 1] rfl, M.sub (.cons _ (.refl _))⟩
        · obtain rfl : i = cs.length := by omega
          have : allI (ctx1 cs) cs.length = true := allI_t hv2
          rw [this]
          with_reducible refine c_seq ?_
          with_reducible refine c_region ?_
          refine stepD rfl F rfl (o_lssF (F.ev rfl) (F.ev rfl) (by omega) ?_); clear F; clear a; intro a F
          with_reducible refine l_nil ?_
          with_reducible refine q_then ?_
          with_reducible refine c_seq ?_
          refine c_false F rfl rfl ?_
          with_reducible refine c_exit ?_
          with_reducible refine q_thenX ?_
          with_reducible refine q_thenX ?_
          with_reducible refine q_inBX ?_
          with_reducible refine q_then ?_
          with_reducible refine c_seq ?_
          with_reducible refine c_region ?_
          refine stepD rfl F rfl (o_assign (F.ev rfl) ?_); clear F; clear a; intro a F
          with_reducible refine l_nil ?_
          with_reducible refine q_then ?_
          with_reducible refine c_ret ?_
          refine p_ret F rfl (.cons (.tmp (F.ev rfl)) .nil) ?_
          exact ⟨rfl, M.ext⟩
end Go.Proofs.Ytainnefmobfcjaa
/-! F3 -/
namespace Go.Proofs.Ytainnefmobfcjaa
set_option linter.unusedVariables false
set_option linter.unusedSimpArgs false
open Go.RowKit
attribute [local irreducible] OpTo wpListIn Code.wpIn MW Cal
def valid1 (os : List Off) (i : Nat) : Bool := match os[i]? with
  | none => true
  | some o => validO o && (decide (i = 0) || if h : i - 1 < os.length then decide (cmpL os[i - 1].h.rt o.h.rt < 0) else true)
def validL (os : List Off) : Bool := decide (os.length ≤ 8) && allI (valid1 os) os.length
theorem valid1_at {xs : List OV} {i : Nat} (h : i < xs.length) : valid1 (xs.map (·.o)) i = (validO xs[i].o && (decide (i = 0) || if h : i - 1 < xs.length then decide (cmpL xs[i - 1].o.h.rt xs[i].o.h.rt < 0) else true)) := by
  unfold valid1
  rw [List.getElem?_map, List.getElem?_eq_getElem h]
  simp only [Option.map_some, List.length_map, List.getElem_map]
set_option maxHeartbeats 2000000 in
theorem copy_c (x : OV) (hx : IsOff x.o) (h1 : x.o.ps.length ≤ 100000) (h2 : x.o.cs.length ≤ 100000) (W : World) (hA : OffAt W x) :
    Cal Try.prog 55 [.agg (ovC x).toArray].toArray W fun r w' => ∃ u v eu ev, r = .agg (ovC ⟨x.o, u, v⟩).toArray ∧ OwnS 111 20 u x.o.ps.length (pisC x.o.ps) eu ∧ OwnS 116 20 v x.o.cs.length (cisC x.o.cs) ev ∧ Mem [] W w' (eu ++ ev) := by
  have hh := hx.1
  have hA1 := hA.1
  have hA2 := hA.2
  obtain ⟨q1, cap1, hu, _⟩ := hA.1
  obtain ⟨q2, cap2, hv, _⟩ := hA.2
  unfold ovC
  dsimp only
  have e1 := of_ps hh x.u x.v
  refine fn_ofM (n := 12) [] Try.func55 rfl rfl rfl ?_
  intro a w F M hwW
  refine c_seq ?_
  refine c_region ?_
  (refine stepD rfl F rfl (o_box M (F.ev rfl) rfl ?_); clear F; clear M; intro b1 w M a F)
  (refine stepD rfl F rfl (o_alloc M ?_); clear F; clear M; intro b2 w M a F)
  with_reducible refine l_nil ?_
  with_reducible refine q_then ?_
  with_reducible refine c_seq ?_
  with_reducible refine c_region ?_
  refine stepD rfl F rfl (o_fieldAddr (F.ev rfl) ?_); clear F; clear a; intro a F
  refine stepD rfl F rfl (o_load1 M (F.ev rfl) (by repeat (first | exact .here | apply Has.there)) (by first | assumption | rfl) ?_); clear F; clear a; intro a F
  rw [hu] at F
  (refine stepD rfl F rfl (o_append (OwnS.nil 111 20) M (.cons (.cons .here)) (F.ev rfl) (F.ev rfl) (hu ▸ (hA1.later M.ext).src pis_one) (by omega) (by omega) ?_); clear F; clear M; intro u2 eu w hO M a F)
  rw [Nat.zero_add, List.nil_append] at hO
  obtain ⟨p2, c2, rfl⟩ := hO.slice
  have g1 := of_put_ps hh x.u x.v (.slice p2 x.o.ps.length c2)
  refine stepD rfl F rfl (o_fieldAddr (F.ev rfl) ?_); clear F; clear a; intro a F
  (refine stepN rfl F (o_store1 M (F.ev rfl) (F.ev rfl) rfl (by repeat (first | exact .here | apply Has.there)) (g1) (by repeat (first | exact .here | apply Upd.there)) ?_); clear F; clear M; intro w M a F)
  have e2 := of_cs hh (.slice p2 x.o.ps.length c2) x.v
  with_reducible refine l_nil ?_
  with_reducible refine q_then ?_
  with_reducible refine c_seq ?_
  with_reducible refine c_region ?_
  refine stepD rfl F rfl (o_fieldAddr (F.ev rfl) ?_); clear F; clear a; intro a F
  refine stepD rfl F rfl (o_load1 M (F.ev rfl) (by repeat (first | exact .here | apply Has.there)) (by first | assumption | rfl) ?_); clear F; clear a; intro a F
  rw [hv] at F
  rw [← List.append_nil eu] at M
  (refine stepD rfl F rfl (o_append (OwnS.nil 116 20) M (.cons (.cons (.app .here))) (F.ev rfl) (F.ev rfl) (hv ▸ (hA2.later M.ext).src cis_one) (by omega) (by omega) ?_); clear F; clear M; intro v2 ev w hO2 M a F)
  rw [Nat.zero_add, List.nil_append] at hO2
  obtain ⟨p3, c3, rfl⟩ := hO2.slice
  have g2 := of_put_cs hh (.slice p2 x.o.ps.length c2) x.v (.slice p3 x.o.cs.length c3)
  refine stepD rfl F rfl (o_fieldAddr (F.ev rfl) ?_); clear F; clear a; intro a F
  (refine stepN rfl F (o_store1 M (F.ev rfl) (F.ev rfl) rfl (by repeat (first | exact .here | apply Has.there)) (g2) (by repeat (first | exact .here | apply Upd.there)) ?_); clear F; clear M; intro w M a F)
  have g3 := of_all hh (.slice p2 x.o.ps.length c2) (.slice p3 x.o.cs.length c3)
  have g4 := of_len hh (.slice p2 x.o.ps.length c2) (.slice p3 x.o.cs.length c3)
  with_reducible refine l_nil ?_
  with_reducible refine q_then ?_
  with_reducible refine c_seq ?_
  with_reducible refine c_region ?_
  refine stepD rfl F rfl (o_loadA M (F.ev rfl) (by repeat (first | exact .here | apply Has.there)) (by first | assumption | rfl) ?_); clear F; clear a; intro a F
  (refine stepN rfl F (o_storeA M (F.ev rfl) (F.ev rfl) (g4) (of_one _ _ _ rfl rfl)  (by repeat (first | exact .here | apply Has.there))  (put_all (by rw [g4]; rfl)) (by repeat (first | exact .here | apply Upd.there)) ?_); clear F; clear M; intro w M a F)
  with_reducible refine l_nil ?_
  with_reducible refine q_then ?_
  with_reducible refine c_ret ?_
  exact p_ret F rfl (.cons (.cell (F.ev rfl) (run_loadVar_agg TAgg.h (M.heap .here) g3)) .nil) ⟨_, _, eu, ev, rfl, hO, hO2, M.sub (.cons _ (.cons _ (.refl _)))⟩
set_option maxHeartbeats 2000000 in
theorem rcopy_c (x : OV) (hx : IsOff x.o) (h1 : x.o.ps.length ≤ 100000) (h2 : x.o.cs.length ≤ 100000) (W : World) (hA : OffAt W x) :
    Cal Try.prog 63 [.agg (ovC x).toArray].toArray W fun r w' => ∃ u v eu ev, r = .agg (ovC ⟨x.o, u, v⟩).toArray ∧ OwnS 111 20 u x.o.ps.length (pisC x.o.ps) eu ∧ OwnS 116 20 v x.o.cs.length (cisC x.o.cs) ev ∧ Mem [] W w' (eu ++ ev) := by
  have hh := hx.1
  have hA1 := hA.1
  have hA2 := hA.2
  obtain ⟨q1, cap1, hu, _⟩ := hA.1
  obtain ⟨q2, cap2, hv, _⟩ := hA.2
  unfold ovC
  dsimp only
  have e1 := of_ps hh x.u x.v
  refine fn_ofM (n := 12) [] Try.func63 rfl rfl rfl ?_
  intro a w F M hwW
  refine c_seq ?_
  refine c_region ?_
  (refine stepD rfl F rfl (o_box M (F.ev rfl) rfl ?_); clear F; clear M; intro b1 w M a F)
  (refine stepD rfl F rfl (o_alloc M ?_); clear F; clear M; intro b2 w M a F)
  with_reducible refine l_nil ?_
  with_reducible refine q_then ?_
  with_reducible refine c_seq ?_
  with_reducible refine c_region ?_
  refine stepD rfl F rfl (o_fieldAddr (F.ev rfl) ?_); clear F; clear a; intro a F
  refine stepD rfl F rfl (o_load1 M (F.ev rfl) (by repeat (first | exact .here | apply Has.there)) (by first | assumption | rfl) ?_); clear F; clear a; intro a F
  rw [hu] at F
  (refine stepD rfl F rfl (o_append (OwnS.nil 111 20) M (.cons (.cons .here)) (F.ev rfl) (F.ev rfl) (hu ▸ (hA1.later M.ext).src pis_one) (by omega) (by omega) ?_); clear F; clear M; intro u2 eu w hO M a F)
  rw [Nat.zero_add, List.nil_append] at hO
  obtain ⟨p2, c2, rfl⟩ := hO.slice
  have g1 := of_put_ps hh x.u x.v (.slice p2 x.o.ps.length c2)
  refine stepD rfl F rfl (o_fieldAddr (F.ev rfl) ?_); clear F; clear a; intro a F
  (refine stepN rfl F (o_store1 M (F.ev rfl) (F.ev rfl) rfl (by repeat (first | exact .here | apply Has.there)) (g1) (by repeat (first | exact .here | apply Upd.there)) ?_); clear F; clear M; intro w M a F)
  have e2 := of_cs hh (.slice p2 x.o.ps.length c2) x.v
  with_reducible refine l_nil ?_
  with_reducible refine q_then ?_
  with_reducible refine c_seq ?_
  with_reducible refine c_region ?_
  refine stepD rfl F rfl (o_fieldAddr (F.ev rfl) ?_); clear F; clear a; intro a F
  refine stepD rfl F rfl (o_load1 M (F.ev rfl) (by repeat (first | exact .here | apply Has.there)) (by first | assumption | rfl) ?_); clear F; clear a; intro a F
  rw [hv] at F
  rw [← List.append_nil eu] at M
  (refine stepD rfl F rfl (o_append (OwnS.nil 116 20) M (.cons (.cons (.app .here))) (F.ev rfl) (F.ev rfl) (hv ▸ (hA2.later M.ext).src cis_one) (by omega) (by omega) ?_); clear F; clear M; intro v2 ev w hO2 M a F)
  rw [Nat.zero_add, List.nil_append] at hO2
  obtain ⟨p3, c3, rfl⟩ := hO2.slice
  have g2 := of_put_cs hh (.slice p2 x.o.ps.length c2) x.v (.slice p3 x.o.cs.length c3)
  refine stepD rfl F rfl (o_fieldAddr (F.ev rfl) ?_); clear F; clear a; intro a F
  (refine stepN rfl F (o_store1 M (F.ev rfl) (F.ev rfl) rfl (by repeat (first | exact .here | apply Has.there)) (g2) (by repeat (first | exact .here | apply Upd.there)) ?_); clear F; clear M; intro w M a F)
  have g3 := of_all hh (.slice p2 x.o.ps.length c2) (.slice p3 x.o.cs.length c3)
  have g4 := of_len hh (.slice p2 x.o.ps.length c2) (.slice p3 x.o.cs.length c3)
  with_reducible refine l_nil ?_
  with_reducible refine q_then ?_
  with_reducible refine c_seq ?_
  with_reducible refine c_region ?_
  refine stepD rfl F rfl (o_loadA M (F.ev rfl) (by repeat (first | exact .here | apply Has.there)) (by first | assumption | rfl) ?_); clear F; clear a; intro a F
  (refine stepN rfl F (o_storeA M (F.ev rfl) (F.ev rfl) (g4) (of_one _ _ _ rfl rfl)  (by repeat (first | exact .here | apply Has.there))  (put_all (by rw [g4]; rfl)) (by repeat (first | exact .here | apply Upd.there)) ?_); clear F; clear M; intro w M a F)
  with_reducible refine l_nil ?_
  with_reducible refine q_then ?_
  with_reducible refine c_ret ?_
  exact p_ret F rfl (.cons (.cell (F.ev rfl) (run_loadVar_agg TAgg.h (M.heap .here) g3)) .nil) ⟨_, _, eu, ev, rfl, hO, hO2, M.sub (.cons _ (.cons _ (.refl _)))⟩
set_option maxHeartbeats 4000000 in
theorem validL_c (xs : List OV) (hx : ∀ x ∈ xs, IsOff x.o) (v : Value) (W : World) (hS : SlAt W 20 v xs.length (encL ovC xs)) (hA : ∀ x ∈ xs, OffAt W x) :
    Cal Try.prog 53 [v].toArray W fun r w' => r = .bool (validL (xs.map (·.o))) ∧ Ext [] W w' := by
  obtain ⟨q, cap, rfl, hcap, hsp, hl, hm⟩ := hS
  unfold validL
  rw [List.length_map]
  have hle : ∀ x ∈ xs, (ovC x).length = 20 := fun x h => ov_len (hx x h)
  by_cases c0 : 8 < xs.length
  · rw [decide_eq_false (by omega), Bool.false_and]
    refine fn_ofM (n := 35) [] Try.func53 rfl rfl rfl ?_
    intro a w F M hwW
    with_reducible refine c_seq ?_
    with_reducible refine c_region ?_
    refine stepD rfl F rfl (o_assign (F.ev rfl) ?_); clear F; clear a; intro a F
    with_reducible refine l_nil ?_
    with_reducible refine q_then ?_
    with_reducible refine c_seq ?_
    with_reducible refine c_seq ?_
    with_reducible refine c_region ?_
    refine stepD rfl F rfl (o_move (F.ev rfl) ?_); clear F; clear a; intro a F
    refine stepD rfl F rfl (o_lenSl (F.ev rfl) ?_); clear F; clear a; intro a F
    refine stepD rfl F rfl (o_gtrT (F.ev rfl) (F.ev rfl) (by omega) ?_); clear F; clear a; intro a F
    with_reducible refine l_nil ?_
    with_reducible refine q_then ?_
    refine c_true F rfl rfl ?_
    with_reducible refine c_seq ?_
    with_reducible refine c_region ?_
    refine stepD rfl F rfl (o_assign (F.ev rfl) ?_); clear F; clear a; intro a F
    with_reducible refine l_nil ?_
    with_reducible refine q_then ?_
    with_reducible refine c_ret ?_
    with_reducible refine q_thenR ?_
    refine p_ret F rfl (.cons (.tmp (F.ev rfl)) .nil) ?_
    exact ⟨rfl, M.ext⟩
  rw [decide_eq_true (show xs.length ≤ 8 by omega), Bool.true_and]
  refine fn_ofM (n := 35) [] Try.func53 rfl rfl rfl ?_
  intro a w F M hwW
  with_reducible refine c_seq ?_
  with_reducible refine c_region ?_
  refine stepD rfl F rfl (o_assign (F.ev rfl) ?_); clear F; clear a; intro a F
  with_reducible refine l_nil ?_
  with_reducible refine q_then ?_
  with_reducible refine c_seq ?_
  with_reducible refine c_seq ?_
  with_reducible refine c_region ?_
  refine stepD rfl F rfl (o_move (F.ev rfl) ?_); clear F; clear a; intro a F
  refine stepD rfl F rfl (o_lenSl (F.ev rfl) ?_); clear F; clear a; intro a F
  refine stepD rfl F rfl (o_gtrF (F.ev rfl) (F.ev rfl) (by omega) ?_); clear F; clear a; intro a F
  with_reducible refine l_nil ?_
  with_reducible refine q_then ?_
  refine c_false F rfl rfl ?_
  with_reducible refine c_skip ?_
  with_reducible refine q_then ?_
  with_reducible refine c_seq ?_
  with_reducible refine c_seq ?_
  with_reducible refine c_region ?_
  refine stepD rfl F rfl (o_move (F.ev rfl) ?_); clear F; clear a; intro a F
  refine stepD rfl F rfl (o_lenSl (F.ev rfl) ?_); clear F; clear a; intro a F
  refine stepD rfl F rfl (o_move (F.ev rfl) ?_); clear F; clear a; intro a F
  with_reducible refine l_nil ?_
  with_reducible refine q_then ?_
  with_reducible refine c_block ?_
  refine c_loop (fun m a w => ∃ i : Nat, m = xs.length - i ∧ i ≤ xs.length ∧ (∀ j, j < i → valid1 (xs.map (·.o)) j = true) ∧ Frm a 35 [] [(10, .int .i64 i), (9, .int .i64 xs.length), (0, .slice q xs.length cap), (8, .slice q xs.length cap)] ∧ Mem [] W w []) xs.length ⟨0, rfl, by omega, by omega, F.only [10, 9, 0, 8] rfl, M⟩ ?_
  clear F M
  rintro m a w ⟨i, hm', hi, hv, F, M⟩
  by_cases hlt : i < xs.length
  · obtain ⟨b, o, cs, t, fz, rfl, hb, hs⟩ := hm (by omega)
    obtain ⟨x, hx0⟩ : ∃ x, x = xs[i] := ⟨_, rfl⟩
    have hxm : x ∈ xs := by rw [hx0]; exact List.getElem_mem hlt
    have hxo := hx x hxm
    have hxa := hA x hxm
    have f1 : seg cs (o + (i : Int).toNat * 20) 20 = some (ovC x) := by rw [hx0]; exact seg_el hle hs hlt (by omega)
    have f2 : (ovC x).length = 20 := ov_len hxo
    have f3 : seg (ovC x) 0 16 = some (ipC x.o.h.rt) := of_rt hxo.1 _ _
    have f4 : seg (ovC x) 0 20 = some (ovC x) := of_all hxo.1 _ _
    have f5 : seg cs (o + (i : Int).toNat * 20) 16 = some (ipC x.o.h.rt) := sg_seg f1 f3 (by omega)
    have hvt := valid1_at hlt
    rw [← hx0] at hvt
    with_reducible refine c_seq ?_
    with_reducible refine c_region ?_
    refine stepD rfl F rfl (o_lssT (F.ev rfl) (F.ev rfl) (by omega) ?_); clear F; clear a; intro a F
    with_reducible refine l_nil ?_
    with_reducible refine q_then ?_
    with_reducible refine c_seq ?_
    refine c_true F rfl rfl ?_
    with_reducible refine c_skip ?_
    with_reducible refine q_then ?_
    with_reducible refine c_seq ?_
    with_reducible refine c_block ?_
    with_reducible refine c_seq ?_
    with_reducible refine c_region ?_
    refine stepD rfl F rfl (o_move (F.ev rfl) ?_); clear F; clear a; intro a F
    refine stepD rfl F rfl (o_indexSl (F.ev rfl) (F.ev rfl) (by omega) (by omega) ?_); clear F; clear a; intro a F
    refine stepD rfl F rfl (o_loadWA M (F.ev rfl) (by assumption) (by first | assumption | rfl) ?_); clear F; clear a; intro a F
    (refine stepD rfl F rfl (o_alloc M ?_); clear F; clear M; intro b4 w M a F)
    refine stepD rfl F rfl (o_assign (F.ev rfl) ?_); clear F; clear a; intro a F
    (refine stepN rfl F (o_storeA M (F.ev rfl) (F.ev rfl) (f2) (ov_one hxa)  (by repeat (first | exact .here | apply Has.there))  (put_all (by rw [f2]; rfl)) (by repeat (first | exact .here | apply Upd.there)) ?_); clear F; clear M; intro w M a F)
    with_reducible refine l_nil ?_
    with_reducible refine q_then ?_
    with_reducible refine c_seq ?_
    replace F := F.only [10, 9, 0, 8, 3, 4] rfl
    cases c1 : validO x.o
    · have : allI (valid1 (xs.map (·.o))) xs.length = false := allI_f hlt (by rw [hvt, c1]; rfl)
      rw [this]
      refine c_draw 18 F (by kernel_rfl) ?_
      intro w1 hE hok
      have M1 := M.later hE
      refine mK hok rfl rfl (fun a' w' F' E' => o_loadA (M1.later E') (F'.ev rfl) (by repeat (first | exact .here | apply Has.there)) (by first | assumption | rfl) ⟨Ext.refl _ _, rfl⟩) ?_
      (refine mK hok rfl rfl (fun a' w' F' E' => o_call (F'.ev rfl) (F'.evs rfl) (Cal.mono (Cal.to (v' := .bool false) (validOffer_c x hxo _ (hxa.later (M1.later E').ext)) (by rw [c1])) fun _ _ hh => ⟨hh.2, hh.1⟩)) ?_)
      refine mK hok rfl rfl (fun a' w' F' E' => o_not (F'.ev rfl) ⟨Ext.refl _ _, rfl⟩) ?_
      refine mK hok rfl rfl (fun a' w' F' E' => o_move (F'.ev rfl) ⟨Ext.refl _ _, rfl⟩) ?_
      refine mOff hok rfl rfl rfl rfl rfl ?_
      refine mOff hok rfl rfl rfl rfl rfl ?_
      refine mOff hok rfl rfl rfl rfl rfl ?_
      refine mOff hok rfl rfl rfl rfl rfl ?_
      refine mOff hok rfl rfl rfl rfl rfl ?_
      refine mOff hok rfl rfl rfl rfl rfl ?_
      refine mOff hok rfl rfl rfl rfl rfl ?_
      refine mOff hok rfl rfl rfl rfl rfl ?_
      refine mOff hok rfl rfl rfl rfl rfl ?_
      refine mOff hok rfl rfl rfl rfl rfl ?_
      refine mOff hok rfl rfl rfl rfl rfl ?_
      refine mOff hok rfl rfl rfl rfl rfl ?_
      refine mOff hok rfl rfl rfl rfl rfl ?_
      refine mOff hok rfl rfl rfl rfl rfl ?_
      (refine mDone rfl rfl ?_; clear F; clear M; intro a w F hE2 hX hTT hDD hPP; have M := M1.later hE2; clear M1; clear hX; clear hE2; clear hok; clear hE; clear hTT; clear hDD; clear hPP; (try dsimp only at F))
      refine stepD rfl F rfl (o_pickT (F.ev rfl) (F.ev rfl) ?_); clear F; clear a; intro a F
      with_reducible refine l_nil ?_
      with_reducible refine q_then ?_
      refine c_true F rfl rfl ?_
      with_reducible refine c_seq ?_
      with_reducible refine c_region ?_
      refine stepD rfl F rfl (o_assign (F.ev rfl) ?_); clear F; clear a; intro a F
      with_reducible refine l_nil ?_
      with_reducible refine q_then ?_
      with_reducible refine c_ret ?_
      with_reducible refine q_inBR ?_
      with_reducible refine q_thenR ?_
      with_reducible refine q_thenR ?_
      with_reducible refine q_inBR ?_
      with_reducible refine q_thenR ?_
      refine p_ret F rfl (.cons (.tmp (F.ev rfl)) .nil) ?_
      exact ⟨rfl, M.ext⟩
    rw [c1, Bool.true_and] at hvt
    rcases Nat.eq_zero_or_pos i with hi0 | hi0
    · refine c_draw 18 F (by kernel_rfl) ?_
      intro w1 hE hok
      have M1 := M.later hE
      refine mK hok rfl rfl (fun a' w' F' E' => o_loadA (M1.later E') (F'.ev rfl) (by repeat (first | exact .here | apply Has.there)) (by first | assumption | rfl) ⟨Ext.refl _ _, rfl⟩) ?_
      (refine mK hok rfl rfl (fun a' w' F' E' => o_call (F'.ev rfl) (F'.evs rfl) (Cal.mono (Cal.to (v' := .bool true) (validOffer_c x hxo _ (hxa.later (M1.later E').ext)) (by rw [c1])) fun _ _ hh => ⟨hh.2, hh.1⟩)) ?_)
      refine mK hok rfl rfl (fun a' w' F' E' => o_not (F'.ev rfl) ⟨Ext.refl _ _, rfl⟩) ?_
      refine mK hok rfl rfl (fun a' w' F' E' => o_move (F'.ev rfl) ⟨Ext.refl _ _, rfl⟩) ?_
      refine mKG hok rfl rfl rfl rfl (fun a' w' F' E' => o_move (F'.ev rfl) ⟨Ext.refl _ _, rfl⟩) ?_
      refine mKG hok rfl rfl rfl rfl (fun a' w' F' E' => o_gtrF (F'.ev rfl) (F'.ev rfl) (by omega) ⟨Ext.refl _ _, rfl⟩) ?_
      refine mKG hok rfl rfl rfl rfl (fun a' w' F' E' => o_move (F'.ev rfl) ⟨Ext.refl _ _, rfl⟩) ?_
      refine mOff hok rfl rfl rfl rfl rfl ?_
      refine mOff hok rfl rfl rfl rfl rfl ?_
      refine mOff hok rfl rfl rfl rfl rfl ?_
      refine mOff hok rfl rfl rfl rfl rfl ?_
      refine mOff hok rfl rfl rfl rfl rfl ?_
      refine mOff hok rfl rfl rfl rfl rfl ?_
      refine mOff hok rfl rfl rfl rfl rfl ?_
      refine mOff hok rfl rfl rfl rfl rfl ?_
      refine mOff hok rfl rfl rfl rfl rfl ?_
      refine mOff hok rfl rfl rfl rfl rfl ?_
      refine mKG hok rfl rfl rfl rfl (fun a' w' F' E' => o_pickF (F'.ev rfl) (F'.ev rfl) ⟨Ext.refl _ _, rfl⟩) ?_
      (refine mDone rfl rfl ?_; clear F; clear M; intro a w F hE2 hX hTT hDD hPP; have M := M1.later hE2; clear M1; clear hX; clear hE2; clear hok; clear hE; clear hTT; clear hDD; clear hPP; (try dsimp only at F))
      refine stepD rfl F rfl (o_pickF (F.ev rfl) (F.ev rfl) ?_); clear F; clear a; intro a F
      with_reducible refine l_nil ?_
      with_reducible refine q_then ?_
      refine c_false F rfl rfl ?_
      with_reducible refine c_skip ?_
      with_reducible refine q_inB ?_
      with_reducible refine q_then ?_
      with_reducible refine c_region ?_
      refine stepD rfl F rfl (o_add (F.ev rfl) (F.ev rfl) (w_i64 (by omega) (by omega)) ?_); clear F; clear a; intro a F
      refine stepD rfl F rfl (o_move (F.ev rfl) ?_); clear F; clear a; intro a F
      with_reducible refine l_nil ?_
      with_reducible refine q_then ?_
      exact ⟨_, by omega, i + 1, rfl, by omega, fun j hj => by
        rcases Nat.lt_or_ge j i with h1 | h1
        · exact hv j h1
        · obtain rfl : j = i := by omega
          rw [hvt]; simp [hi0], F.only [10, 9, 0, 8] rfl, M.sub (List.sublist_cons_self _ _)⟩
    · obtain ⟨y, hy0⟩ : ∃ y, y = xs[i - 1]'(by omega) := ⟨_, rfl⟩
      have hym : y ∈ xs := by rw [hy0]; exact List.getElem_mem _
      have hyo := hx y hym
      have g1 : seg cs (o + ((i : Int) - 1).toNat * 20) 20 = some (ovC y) := by rw [hy0]; exact seg_el hle hs (by omega) (by omega)
      have g2 : seg cs (o + ((i : Int) - 1).toNat * 20) 16 = some (ipC y.o.h.rt) := sg_seg g1 (of_rt hyo.1 _ _) (by omega)
      rw [dif_pos (show i - 1 < xs.length by omega), ← hy0] at hvt
      clear g1 hy0
      by_cases c2 : cmpL y.o.h.rt x.o.h.rt < 0
      · refine c_draw 18 F (by kernel_rfl) ?_
        intro w1 hE hok
        have M1 := M.later hE
        refine mK hok rfl rfl (fun a' w' F' E' => o_loadA (M1.later E') (F'.ev rfl) (by repeat (first | exact .here | apply Has.there)) (by first | assumption | rfl) ⟨Ext.refl _ _, rfl⟩) ?_
        (refine mK hok rfl rfl (fun a' w' F' E' => o_call (F'.ev rfl) (F'.evs rfl) (Cal.mono (Cal.to (v' := .bool true) (validOffer_c x hxo _ (hxa.later (M1.later E').ext)) (by rw [c1])) fun _ _ hh => ⟨hh.2, hh.1⟩)) ?_)
        refine mK hok rfl rfl (fun a' w' F' E' => o_not (F'.ev rfl) ⟨Ext.refl _ _, rfl⟩) ?_
        refine mK hok rfl rfl (fun a' w' F' E' => o_move (F'.ev rfl) ⟨Ext.refl _ _, rfl⟩) ?_
        refine mKG hok rfl rfl rfl rfl (fun a' w' F' E' => o_move (F'.ev rfl) ⟨Ext.refl _ _, rfl⟩) ?_
        refine mKG hok rfl rfl rfl rfl (fun a' w' F' E' => o_gtrT (F'.ev rfl) (F'.ev rfl) (by omega) ⟨Ext.refl _ _, rfl⟩) ?_
        refine mKG hok rfl rfl rfl rfl (fun a' w' F' E' => o_move (F'.ev rfl) ⟨Ext.refl _ _, rfl⟩) ?_
        refine mKG hok rfl rfl rfl rfl (fun a' w' F' E' => o_move (F'.ev rfl) ⟨Ext.refl _ _, rfl⟩) ?_
        refine mKG hok rfl rfl rfl rfl (fun a' w' F' E' => o_move (F'.ev rfl) ⟨Ext.refl _ _, rfl⟩) ?_
        refine mKG hok rfl rfl rfl rfl (fun a' w' F' E' => o_sub (F'.ev rfl) (F'.ev rfl) (w_i64 (by omega) (by omega)) ⟨Ext.refl _ _, rfl⟩) ?_
        refine mKG hok rfl rfl rfl rfl (fun a' w' F' E' => o_indexSl (F'.ev rfl) (F'.ev rfl) (by omega) (by omega) ⟨Ext.refl _ _, rfl⟩) ?_
        refine mKG hok rfl rfl rfl rfl (fun a' w' F' E' => o_fieldAddr (F'.ev rfl) ⟨Ext.refl _ _, rfl⟩) ?_
        refine mKG hok rfl rfl rfl rfl (fun a' w' F' E' => o_loadWA (M1.later E') (F'.ev rfl) (by assumption) (by first | assumption | rfl) ⟨Ext.refl _ _, rfl⟩) ?_
        refine mKG hok rfl rfl rfl rfl (fun a' w' F' E' => o_fieldAddr (F'.ev rfl) ⟨Ext.refl _ _, rfl⟩) ?_
        refine mKG hok rfl rfl rfl rfl (fun a' w' F' E' => o_loadA (M1.later E') (F'.ev rfl) (by repeat (first | exact .here | apply Has.there)) (by first | assumption | rfl) ⟨Ext.refl _ _, rfl⟩) ?_
        (refine mKG hok rfl rfl rfl rfl (fun a' w' F' E' => o_call (F'.ev rfl) (F'.evs rfl) (Cal.mono (compareIP_c y.o.h.rt x.o.h.rt hyo.1 hxo.1 _) fun _ _ hh => ⟨hh.2, hh.1⟩)) ?_)
        refine mKG hok rfl rfl rfl rfl (fun a' w' F' E' => o_geqF (F'.ev rfl) (F'.ev rfl) (by omega) ⟨Ext.refl _ _, rfl⟩) ?_
        refine mKG hok rfl rfl rfl rfl (fun a' w' F' E' => o_pickT (F'.ev rfl) (F'.ev rfl) ⟨Ext.refl _ _, rfl⟩) ?_
        (refine mDone rfl rfl ?_; clear F; clear M; intro a w F hE2 hX hTT hDD hPP; have M := M1.later hE2; clear M1; clear hX; clear hE2; clear hok; clear hE; clear hTT; clear hDD; clear hPP; (try dsimp only at F))
        refine stepD rfl F rfl (o_pickF (F.ev rfl) (F.ev rfl) ?_); clear F; clear a; intro a F
        with_reducible refine l_nil ?_
        with_reducible refine q_then ?_
        refine c_false F rfl rfl ?_
        with_reducible refine c_skip ?_
        with_reducible refine q_inB ?_
        with_reducible refine q_then ?_
        with_reducible refine c_region ?_
        refine stepD rfl F rfl (o_add (F.ev rfl) (F.ev rfl) (w_i64 (by omega) (by omega)) ?_); clear F; clear a; intro a F
        refine stepD rfl F rfl (o_move (F.ev rfl) ?_); clear F; clear a; intro a F
        with_reducible refine l_nil ?_
        with_reducible refine q_then ?_
        exact ⟨_, by omega, i + 1, rfl, by omega, fun j hj => by
          rcases Nat.lt_or_ge j i with h1 | h1
          · exact hv j h1
          · obtain rfl : j = i := by omega
            rw [hvt]; simp [c2], F.only [10, 9, 0, 8] rfl, M.sub (List.sublist_cons_self _ _)⟩
      · have : allI (valid1 (xs.map (·.o))) xs.length = false := allI_f hlt (by rw [hvt]; simp [c2]; omega)
        rw [this]
        refine c_draw 18 F (by kernel_rfl) ?_
        intro w1 hE hok
        have M1 := M.later hE
        refine mK hok rfl rfl (fun a' w' F' E' => o_loadA (M1.later E') (F'.ev rfl) (by repeat (first | exact .here | apply Has.there)) (by first | assumption | rfl) ⟨Ext.refl _ _, rfl⟩) ?_
        (refine mK hok rfl rfl (fun a' w' F' E' => o_call (F'.ev rfl) (F'.evs rfl) (Cal.mono (Cal.to (v' := .bool true) (validOffer_c x hxo _ (hxa.later (M1.later E').ext)) (by rw [c1])) fun _ _ hh => ⟨hh.2, hh.1⟩)) ?_)
        refine mK hok rfl rfl (fun a' w' F' E' => o_not (F'.ev rfl) ⟨Ext.refl _ _, rfl⟩) ?_
        refine mK hok rfl rfl (fun a' w' F' E' => o_move (F'.ev rfl) ⟨Ext.refl _ _, rfl⟩) ?_
        refine mKG hok rfl rfl rfl rfl (fun a' w' F' E' => o_move (F'.ev rfl) ⟨Ext.refl _ _, rfl⟩) ?_
        refine mKG hok rfl rfl rfl rfl (fun a' w' F' E' => o_gtrT (F'.ev rfl) (F'.ev rfl) (by omega) ⟨Ext.refl _ _, rfl⟩) ?_
        refine mKG hok rfl rfl rfl rfl (fun a' w' F' E' => o_move (F'.ev rfl) ⟨Ext.refl _ _, rfl⟩) ?_
        refine mKG hok rfl rfl rfl rfl (fun a' w' F' E' => o_move (F'.ev rfl) ⟨Ext.refl _ _, rfl⟩) ?_
        refine mKG hok rfl rfl rfl rfl (fun a' w' F' E' => o_move (F'.ev rfl) ⟨Ext.refl _ _, rfl⟩) ?_
        refine mKG hok rfl rfl rfl rfl (fun a' w' F' E' => o_sub (F'.ev rfl) (F'.ev rfl) (w_i64 (by omega) (by omega)) ⟨Ext.refl _ _, rfl⟩) ?_
        refine mKG hok rfl rfl rfl rfl (fun a' w' F' E' => o_indexSl (F'.ev rfl) (F'.ev rfl) (by omega) (by omega) ⟨Ext.refl _ _, rfl⟩) ?_
        refine mKG hok rfl rfl rfl rfl (fun a' w' F' E' => o_fieldAddr (F'.ev rfl) ⟨Ext.refl _ _, rfl⟩) ?_
        refine mKG hok rfl rfl rfl rfl (fun a' w' F' E' => o_loadWA (M1.later E') (F'.ev rfl) (by assumption) (by first | assumption | rfl) ⟨Ext.refl _ _, rfl⟩) ?_
        refine mKG hok rfl rfl rfl rfl (fun a' w' F' E' => o_fieldAddr (F'.ev rfl) ⟨Ext.refl _ _, rfl⟩) ?_
        refine mKG hok rfl rfl rfl rfl (fun a' w' F' E' => o_loadA (M1.later E') (F'.ev rfl) (by repeat (first | exact .here | apply Has.there)) (by first | assumption | rfl) ⟨Ext.refl _ _, rfl⟩) ?_
        (refine mKG hok rfl rfl rfl rfl (fun a' w' F' E' => o_call (F'.ev rfl) (F'.evs rfl) (Cal.mono (compareIP_c y.o.h.rt x.o.h.rt hyo.1 hxo.1 _) fun _ _ hh => ⟨hh.2, hh.1⟩)) ?_)
        refine mKG hok rfl rfl rfl rfl (fun a' w' F' E' => o_geqT (F'.ev rfl) (F'.ev rfl) (by omega) ⟨Ext.refl _ _, rfl⟩) ?_
        refine mKG hok rfl rfl rfl rfl (fun a' w' F' E' => o_pickT (F'.ev rfl) (F'.ev rfl) ⟨Ext.refl _ _, rfl⟩) ?_
        (refine mDone rfl rfl ?_; clear F; clear M; intro a w F hE2 hX hTT hDD hPP; have M := M1.later hE2; clear M1; clear hX; clear hE2; clear hok; clear hE; clear hTT; clear hDD; clear hPP; (try dsimp only at F))
        refine stepD rfl F rfl (o_pickF (F.ev rfl) (F.ev rfl) ?_); clear F; clear a; intro a F
        with_reducible refine l_nil ?_
        with_reducible refine q_then ?_
        refine c_true F rfl rfl ?_
        with_reducible refine c_seq ?_
        with_reducible refine c_region ?_
        refine stepD rfl F rfl (o_assign (F.ev rfl) ?_); clear F; clear a; intro a F
        with_reducible refine l_nil ?_
        with_reducible refine q_then ?_
        with_reducible refine c_ret ?_
        with_reducible refine q_inBR ?_
        with_reducible refine q_thenR ?_
        with_reducible refine q_thenR ?_
        with_reducible refine q_inBR ?_
        with_reducible refine q_thenR ?_
        refine p_ret F rfl (.cons (.tmp (F.ev rfl)) .nil) ?_
        exact ⟨rfl, M.ext⟩
  · obtain rfl : i = xs.length := by omega
    have : allI (valid1 (xs.map (·.o))) xs.length = true := allI_t hv
    rw [this]
    with_reducible refine c_seq ?_
    with_reducible refine c_region ?_
    refine stepD rfl F rfl (o_lssF (F.ev rfl) (F.ev rfl) (by omega) ?_); clear F; clear a; intro a F
    with_reducible refine l_nil ?_
    with_reducible refine q_then ?_
    with_reducible refine c_seq ?_
    refine c_false F rfl rfl ?_
    with_reducible refine c_exit ?_
    with_reducible refine q_thenX ?_
    with_reducible refine q_thenX ?_
    with_reducible refine q_inBX ?_
    with_reducible refine q_then ?_
    with_reducible refine c_seq ?_
    with_reducible refine c_region ?_
    refine stepD rfl F rfl (o_assign (F.ev rfl) ?_); clear F; clear a; intro a F
    with_reducible refine l_nil ?_
    with_reducible refine q_then ?_
    with_reducible refine c_ret ?_
    refine p_ret F rfl (.cons (.tmp (F.ev rfl)) .nil) ?_
    exact ⟨rfl, M.ext⟩
end Go.Proofs.Ytainnefmobfcjaa
/-! LibR -/
namespace Go.Proofs.Ytainnefmobfcjaa
set_option linter.unusedVariables false
set_option linter.unusedSimpArgs false
open Go.RowKit
/-- Of what lies below n0 only the blocks B are turned; what lies above keeps its kind and length. -/
structure Sh (n0 : Nat) (B : List Nat) (w w' : World) : Prop where
  os : w'.os = w.os
  tape : w'.tape = w.tape
  output : w'.output = w.output
  size : w.heap.size ≤ w'.heap.size
  dr : w.drawn ≤ w'.drawn
  old : ∀ k, k < n0 → k < w.heap.size → k ∉ B → w'.heap[k]? = w.heap[k]?
  new : ∀ k cs t, n0 ≤ k → w.heap[k]? = some (.cells cs t (0, 0)) → ∃ cs', w'.heap[k]? = some (.cells cs' t (0, 0)) ∧ cs'.size = cs.size
theorem Sh.of_ext {n0 : Nat} {B : List Nat} {w w' : World} (h : Ext [] w w') : Sh n0 B w w' :=
  ⟨h.os, h.tape, h.output, h.size, h.dr, fun k _ hk _ => h.block k hk (by simp), fun k cs t _ hb => ⟨cs, by rw [h.block k (Array.getElem?_eq_some_iff.1 hb).1 (by simp)]; exact hb, rfl⟩⟩
theorem Sh.trans {n0 : Nat} {B : List Nat} {a b c : World} (h : Sh n0 B a b) (k : Sh n0 B b c) : Sh n0 B a c :=
  ⟨k.os.trans h.os, k.tape.trans h.tape, k.output.trans h.output, Nat.le_trans h.size k.size, Nat.le_trans h.dr k.dr, fun i hi hs hb => (k.old i hi (Nat.lt_of_lt_of_le hs h.size) hb).trans (h.old i hi hs hb), fun i cs t hn hb => by
    obtain ⟨cs1, h1, h2⟩ := h.new i cs t hn hb
    obtain ⟨cs2, h3, h4⟩ := k.new i cs1 t hn h1
    exact ⟨cs2, h3, h4.trans h2⟩⟩
def keepSh (n0 : Nat) (B : List Nat) : Keep := ⟨Ext [], Sh n0 B, fun w => Ext.refl [] w, Sh.of_ext, Sh.trans, fun h => h.size⟩
theorem Sh.ext {B : List Nat} {w w' : World} (h : Sh w.heap.size B w w') : Ext B w w' := ⟨h.os, h.tape, h.output, h.size, h.dr, fun k hk hb => h.old k hk hk hb⟩
/-- a pointer to a new block of this kind and length -/
def AlS (n0 : Nat) (t : TypeId) (len : Nat) : Pred := fun v w => ∃ b cs, v = ptrTo b ∧ n0 ≤ b ∧ w.heap[b]? = some (.cells cs t (0, 0)) ∧ cs.size = len
theorem AlS.stays (n0 : Nat) (B : List Nat) (t : TypeId) (len : Nat) : Stays (keepSh n0 B) (AlS n0 t len) := fun v w w' ⟨b, cs, h1, h2, h3, h4⟩ h => by
  obtain ⟨cs', h5, h6⟩ := Sh.new h b cs t h2 h3
  exact ⟨b, cs', h1, h2, h5, h6.trans h4⟩
section
variable {c : RC} {fr : List (Nat × Value)} {Vs : List Pred} {T T' : SPred} {rest : List Oper} {d : Nat} {op : Op} {ty : TypeId} {pos : String} {af : Array Edge} {ix : Nat}
end
section
variable {P : Program} {ρ : Operand → Value} {w : World} {R : Value → World → Prop} {d : Option Tmp} {ty : TypeId} {pos : String} {af : Array Edge} {g : Option (Nat × Bool)}
/-- a load out of a block that is known to lie there -/
theorem o_loadHA {t : TypeId} {x : Operand} {b off n : Nat} {cs : List Value} {t' : TypeId} {fz : Nat × Nat} {vs : List Value} [ht : TAgg P t n] (hx : ρ x = .pointer (some ⟨b, off, none⟩)) (hb : w.heap[b]? = some (.cells cs.toArray t' fz)) (hv : seg cs off n = some vs) (h : R (.agg vs.toArray) w) : OpTo P ⟨d, .load t x, ty, pos, af, g⟩ ρ w R :=
  o_load hx (run_loadVar_agg ht.h hb (by simpa using hv)) h
theorem o_loadH1 {t : TypeId} {x : Operand} {b off : Nat} {cs : List Value} {t' : TypeId} {fz : Nat × Nat} {v : Value} [ht : TOne P t] (hx : ρ x = .pointer (some ⟨b, off, none⟩)) (hb : w.heap[b]? = some (.cells cs.toArray t' fz)) (hv : nth cs off = some v) (h : R v w) : OpTo P ⟨d, .load t x, ty, pos, af, g⟩ ρ w R :=
  o_load hx (run_loadVar_one ht.h (cell_at hb (by rw [nth_spec] at hv; simpa using hv))) h
end
end Go.Proofs.Ytainnefmobfcjaa
/-! E2 -/
namespace Go.Proofs.Ytainnefmobfcjaa
set_option linter.unusedVariables false
set_option linter.unusedSimpArgs false
open Go.RowKit
attribute [local irreducible] OpTo wpListIn Code.wpIn MW Cal
theorem put_mid {A B C Y : List Value} {off : Nat} (ho : off = A.length) (hl : B.length = Y.length) : put (A ++ (B ++ C)) off Y = some (A ++ (Y ++ C)) := by
  subst ho
  rw [put_of _ _ _ (by simp; omega), splice]
  congr 1
  rw [List.take_left' rfl, List.drop_append, List.drop_eq_nil_of_le (by omega), List.nil_append, show A.length + Y.length - A.length = Y.length by omega, ← hl, List.drop_left' rfl]
theorem seg_mid {A B C : List Value} {off n : Nat} (ho : off = A.length) (hn : n = B.length) : seg (A ++ (B ++ C)) off n = some B := by
  subst ho; subst hn; exact seg_of A B C
theorem cut_at (xs : List Value) (k : Nat) (h : k ≤ xs.length) : ∃ A B, xs = A ++ B ∧ A.length = k := ⟨xs.take k, xs.drop k, (List.take_append_drop k xs).symm, by simp [h]⟩
theorem Has.app {l : List (Nat × Obj)} {b : Nat} {o : Obj} (h : Has l b o) : ∀ q : List (Nat × Obj), Has (q ++ l) b o
  | [] => h
  | _ :: q => .there (h.app q)
theorem has_other {lr : List (Nat × Obj)} {b vb : Nat} {o o' o2 : Obj} (h : Has (lr ++ [(b, o)]) vb o2) (hne : vb ≠ b) : Has (lr ++ [(b, o')]) vb o2 := by
  induction lr with
  | nil =>
    cases h with
    | here => exact absurd rfl hne
    | there h => cases h
  | cons p lr ih =>
    cases h with
    | here => exact .here
    | there h => exact .there (ih h)
end Go.Proofs.Ytainnefmobfcjaa

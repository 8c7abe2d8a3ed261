/-
  The calculus, part H: slices that a call has made itself (OwnS), append onto them; literals of slices; bytes and strings.
-/
import Derived.Test.YtadnpidadcgdcaaDoorLibG
namespace Go.Proofs.YtadnpidadcgdcaaDoor
set_option linter.unusedVariables false
set_option linter.unusedSimpArgs false
open Go.RowKit

def elB (P : Program) (e : TypeId) (sz by_ : Nat) : Bool :=
  match P.info? e with
  | some i => i.size == sz && i.bytes == by_ && (match i.zero with | some z => z.cells.size == sz | none => false)
  | none => false
/-- an element type: how many cells, how many bytes -/
class TEl (P : Program) (e : TypeId) (sz by_ : outParam Nat) : Prop where h : elB P e sz by_ = true
theorem elB_spec {P : Program} {e : TypeId} {sz by_ : Nat} (h : elB P e sz by_ = true) : ∃ i z, P.info? e = some i ∧ i.size = sz ∧ i.bytes = by_ ∧ i.zero = some z ∧ z.cells.size = sz := by
  unfold elB at h
  split at h
  · rename_i i hi
    simp only [Bool.and_eq_true, beq_iff_eq] at h
    split at h
    · rename_i z hz
      exact ⟨i, z, hi, h.1.1, h.1.2, hz, by simpa using h.2⟩
    · simp at h
  · cases h

/-- v: nil, or a slice over the head of a block of our own, whose first cells are xs: n elements of type e (sz cells each); ent: that block's entry. -/
def OwnS (e : TypeId) (sz : Nat) (v : Value) (n : Nat) (xs : List Value) (ent : List (Nat × Obj)) : Prop :=
  (v = .slice none 0 0 ∧ n = 0 ∧ xs = [] ∧ ent = []) ∨
  (∃ b cap junk, v = .slice (some ⟨b, 0, none⟩) n cap ∧ ent = [(b, .cells (xs ++ junk).toArray e (0, 0))] ∧ xs.length = n * sz ∧ junk.length = (cap - n) * sz ∧ n ≤ cap)
theorem OwnS.nil (e : TypeId) (sz : Nat) : OwnS e sz (.slice none 0 0) 0 [] [] := .inl ⟨rfl, rfl, rfl, rfl⟩
theorem OwnS.len {e : TypeId} {sz : Nat} {v : Value} {n : Nat} {xs : List Value} {ent : List (Nat × Obj)} (h : OwnS e sz v n xs ent) : xs.length = n * sz := by
  rcases h with ⟨_, rfl, rfl, _⟩ | ⟨_, _, _, _, _, h, _⟩
  · simp
  · exact h
theorem OwnS.slice {e : TypeId} {sz : Nat} {v : Value} {n : Nat} {xs : List Value} {ent : List (Nat × Obj)} (h : OwnS e sz v n xs ent) : ∃ p cap, v = .slice p n cap := by
  rcases h with ⟨rfl, rfl, _, _⟩ | ⟨_, _, _, rfl, _, _⟩
  · exact ⟨_, _, rfl⟩
  · exact ⟨_, _, rfl⟩

/-- ent stands behind some written-out entries. -/
inductive TailAt (ent : List (Nat × Obj)) : List (Nat × Obj) → (List (Nat × Obj) → List (Nat × Obj)) → Prop
  | here : TailAt ent ent (fun q => q)
  | cons {p : Nat × Obj} {l : List (Nat × Obj)} {f : List (Nat × Obj) → List (Nat × Obj)} (h : TailAt ent l f) : TailAt ent (p :: l) (fun q => p :: f q)
  | app {q l : List (Nat × Obj)} {f : List (Nat × Obj) → List (Nat × Obj)} (h : TailAt ent l f) : TailAt ent (q ++ l) (fun x => q ++ f x)
theorem TailAt.spec {ent l : List (Nat × Obj)} {f : List (Nat × Obj) → List (Nat × Obj)} (h : TailAt ent l f) : ∃ lr, l = lr ++ ent ∧ ∀ q, f q = lr ++ q := by
  induction h with
  | here => exact ⟨[], rfl, fun _ => rfl⟩
  | @cons p _ _ _ ih =>
    obtain ⟨lr, rfl, hf⟩ := ih
    exact ⟨p :: lr, rfl, fun q => by simp [hf q]⟩
  | @app q0 _ _ _ ih =>
    obtain ⟨lr, rfl, hf⟩ := ih
    exact ⟨q0 ++ lr, by simp, fun q => by simp [hf q]⟩

/-- What a call has made stands beside what there was. -/
theorem Mem.joins {S : List Nat} {W0 W w : World} {l new : List (Nat × Obj)} (M : Mem S W0 W l) (N : Mem [] W w new) : Mem S W0 w (new ++ l) := by
  have M' := M.later N.ext
  refine ⟨M'.ext, fun p hp => ?_, ?_, fun p hp => ?_⟩
  · rcases List.mem_append.1 hp with h | h
    · exact N.at_ p h
    · exact M'.at_ p h
  · rw [List.map_append, List.nodup_append]
    refine ⟨N.nd, M.nd, fun a ha b hb => ?_⟩
    obtain ⟨p, hp, rfl⟩ := List.mem_map.1 ha
    obtain ⟨q, hq, rfl⟩ := List.mem_map.1 hb
    have h1 := (N.own p hp).resolve_left (by simp)
    have h2 := M.lt hq
    omega
  · rcases List.mem_append.1 hp with h | h
    · exact .inr (Nat.le_trans M.ext.size ((N.own p h).resolve_left (by simp)))
    · exact M.own p h

/-- What is appended. -/
structure SrcOf (P : Program) (w : World) (x : Value) (m sz : Nat) (ys : List Value) : Prop where
  len : (Builtin.lenOf x).run P w = .ok m w
  cells : ∀ d, (Builtin.firstCells sz m x).run P { w with drawn := d } = .ok ys.toArray { w with drawn := d }
  size : ys.length = m * sz
  one : ∀ v ∈ ys, v.oneCell' = true

theorem cell_drawn (w : World) (d : Nat) (a : Addr) : ({ w with drawn := d } : World).cell? a = w.cell? a := rfl
theorem SrcOf.nil (P : Program) (w : World) (sz c : Nat) : SrcOf P w (.slice none 0 c) 0 sz [] := ⟨by simp [Builtin.lenOf], fun d => by simp [Builtin.firstCells], by simp, by simp⟩
theorem SrcOf.cells' {P : Program} {w : World} {b off m c sz : Nat} {cs ys : List Value} {t : TypeId} {fz : Nat × Nat} (hb : w.heap[b]? = some (.cells cs.toArray t fz)) (hs : seg cs off (m * sz) = some ys) (h1 : ys.all (·.oneCell') = true) : SrcOf P w (.slice (some ⟨b, off, none⟩) m c) m sz ys := by
  obtain ⟨hl, hat⟩ := seg_spec _ _ _ _ hs
  refine ⟨by simp [Builtin.lenOf], fun d => ?_, hl, fun v hv => List.all_eq_true.1 h1 v hv⟩
  refine run_firstCells_some _ sz m _ _ _ ys hl (fun j v hj => ?_)
  rw [addr_add, cell_drawn]
  refine cell_at hb ?_
  have hlt : j < m * sz := by rw [← hl]; exact (List.getElem?_eq_some_iff.1 hj).1
  have := hat j hlt
  rw [hj] at this
  simpa using this
def bytesC (s : ByteArray) : List Value := s.data.toList.map fun b => Value.int .u8 b.toNat
theorem SrcOf.str (P : Program) (w : World) (s : ByteArray) : SrcOf P w (.string s) s.size 1 (bytesC s) := by
  refine ⟨by simp [Builtin.lenOf], fun d => ?_, ?_, ?_⟩
  · have : s.extract 0 s.size = s := by simp
    simp only [Builtin.firstCells, this, Sem.run_pure]
    congr 1
    apply Array.ext'
    simp [bytesC]
  · simp [bytesC]
  · intro v hv
    simp only [bytesC, List.mem_map] at hv
    obtain ⟨b, _, rfl⟩ := hv
    rfl

def notInt (P : Program) (t : TypeId) : Bool := match P.underlying t with | some (.slice _) | some .string => true | _ => false
class TNI (P : Program) (t : TypeId) : Prop where h : notInt P t = true

section
variable {P : Program} {ρ : Operand → Value} {w W0 : World} {S : List Nat} {l l' : List (Nat × Obj)} {R : Value → World → Prop} {d : Option Tmp} {ty : TypeId} {pos : String} {af : Array Edge} {g : Option (Nat × Bool)}

theorem notInt_spec {t : TypeId} (h : notInt P t = true) : P.underlying t = some .string ∨ ∃ e, P.underlying t = some (.slice e) := by
  unfold notInt at h
  split at h
  · rename_i e hu; exact .inr ⟨e, hu⟩
  · rename_i hu; exact .inl hu
  · cases h

set_option maxHeartbeats 1000000 in
theorem run_append_grow' {st xt e tyy : TypeId} {i : TypeInfo} {z : Value} {n m cap : Nat} {base : Option Addr} {xv : Value} {xs ys : List Value} (hst : P.underlying st = some (.slice e)) (hi : P.info? e = some i) (hz : i.zero = some z) (hdx : P.underlying xt = some .string ∨ ∃ e, P.underlying xt = some (.slice e))
    (hlen : (Builtin.lenOf xv).run P w = .ok m w) (hn : ¬ (n + m ≤ cap)) (h63 : n + m ≤ 9223372036854775807) (h48 : ¬ (281474976710656 < Builtin.nextslicecap (n + m) cap * i.bytes))
    (ho : (Builtin.firstCells i.size n (.slice base n cap)).run P w.drew = .ok xs.toArray w.drew) (hx : (Builtin.firstCells i.size m xv).run P w.drew = .ok ys.toArray w.drew) :
    (Builtin.append_ #[st, xt] tyy #[.slice base n cap, xv]).run P w = .ok (.slice (some ⟨w.heap.size, 0, none⟩) (n + m) (grownCap w (n + m) cap e)) (w.drew.alloc (.cells (xs.toArray ++ ys.toArray ++ Builtin.zeroCells z.cells (grownCap w (n + m) cap e - (n + m))) e)) := by
  have h63' : ¬ (9223372036854775807 < ((n : Int) + (m : Int))) := by omega
  rcases hdx with hdx | ⟨e', hdx⟩ <;> simp [Builtin.append_, run_underlying hst, run_underlying hdx, sizeOf, typeInfo, zeroValue, hi, hz, hlen, hn, h63', h48, Question.forced, ho, hx, newRow, grownCap] <;> (congr 2; apply Array.ext'; simp)
set_option maxHeartbeats 1000000 in
theorem run_append_room' {st xt e tyy : TypeId} {i : TypeInfo} {n m cap b : Nat} {xv : Value} {ys : List Value} {w' : World} (hst : P.underlying st = some (.slice e)) (hi : P.info? e = some i) (hdx : P.underlying xt = some .string ∨ ∃ e, P.underlying xt = some (.slice e))
    (hlen : (Builtin.lenOf xv).run P w = .ok m w) (hn : n + m ≤ cap)
    (hx : (Builtin.firstCells i.size m xv).run P w = .ok ys.toArray w) (hs : (storeCells ⟨b, n * i.size, none⟩ ys).run P w = .ok () w') :
    (Builtin.append_ #[st, xt] tyy #[.slice (some ⟨b, 0, none⟩) n cap, xv]).run P w = .ok (.slice (some ⟨b, 0, none⟩) (n + m) cap) w' := by
  have hadd : (⟨b, 0, none⟩ : Addr).add (n * i.size) = ⟨b, n * i.size, none⟩ := by rw [addr_add]; simp
  rcases hdx with hdx | ⟨e', hdx⟩ <;> simp [Builtin.append_, run_underlying hst, run_underlying hdx, sizeOf, typeInfo, hi, hlen, hn, hx, hadd, hs]
theorem run_append_nil0 {st xt e tyy : TypeId} {i : TypeInfo} {xv : Value} (hst : P.underlying st = some (.slice e)) (hi : P.info? e = some i) (hdx : P.underlying xt = some .string ∨ ∃ e, P.underlying xt = some (.slice e))
    (hlen : (Builtin.lenOf xv).run P w = .ok 0 w) (hx : (Builtin.firstCells i.size 0 xv).run P w = .ok #[] w) :
    (Builtin.append_ #[st, xt] tyy #[.slice none 0 0, xv]).run P w = .ok (.slice none 0 0) w := by
  rcases hdx with hdx | ⟨e', hdx⟩ <;> simp [Builtin.append_, run_underlying hst, run_underlying hdx, sizeOf, typeInfo, hi, hlen, hx]

theorem run_append {st xt e tyy : TypeId} {sz by_ n m : Nat} {v xv : Value} {xs ys : List Value} {ent lr : List (Nat × Obj)} (hst : P.underlying st = some (.slice e)) (hel : elB P e sz by_ = true) (hxt : notInt P xt = true)
    (hO : OwnS e sz v n xs ent) (M : Mem S W0 w (lr ++ ent)) (hX : SrcOf P w xv m sz ys) (hbd : (n + m) * by_ ≤ 140737488355328) (hln : n + m ≤ 9223372036854775807) :
    ∃ v' w' ent', (Builtin.append_ #[st, xt] tyy #[v, xv]).run P w = .ok v' w' ∧ OwnS e sz v' (n + m) (xs ++ ys) ent' ∧ Mem S W0 w' (lr ++ ent') := by
  obtain ⟨i, z, hi, rfl, rfl, hz, hzs⟩ := elB_spec hel
  have hdx := notInt_spec hxt
  have grow : ∀ (base : Option Addr) (cap : Nat), v = .slice base n cap → cap < n + m → (Builtin.firstCells i.size n v).run P w.drew = .ok xs.toArray w.drew → xs.length = n * i.size →
      ∃ v' w' ent', (Builtin.append_ #[st, xt] tyy #[v, xv]).run P w = .ok v' w' ∧ OwnS e i.size v' (n + m) (xs ++ ys) ent' ∧ Mem S W0 w' (lr ++ ent') := by
    intro base cap hv hgt hold hxl
    subst hv
    have h48 : ¬ (281474976710656 < Builtin.nextslicecap (n + m) cap * i.bytes) := by
      have := growslice_fits (need := n + m) (old := cap) (bytes := i.bytes) (by omega) hbd
      omega
    have hnc : n + m ≤ grownCap w (n + m) cap e := grownCap_ge w _ _ _
    have hrun := run_append_grow' (tyy := tyy) (w := w) hst hi hz hdx hX.len (by omega) hln h48 hold (hX.cells (w.drawn + 1))
    have e1 : (xs.toArray ++ ys.toArray ++ Builtin.zeroCells z.cells (grownCap w (n + m) cap e - (n + m))) = (xs ++ ys ++ (Builtin.zeroCells z.cells (grownCap w (n + m) cap e - (n + m))).toList).toArray := by
      apply Array.ext'; rw [Array.toList_append, Array.toList_append]
    rw [e1] at hrun
    refine ⟨_, _, [(w.heap.size, .cells (xs ++ ys ++ (Builtin.zeroCells z.cells (grownCap w (n + m) cap e - (n + m))).toList).toArray e (0, 0))], hrun, .inr ⟨w.heap.size, grownCap w (n + m) cap e, (Builtin.zeroCells z.cells (grownCap w (n + m) cap e - (n + m))).toList, rfl, rfl, by rw [List.length_append, hxl, hX.size, Nat.add_mul], by rw [Array.length_toList, size_zeroCells, hzs], hnc⟩, ?_⟩
    have M1 := (M.later (Ext.drawn w (w.drawn + 1))).alloc (.cells (xs ++ ys ++ (Builtin.zeroCells z.cells (grownCap w (n + m) cap e - (n + m))).toList).toArray e (0, 0))
    have M2 := M1.sub (l' := (w.heap.size, .cells (xs ++ ys ++ (Builtin.zeroCells z.cells (grownCap w (n + m) cap e - (n + m))).toList).toArray e (0, 0)) :: lr) ((List.sublist_append_left lr ent).cons_cons _)
    exact M2.perm (List.perm_append_comm (l₁ := [_]) (l₂ := lr))
  rcases hO with ⟨rfl, rfl, rfl, rfl⟩ | ⟨b, cap, junk, rfl, rfl, hxl, hjl, hnc⟩
  · by_cases hm : m = 0
    · subst hm
      have hys : ys = [] := List.length_eq_zero_iff.1 (by rw [hX.size]; simp)
      subst hys
      exact ⟨.slice none 0 0, w, [], run_append_nil0 hst hi hdx hX.len (hX.cells w.drawn), OwnS.nil _ _, M⟩
    · exact grow none 0 rfl (by omega) (by simp [Builtin.firstCells]) (by simp)
  · have hhas : Has (lr ++ [(b, Obj.cells (xs ++ junk).toArray e (0, 0))]) b (.cells (xs ++ junk).toArray e (0, 0)) := ((Upd.here (o' := .deferred none) (l := [])).append lr).has
    have hb := M.heap hhas
    by_cases hroom : n + m ≤ cap
    · have hlen : n * i.size + 0 + ys.length ≤ (xs ++ junk).length := by
        simp only [List.length_append, hxl, hjl, hX.size]
        rw [Nat.add_zero, ← Nat.add_mul, ← Nat.add_mul]
        exact Nat.mul_le_mul_right _ (by omega)
      obtain ⟨w', hr, he, hh⟩ := run_storeRow (P := P) (off := n * i.size) ys 0 (xs ++ junk) w hb hlen hX.one
      have hrun := run_append_room' (tyy := tyy) hst hi hdx hX.len hroom (hX.cells w.drawn) hr
      have hsp : splice (xs ++ junk) (n * i.size + 0) ys = xs ++ ys ++ junk.drop (m * i.size) := by
        simp only [splice, Nat.add_zero, ← hxl, List.take_left', List.drop_append, hX.size]
        simp
      rw [hsp] at hh
      refine ⟨_, w', _, hrun, .inr ⟨b, cap, junk.drop (m * i.size), rfl, rfl, by simp [hxl, hX.size, Nat.add_mul], ?_, hroom⟩, ?_⟩
      · rw [List.length_drop, hjl, ← Nat.sub_mul]; congr 1; omega
      · exact M.turned ((Upd.here).append lr) he hh
    · refine grow _ cap rfl (by omega) ?_ hxl
      refine run_firstCells_some _ i.size n _ _ _ xs hxl (fun j u hj => ?_)
      rw [addr_add]
      refine cell_at (w := w.drew) hb ?_
      have hlt : j < xs.length := (List.getElem?_eq_some_iff.1 hj).1
      simp [List.getElem?_append_left hlt, hj]

/-- append onto what the call has made itself -/
theorem o_append {st xt e : TypeId} {x y : Operand} {sz by_ n m : Nat} {v xv : Value} {xs ys : List Value} {ent : List (Nat × Obj)} {f : List (Nat × Obj) → List (Nat × Obj)} [hst : TU P st (.slice e)] [hel : TEl P e sz by_] [hxt : TNI P xt] (hO : OwnS e sz v n xs ent) (M : Mem S W0 w l) (hl : TailAt ent l f)
    (hx : ρ x = v) (hy : ρ y = xv) (hX : SrcOf P w xv m sz ys) (hbd : (n + m) * by_ ≤ 140737488355328) (hln : n + m ≤ 9223372036854775807)
    (h : ∀ v' ent' w', OwnS e sz v' (n + m) (xs ++ ys) ent' → Mem S W0 w' (f ent') → R v' w') : OpTo P ⟨d, .call ⟨.builtin .append, #[x, y], #[st, xt]⟩, ty, pos, af, g⟩ ρ w R := by
  obtain ⟨lr, rfl, hf⟩ := hl.spec
  obtain ⟨v', w', ent', hr, hO', M'⟩ := run_append (tyy := ty) hst.h hel.h hxt.h hO M hX hbd hln
  refine OpTo.val (v := v') (w' := w') ?_ (h v' ent' w' hO' (by rw [hf]; exact M'))
  simp [execOp, resolve, invoke, builtin, hx, hy, hr]
end
end Go.Proofs.YtadnpidadcgdcaaDoor

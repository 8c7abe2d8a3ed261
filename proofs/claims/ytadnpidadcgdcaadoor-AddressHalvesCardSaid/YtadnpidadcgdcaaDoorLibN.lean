/-
  The calculus, part N: make, copy; blocks that came in (read, not turned).
-/
import Derived.Test.YtadnpidadcgdcaaDoorLibM
import Derived.Laws.MakeOwn
namespace Go.Proofs.YtadnpidadcgdcaaDoor
set_option linter.unusedVariables false
set_option linter.unusedSimpArgs false
open Go.RowKit

theorem Cal.to {P : Program} {f : FuncId} {args : Array Value} {w : World} {v v' : Value} {E : World → Prop} (h : Cal P f args w fun x w' => x = v ∧ E w') (e : v = v') : Cal P f args w fun x w' => x = v' ∧ E w' := e ▸ h
theorem put_all {xs ys : List Value} (h : xs.length = ys.length) : put xs 0 ys = some ys := by
  rw [put_of _ _ _ (by omega)]
  simp [splice, ← h]
/-- A block that came in: it may be named, as long as it is not turned. -/
theorem Mem.came {S : List Nat} {W w : World} {l : List (Nat × Obj)} (M : Mem S W w l) (hw : w = W) {b : Nat} {o : Obj} (hb : W.heap[b]? = some o) (hS : b ∈ S) (hn : ∀ p ∈ l, p.1 ≠ b) : Mem S W w ((b, o) :: l) :=
  M.cons (by rw [hw]; exact hb) hn (.inl hS)
/-- What came in has not been turned. -/
theorem Mem.back {S : List Nat} {W w : World} {l : List (Nat × Obj)} (M : Mem S W w l) (h : ∀ k ∈ S, ∃ o, Has l k o ∧ W.heap[k]? = some o) : Ext [] W w :=
  ⟨M.ext.os, M.ext.tape, M.ext.output, M.ext.size, fun k hk _ => by
    by_cases hS : k ∈ S
    · obtain ⟨o, h1, h2⟩ := h k hS
      rw [M.heap h1, h2]
    · exact M.ext.block k hk hS⟩
/-- .. and what the call has made. -/
theorem Mem.back' {S : List Nat} {W w : World} {l new : List (Nat × Obj)} (M : Mem S W w l) (h : ∀ k ∈ S, ∃ o, Has l k o ∧ W.heap[k]? = some o) (hs : new.Sublist l) (hn : ∀ p ∈ new, p.1 ∉ S) : Mem [] W w new :=
  ⟨M.back h, fun p hp => M.at_ p (hs.subset hp), M.nd.sublist (hs.map _), fun p hp => .inr ((M.own p (hs.subset hp)).resolve_left (hn p hp))⟩
theorem Mem.back1 {b : Nat} {o : Obj} {W w : World} {l : List (Nat × Obj)} (M : Mem [b] W w l) (h : Has l b o) (hW : W.heap[b]? = some o) : Ext [] W w :=
  M.back fun k hk => by simp only [List.mem_singleton] at hk; subst hk; exact ⟨o, h, hW⟩

section
variable {P : Program} {ρ : Operand → Value} {w W0 : World} {S : List Nat} {l l' : List (Nat × Obj)} {R : Value → World → Prop} {d : Option Tmp} {ty : TypeId} {pos : String} {af : Array Edge} {g : Option (Nat × Bool)}

/-- make, of elements of one cell -/
theorem o_make1 {t e : TypeId} {x y : Operand} {k k' : IntKind} {n : Int} {by_ : Nat} {z : Value} [ht : TU P t (.slice e)] [hel : TEl P e 1 by_] [hz : TZero P e [z]] (M : Mem S W0 w l) (hx : ρ x = .int k n) (hy : ρ y = .int k' n) (h0 : 0 ≤ n) (hb : (by_ : Int) * n ≤ 281474976710656) (h63 : n ≤ 9223372036854775807)
    (h : ∀ b w', Mem S W0 w' ((b, .cells (List.replicate n.toNat z).toArray e (0, 0)) :: l) → R (.slice (some ⟨b, 0, none⟩) n.toNat n.toNat) w') : OpTo P ⟨d, .makeSlice t x y, ty, pos, af, g⟩ ρ w R := by
  obtain ⟨i, zz, hi, hs, rfl, hz0, hzs⟩ := elB_spec hel.h
  have hzc : zz.cells = #[z] := by
    have := hz.h
    unfold zeroC at this
    rw [hi] at this
    simpa [hz0] using this
  have hr := run_make (P := P) w t e i zz ht.h hi hz0 k k' n n h0 (Int.le_refl _) hb h63
  have hm : madeCells zz.cells (n.toNat * i.size) = (List.replicate n.toNat z).toArray := by
    rw [hs, hzc, Nat.mul_one]
    apply Array.ext'
    simp only [madeCells, Array.toList_map, Array.toList_range, List.size_toArray, List.length_cons, List.length_nil]
    apply List.ext_getElem (by simp)
    intro j h1 h2
    simp [Nat.mod_one]
  rw [hm] at hr
  refine OpTo.val (v := .slice (some ⟨w.heap.size, 0, none⟩) n.toNat n.toNat) (w' := w.alloc (.cells (List.replicate n.toNat z).toArray e)) ?_ (h _ _ (M.alloc _))
  simp [execOp, hx, hy, hr]

theorem run_copy {dT sT e : TypeId} {sz b o dLen dCap n : Nat} {xv : Value} {sLen : Nat} {cs cs' ys : List Value} {t' : TypeId} (hst : P.underlying dT = some (.slice e)) (hsz : sizeIs P e sz = true) (M : Mem S W0 w l) (hlen : (Builtin.lenOf xv).run P w = .ok sLen w) (hn : n = Nat.min sLen dLen)
    (hc : (Builtin.firstCells sz n xv).run P w = .ok ys.toArray w) (h1 : ∀ v ∈ ys, v.oneCell' = true) (hb : Has l b (.cells cs.toArray t' (0, 0))) (hp : put cs o ys = some cs') (hu : Upd l b (.cells cs.toArray t' (0, 0)) (.cells cs'.toArray t' (0, 0)) l') (tyy : TypeId) :
    ∃ w', (Builtin.copy_ #[dT, sT] tyy #[.slice (some ⟨b, o, none⟩) dLen dCap, xv]).run P w = .ok (.int .i64 n) w' ∧ Mem S W0 w' l' ∧ Ext [b] w w' := by
  obtain ⟨hle, rfl⟩ := put_splice _ _ _ _ hp
  obtain ⟨w', hr, he, hh⟩ := run_storeRow (P := P) (off := o) ys 0 cs w (M.heap hb) (by simpa using hle) h1
  refine ⟨w', ?_, M.turned hu he (by simpa using hh), he⟩
  subst hn
  simp [Builtin.copy_, run_underlying hst, hlen, run_sizeOf hsz, hc, hr, goInt]
/-- copy into a block of ours, out of a slice whose block is known -/
theorem o_copy {dT sT e : TypeId} {x y : Operand} {sz b o dLen dCap b' o' sLen sCap n : Nat} {cs cs' ds ys : List Value} {t' t'' : TypeId} {fz : Nat × Nat} [hst : TU P dT (.slice e)] [hsz : TSz P e sz] (M : Mem S W0 w l) (hx : ρ x = .slice (some ⟨b, o, none⟩) dLen dCap) (hy : ρ y = .slice (some ⟨b', o', none⟩) sLen sCap) (hn : n = Nat.min sLen dLen)
    (hs : Has l b' (.cells ds.toArray t'' fz)) (hv : seg ds o' (n * sz) = some ys) (h1 : ys.all (·.oneCell') = true) (hb : Has l b (.cells cs.toArray t' (0, 0))) (hp : put cs o ys = some cs') (hu : Upd l b (.cells cs.toArray t' (0, 0)) (.cells cs'.toArray t' (0, 0)) l')
    (h : ∀ w', Mem S W0 w' l' → R (.int .i64 n) w') : OpTo P ⟨d, .call ⟨.builtin .copy, #[x, y], #[dT, sT]⟩, ty, pos, af, g⟩ ρ w R := by
  have hsrc := (SrcOf.cells' (P := P) (m := n) (c := sCap) (sz := sz) (M.heap hs) hv h1).cells w.drawn
  have hc : (Builtin.firstCells sz n (.slice (some ⟨b', o', none⟩) sLen sCap)).run P w = .ok ys.toArray w := by
    simpa [Builtin.firstCells] using hsrc
  obtain ⟨w', hr, M', _⟩ := run_copy (sT := sT) (dLen := dLen) (dCap := dCap) (o := o) hst.h hsz.h M (by simp [Builtin.lenOf]) hn hc (fun v hv => List.all_eq_true.1 h1 v hv) hb hp hu ty
  exact OpTo.val (v := .int .i64 n) (w' := w') (by simp [execOp, resolve, invoke, builtin, hx, hy, hr]) (h _ M')
/-- copy out of the nil slice -/
theorem o_copyNil {dT sT e : TypeId} {x y : Operand} {sz : Nat} {p : Option Addr} {dLen dCap : Nat} [hst : TU P dT (.slice e)] [hsz : TSz P e sz] (hx : ρ x = .slice p dLen dCap) (hy : ρ y = .slice none 0 0) (h : R (.int .i64 0) w) : OpTo P ⟨d, .call ⟨.builtin .copy, #[x, y], #[dT, sT]⟩, ty, pos, af, g⟩ ρ w R := by
  refine OpTo.val (v := .int .i64 0) (w' := w) ?_ h
  cases p <;> simp [execOp, resolve, invoke, builtin, hx, hy, Builtin.copy_, run_underlying hst.h, Builtin.lenOf, run_sizeOf hsz.h, Builtin.firstCells, storeCells, goInt]
end
/-- a slice over the whole of a new block -/
def NewS (n0 len cap : Nat) (o : Obj) : Pred := fun v w => ∃ b, v = .slice (some ⟨b, 0, none⟩) len cap ∧ n0 ≤ b ∧ w.heap[b]? = some o
theorem NewS.stays (n0 len cap : Nat) (o : Obj) : Stays keepAll (NewS n0 len cap o) := fun v w w' ⟨b, h1, h2, h3⟩ h => ⟨b, h1, h2, by
  rw [Ext.block h b (Array.getElem?_eq_some_iff.1 h3).1 (by simp)]; exact h3⟩
theorem newS_of {w1 w w' : World} {len cap : Nat} {o : Obj} {x : Value} (E : Ext [] w1 w) (h : ∃ b, x = .slice (some ⟨b, 0, none⟩) len cap ∧ Mem [] w w' [(b, o)]) : Ext [] w w' ∧ NewS w1.heap.size len cap o x w' := by
  obtain ⟨b, rfl, N⟩ := h
  refine ⟨N.ext, b, rfl, ?_, N.heap .here⟩
  have := (N.own (b, o) (by simp)).resolve_left (by simp)
  exact Nat.le_trans E.size this
end Go.Proofs.YtadnpidadcgdcaaDoor

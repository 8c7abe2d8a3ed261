/-
  PROVED: for every input BorderValidates answers true, and each argument reads afterwards as it read before.
-/
import Derived.Test.YtainnefmobfcjaaVal6
/-! LibV -/
namespace Go.Proofs.Ytainnefmobfcjaa
set_option linter.unusedVariables false
set_option linter.unusedSimpArgs false
open Go.RowKit
/-- a block that such an append may turn -/
def Chg (w : World) (k : Nat) : Prop := ∃ cs t, w.heap[k]? = some (.cells cs t (0, 0)) ∧ 20 < cs.size
structure BigE (n0 : Nat) (w w' : World) : Prop where
  os : w'.os = w.os
  tape : w'.tape = w.tape
  output : w'.output = w.output
  size : w.heap.size ≤ w'.heap.size
  dr : w.drawn ≤ w'.drawn
  block : ∀ k, k < w.heap.size → (k < n0 ∨ ¬ Chg w k) → w'.heap[k]? = w.heap[k]?
theorem BigE.of_ext {n0 : Nat} {w w' : World} (h : Ext [] w w') : BigE n0 w w' := ⟨h.os, h.tape, h.output, h.size, h.dr, fun k hk _ => h.block k hk (by simp)⟩
theorem BigE.trans {n0 : Nat} {a b c : World} (h : BigE n0 a b) (k : BigE n0 b c) : BigE n0 a c :=
  ⟨k.os.trans h.os, k.tape.trans h.tape, k.output.trans h.output, Nat.le_trans h.size k.size, Nat.le_trans h.dr k.dr, fun i hi hc => by
    have h1 := h.block i hi hc
    rw [k.block i (Nat.lt_of_lt_of_le hi h.size) (hc.imp_right fun hn hx => hn (by
      obtain ⟨cs, t, e, hs⟩ := hx
      exact ⟨cs, t, by rw [← h1]; exact e, hs⟩)), h1]⟩
def keepBig (n0 : Nat) : Keep := ⟨Ext [], BigE n0, fun w => Ext.refl [] w, BigE.of_ext, BigE.trans, fun h => h.size⟩
theorem BigE.of_chg {n0 b : Nat} {w w' : World} (h : Ext [b] w w') (hn : n0 ≤ b) (hc : Chg w b) : BigE n0 w w' :=
  ⟨h.os, h.tape, h.output, h.size, h.dr, fun k hk hx => h.block k hk (by
    intro hb
    simp only [List.mem_singleton] at hb
    subst hb
    rcases hx with h1 | h1
    · omega
    · exact h1 hc)⟩
theorem BigE.ext {w w' : World} (h : BigE w.heap.size w w') : Ext [] w w' := ⟨h.os, h.tape, h.output, h.size, h.dr, fun k hk _ => h.block k hk (.inl hk)⟩
theorem SlAt.laterBig {n0 : Nat} {W w : World} {sz : Nat} {v : Value} {n : Nat} {xs : List Value} (h : SlAt W sz v n xs) (hn : W.heap.size ≤ n0) (E : BigE n0 W w) : SlAt w sz v n xs := by
  obtain ⟨p, cap, rfl, h1, h2, h3, h4⟩ := h
  refine ⟨p, cap, rfl, h1, h2, h3, fun h0 => ?_⟩
  obtain ⟨b, o, cs, t, fz, rfl, hb, hs⟩ := h4 h0
  have hlt := (Array.getElem?_eq_some_iff.1 hb).1
  exact ⟨b, o, cs, t, fz, rfl, by rw [E.block b hlt (.inl (Nat.lt_of_lt_of_le hlt hn))]; exact hb, hs⟩
theorem Mem.laterBig {n0 : Nat} {S : List Nat} {W0 w w' : World} {l : List (Nat × Obj)} (M : Mem S W0 w l) (hn : w.heap.size ≤ n0) (E : BigE n0 w w') : Mem S W0 w' l :=
  M.later ⟨E.os, E.tape, E.output, E.size, E.dr, fun k hk _ => E.block k hk (.inl (Nat.lt_of_lt_of_le hk hn))⟩
/-- a slice over the whole of a new block that such an append does not turn -/
theorem NewS.staysBig {n0 len cap : Nat} {cs : List Value} {t : TypeId} {m0 : Nat} (hs : cs.length ≤ 20) : Stays (keepBig n0) (NewS m0 len cap (.cells cs.toArray t (0, 0))) := fun v w w' ⟨b, h1, h2, h3⟩ h => ⟨b, h1, h2, by
  rw [BigE.block h b (Array.getElem?_eq_some_iff.1 h3).1 (.inr fun hx => by
    obtain ⟨cs', t', e, hs'⟩ := hx
    rw [h3] at e
    simp only [Option.some.injEq, Obj.cells.injEq] at e
    have := e.1
    subst this
    simp at hs'
    omega)]
  exact h3⟩
section
variable {P : Program} {ρ : Operand → Value} {w W0 : World} {S : List Nat} {l l' : List (Nat × Obj)} {R : Value → World → Prop} {d : Option Tmp} {ty : TypeId} {pos : String} {af : Array Edge} {g : Option (Nat × Bool)}
/-- append where there is no room: nothing is turned -/
theorem run_appendG {st xt e tyy : TypeId} {sz by_ n m cap : Nat} {base : Option Addr} {xv : Value} {xs ys : List Value} (hst : P.underlying st = some (.slice e)) (hel : elB P e sz by_ = true) (hxt : notInt P xt = true)
    (hV : SrcOf P w (.slice base n cap) n sz xs) (hX : SrcOf P w xv m sz ys) (hgt : cap < n + m) (hnc' : n ≤ cap) (hbd : (n + m) * by_ ≤ 140737488355328) (hln : n + m ≤ 9223372036854775807) :
    ∃ v' w' ent', (Builtin.append_ #[st, xt] tyy #[.slice base n cap, xv]).run P w = .ok v' w' ∧ OwnS e sz v' (n + m) (xs ++ ys) ent' ∧ Mem [] w w' ent' := by
  obtain ⟨i, z, hi, rfl, rfl, hz, hzs⟩ := elB_spec hel
  have hdx := notInt_spec hxt
  have h48 : ¬ (281474976710656 < Builtin.nextslicecap (n + m) cap * i.bytes) := by
    have := growslice_fits (need := n + m) (old := cap) (bytes := i.bytes) (by omega) hbd
    omega
  have hnc : n + m ≤ grownCap w (n + m) cap e := grownCap_ge w _ _ _
  have hrun := run_append_grow' (tyy := tyy) (w := w) hst hi hz hdx hX.len (by omega) hln h48 (hV.cells (w.drawn + 1)) (hX.cells (w.drawn + 1))
  have e1 : (xs.toArray ++ ys.toArray ++ Builtin.zeroCells z.cells (grownCap w (n + m) cap e - (n + m))) = (xs ++ ys ++ (Builtin.zeroCells z.cells (grownCap w (n + m) cap e - (n + m))).toList).toArray := by
    apply Array.ext'; rw [Array.toList_append, Array.toList_append]
  rw [e1] at hrun
  exact ⟨_, _, [(w.heap.size, .cells (xs ++ ys ++ (Builtin.zeroCells z.cells (grownCap w (n + m) cap e - (n + m))).toList).toArray e (0, 0))], hrun, .inr ⟨w.heap.size, grownCap w (n + m) cap e, (Builtin.zeroCells z.cells (grownCap w (n + m) cap e - (n + m))).toList, rfl, rfl, by rw [List.length_append, hV.size, hX.size, Nat.add_mul], by rw [Array.length_toList, size_zeroCells, hzs], hnc⟩, ((Mem.start [] w).later (Ext.drawn w (w.drawn + 1) (Nat.le_succ _))).alloc _⟩
/-- append onto a slice that a region has made, its block of more than 20 cells where there is room -/
theorem o_appendBig {st xt e : TypeId} {x y : Operand} {sz by_ n m n0 : Nat} {v xv : Value} {xs ys : List Value} {ent : List (Nat × Obj)} [hst : TU P st (.slice e)] [hel : TEl P e sz by_] [hxt : TNI P xt] (hO : OwnS e sz v n xs ent) (hN : NewM n0 w ent) (h1 : xs.all (·.oneCell') = true)
    (hbig : ∀ b o s c, v = .slice (some ⟨b, o, s⟩) n c → n + m ≤ c → 20 < c * sz) (hx : ρ x = v) (hy : ρ y = xv) (hX : SrcOf P w xv m sz ys) (hbd : (n + m) * by_ ≤ 140737488355328) (hln : n + m ≤ 9223372036854775807)
    (h : ∀ v' ent' w', OwnS e sz v' (n + m) (xs ++ ys) ent' → (∀ p ∈ ent', w'.heap[p.1]? = some p.2) → BigE n0 w w' → R v' w') : OpTo P ⟨d, .call ⟨.builtin .append, #[x, y], #[st, xt]⟩, ty, pos, af, g⟩ ρ w R := by
  have fin : ∀ v' w', (Builtin.append_ #[st, xt] ty #[v, xv]).run P w = .ok v' w' → R v' w' → OpTo P ⟨d, .call ⟨.builtin .append, #[x, y], #[st, xt]⟩, ty, pos, af, g⟩ ρ w R := fun v' w' hr hR =>
    OpTo.val (v := v') (w' := w') (by simp [execOp, resolve, invoke, builtin, hx, hy, hr]) hR
  rcases id hO with ⟨rfl, rfl, rfl, rfl⟩ | ⟨b, cap, junk, rfl, rfl, hxl, hjl, hnc⟩
  · obtain ⟨v', w', ent', hr, hO', M'⟩ := run_append (tyy := ty) hst.h hel.h hxt.h (OwnS.nil e sz) (lr := []) (Mem.start [] w) hX hbd hln
    exact fin v' w' hr (h v' ent' w' hO' (fun p hp => M'.at_ p (by simpa using hp)) (BigE.of_ext M'.ext))
  · have hb := hN.at_ _ List.mem_cons_self
    by_cases hroom : n + m ≤ cap
    · have Mb : Mem [b] w w ([] ++ [(b, .cells (xs ++ junk).toArray e (0, 0))]) := ⟨Ext.refl _ _, fun p hp => by simp at hp; subst hp; exact hb, by simp, fun p hp => .inl (by simp at hp; subst hp; simp)⟩
      obtain ⟨v', w', ent', hr, hO', M'⟩ := run_append (tyy := ty) hst.h hel.h hxt.h hO (lr := []) Mb hX hbd hln
      refine fin v' w' hr (h v' ent' w' hO' (fun p hp => M'.at_ p (by simpa using hp)) (BigE.of_chg M'.ext (hN.ge _ List.mem_cons_self) ⟨_, _, hb, ?_⟩))
      have := hbig b 0 none cap rfl hroom
      simp only [List.size_toArray, List.length_append, hxl, hjl]
      rw [← Nat.add_mul, Nat.add_sub_cancel' hnc]
      exact this
    · have hV : SrcOf P w (.slice (some ⟨b, 0, none⟩) n cap) n sz xs := SrcOf.cells' hb (by have := seg_of [] xs junk; simpa [hxl] using this) h1
      obtain ⟨v', w', ent', hr, hO', M'⟩ := run_appendG (tyy := ty) hst.h hel.h hxt.h hV hX (by omega) hnc hbd hln
      exact fin v' w' hr (h v' ent' w' hO' (fun p hp => M'.at_ p hp) (BigE.of_ext M'.ext))
end
end Go.Proofs.Ytainnefmobfcjaa
/-! KA -/
namespace Go.Proofs.Ytainnefmobfcjaa
set_option linter.unusedVariables false
set_option linter.unusedSimpArgs false
open Go.RowKit
attribute [local irreducible] OpTo wpListIn Code.wpIn MW Cal
section
variable {P : Program} {ρ : Operand → Value} {w W0 : World} {S : List Nat} {l l' : List (Nat × Obj)} {R : Value → World → Prop} {d : Option Tmp} {ty : TypeId} {pos : String} {af : Array Edge} {g : Option (Nat × Bool)}
/-- a slice compared with nil -/
theorem o_eqlNil {t t' e : TypeId} {x y : Operand} {p : Option Addr} {n c : Nat} (hx : ρ x = .slice p n c) (hy : ρ y = .slice none 0 0) [ht : TU P t (.slice e)] (h : R (.bool p.isNone) w) : OpTo P ⟨d, .binOp .eql t x y t', ty, pos, af, g⟩ ρ w R := by
  have hr0 : ∀ k : Nat, (Op.equalIn (k + 1) t (.slice p n c) (.slice none 0 0)).run P w = .ok p.isNone w := fun k => by
    cases p <;> simp [Op.equalIn, run_underlying ht.h]
  have hr := hr0 9999
  exact OpTo.val (v := .bool p.isNone) (w' := w) (by simp [execOp, eqGuard, binOp, Op.equal, Op.maxDepth, hx, hy, hr]) h
/-- append of nothing -/
theorem o_append0 {st xt e : TypeId} {x y : Operand} {sz by_ b n cap : Nat} {xv : Value} [hst : TU P st (.slice e)] [hel : TEl P e sz by_] [hxt : TNI P xt] (hx : ρ x = .slice (some ⟨b, 0, none⟩) n cap) (hy : ρ y = xv) (hnc : n ≤ cap) (hX : SrcOf P w xv 0 sz [])
    (h : R (.slice (some ⟨b, 0, none⟩) n cap) w) : OpTo P ⟨d, .call ⟨.builtin .append, #[x, y], #[st, xt]⟩, ty, pos, af, g⟩ ρ w R := by
  obtain ⟨i, z, hi, rfl, rfl, hz, hzs⟩ := elB_spec hel.h
  have hrun := run_append_room' (tyy := ty) (b := b) (n := n) (cap := cap) (w' := w) hst.h hi (notInt_spec hxt.h) hX.len (by omega) (hX.cells w.drawn) (by simp [storeCells])
  exact OpTo.val (v := .slice (some ⟨b, 0, none⟩) (n + 0) cap) (w' := w) (by simp [execOp, resolve, invoke, builtin, hx, hy, hrun]) h
end
set_option maxHeartbeats 2000000 in
theorem cloneO_c (xs : List OV) (hx : ∀ x ∈ xs, IsOff x.o) (hlen : xs.length ≤ 1000) (v : Value) (W : World) (hS : SlAt W 20 v xs.length (encL ovC xs)) (hA : ∀ x ∈ xs, OffAt W x) :
    Cal Try.prog 37 [v].toArray W fun r w' => ∃ ent, OwnS 58 20 r xs.length (encL ovC xs) ent ∧ (∀ b o s c, r = .slice (some ⟨b, o, s⟩) xs.length c → xs.length = 0 → c = 0) ∧ Mem [] W w' ent := by
  have h1 : (encL ovC xs).all (·.oneCell') = true := encL_all fun x hx' => ov_one (hA x hx')
  obtain ⟨q, cap, hq, _⟩ := id hS
  cases q with
  | none =>
    have hn : xs.length = 0 := by
      obtain ⟨q', cap', h2, _, _, _, h3⟩ := hS
      rw [hq] at h2
      cases h2
      rcases Nat.eq_zero_or_pos xs.length with h | h
      · exact h
      · obtain ⟨_, _, _, _, _, h4, _⟩ := h3 h
        cases h4
    have hxs : xs = [] := List.length_eq_zero_iff.1 hn
    subst hxs
    rw [hq]
    refine fn_ofM (n := 8) [] Try.func37 rfl rfl rfl ?_
    intro a w F M hwW
    with_reducible refine c_seq ?_
    with_reducible refine c_region ?_
    refine stepD rfl F rfl (o_assign (F.ev rfl) ?_); clear F; clear a; intro a F
    with_reducible refine l_nil ?_
    with_reducible refine q_then ?_
    with_reducible refine c_seq ?_
    with_reducible refine c_seq ?_
    with_reducible refine c_region ?_
    refine stepD rfl F rfl (o_move (F.ev rfl) ?_); clear F; clear a; intro a F
    (refine stepD rfl F rfl (o_eqlNil (F.ev rfl) (F.ev rfl) ?_); clear F; clear a; intro a F)
    with_reducible refine l_nil ?_
    with_reducible refine q_then ?_
    refine c_true F rfl rfl ?_
    with_reducible refine c_seq ?_
    with_reducible refine c_region ?_
    refine stepD rfl F rfl (o_assign (F.ev rfl) ?_); clear F; clear a; intro a F
    with_reducible refine l_nil ?_
    with_reducible refine q_then ?_
    with_reducible refine c_ret ?_
    with_reducible refine q_thenR ?_
    refine p_ret F rfl (.cons (.tmp (F.ev rfl)) .nil) ?_
    exact ⟨[], OwnS.nil _ _, fun b o s c h => (by cases h), M⟩
  | some a0 =>
    rw [hq] at hS ⊢
    refine fn_ofM (n := 8) [] Try.func37 rfl rfl rfl ?_
    intro a w F M hwW
    with_reducible refine c_seq ?_
    with_reducible refine c_region ?_
    refine stepD rfl F rfl (o_assign (F.ev rfl) ?_); clear F; clear a; intro a F
    with_reducible refine l_nil ?_
    with_reducible refine q_then ?_
    with_reducible refine c_seq ?_
    with_reducible refine c_seq ?_
    with_reducible refine c_region ?_
    refine stepD rfl F rfl (o_move (F.ev rfl) ?_); clear F; clear a; intro a F
    (refine stepD rfl F rfl (o_eqlNil (F.ev rfl) (F.ev rfl) ?_); clear F; clear a; intro a F)
    with_reducible refine l_nil ?_
    with_reducible refine q_then ?_
    refine c_false F rfl rfl ?_
    with_reducible refine c_skip ?_
    with_reducible refine q_then ?_
    with_reducible refine c_seq ?_
    with_reducible refine c_region ?_
    (refine stepD rfl F rfl (o_buildSlice F M rfl rfl rfl rfl ?_); clear F; clear M; intro b5 w M a F)
    refine stepD rfl F rfl (o_move (F.ev rfl) ?_); clear F; clear a; intro a F
    have hSw := hS.later M.ext
    by_cases hn : xs.length = 0
    · have hxs : xs = [] := List.length_eq_zero_iff.1 hn
      subst hxs
      (refine stepD rfl F rfl (o_append0 (F.ev rfl) (F.ev rfl) (by omega) (hSw.src (by simp [encL])) ?_); clear F; clear a; intro a F)
      refine stepD rfl F rfl (o_assign (F.ev rfl) ?_); clear F; clear a; intro a F
      with_reducible refine l_nil ?_
      with_reducible refine q_then ?_
      with_reducible refine c_ret ?_
      refine p_ret F rfl (.cons (.tmp (F.ev rfl)) .nil) ?_
      exact ⟨[(b5, _)], .inr ⟨b5, 0, [], rfl, rfl, by simp [encL], by simp, by simp⟩, fun b o s c h _ => (by cases h; rfl), M⟩
    · have hO5 : OwnS 58 20 (.slice (some ⟨b5, 0, none⟩) 0 0) 0 [] [(b5, .cells ([] : List Value).toArray 58 (0, 0))] := .inr ⟨b5, 0, [], rfl, rfl, by simp, by simp, by simp⟩
      (refine stepD rfl F rfl (o_append hO5 M .here (F.ev rfl) (F.ev rfl) (hSw.src h1) (by omega) (by omega) ?_); clear F; clear M; intro u ent w hO M a F)
      rw [Nat.zero_add, List.nil_append] at hO
      refine stepD rfl F rfl (o_assign (F.ev rfl) ?_); clear F; clear a; intro a F
      with_reducible refine l_nil ?_
      with_reducible refine q_then ?_
      with_reducible refine c_ret ?_
      refine p_ret F rfl (.cons (.tmp (F.ev rfl)) .nil) ?_
      exact ⟨ent, hO, fun b o s c _ h => absurd h hn, M⟩
end Go.Proofs.Ytainnefmobfcjaa
/-! KB -/
namespace Go.Proofs.Ytainnefmobfcjaa
set_option linter.unusedVariables false
set_option linter.unusedSimpArgs false
open Go.RowKit
attribute [local irreducible] OpTo wpListIn Code.wpIn MW Cal
/-- offers in memory -/
def LSt (W : World) (v : Value) (zs : List OV) : Prop := SlAt W 20 v zs.length (encL ovC zs) ∧ ∀ z ∈ zs, OffAt W z
theorem OffAt.laterBig {n0 : Nat} {W w : World} {x : OV} (h : OffAt W x) (hn : W.heap.size ≤ n0) (E : BigE n0 W w) : OffAt w x := ⟨h.1.laterBig hn E, h.2.laterBig hn E⟩
theorem LSt.later {W w : World} {v : Value} {zs : List OV} (h : LSt W v zs) (E : Ext [] W w) : LSt w v zs := ⟨h.1.later E, fun z hz => (h.2 z hz).later E⟩
theorem LSt.laterBig {n0 : Nat} {W w : World} {v : Value} {zs : List OV} (h : LSt W v zs) (hn : W.heap.size ≤ n0) (E : BigE n0 W w) : LSt w v zs := ⟨h.1.laterBig hn E, fun z hz => (h.2 z hz).laterBig hn E⟩
theorem OwnS.slAtH {e : TypeId} {sz : Nat} {v : Value} {n : Nat} {xs : List Value} {ent : List (Nat × Obj)} {w : World} (h : OwnS e sz v n xs ent) (hat : ∀ p ∈ ent, w.heap[p.1]? = some p.2) : SlAt w sz v n xs := by
  rcases h with ⟨rfl, rfl, rfl, rfl⟩ | ⟨b, cap, junk, rfl, rfl, hxl, hjl, hnc⟩
  · exact SlAt.nil _ _
  · refine ⟨_, _, rfl, hnc, by simp, hxl, fun _ => ⟨b, 0, xs ++ junk, e, (0, 0), rfl, hat _ List.mem_cons_self, ?_⟩⟩
    have := seg_of [] xs junk
    simpa [hxl] using this
/-- a list that a region has cloned, operation i -/
def TCl (n0 : Nat) (zs : List OV) (i : Nat) : SPred := fun σ w => ∃ ent, OwnS 58 20 (σ i) zs.length (encL ovC zs) ent ∧ (∀ b o s c, σ i = .slice (some ⟨b, o, s⟩) zs.length c → zs.length = 0 → c = 0) ∧ NewM n0 w ent
theorem TCl.stays (n0 m0 : Nat) (zs : List OV) (i : Nat) : StaysT (keepBig m0) (TCl n0 zs i) := fun σ w w' ⟨ent, h1, h2, h3⟩ E => ⟨ent, h1, h2, h3.later E⟩
/-- a list that it has appended to, operation i -/
def TAp (ys : List OV) (i : Nat) : SPred := fun σ w => SlAt w 20 (σ i) ys.length (encL ovC ys)
theorem TAp.stays (m0 : Nat) (ys : List OV) (i : Nat) : StaysT (keepBig m0) (TAp ys i) := fun σ w w' h E => h.later E
theorem updS_same (σ : Nat → Value) (i : Nat) (v : Value) : updS σ i v i = v := by simp [updS]
set_option maxHeartbeats 16000000 in
theorem validatesL_c (raws : List OV) (hxr : ∀ x ∈ raws, IsOff x.o) (rv : Value) (pt : Option Addr) (cap : Nat) (xs0 : List Int) (now eui : Int) (he : 0 ≤ eui) (W : World) (hS : SlAt W 20 rv raws.length (encL ovC raws)) (hA : ∀ x ∈ raws, OffAt W x) (hI : IntsAt W (.slice pt xs0.length cap) xs0) (hcap : xs0.length ≤ cap) :
    Cal Try.prog 7 [rv, .slice pt xs0.length cap, .int .i64 now, .int .u64 eui].toArray W fun v w' => v = .bool true ∧ Ext [] W w' := by
  have hmem : 0 < xs0.length → ∃ b o cs t fz, pt = some ⟨b, o, none⟩ ∧ W.heap[b]? = some (.cells cs t fz) ∧ seg cs.toList o xs0.length = some (i64C xs0) := fun hl => by
    obtain ⟨p', cap', h1, _, h3⟩ := hI.ex
    cases h1
    exact h3 hl
  have hle : ∀ x ∈ raws, (ovC x).length = 20 := fun x h => ov_len (hxr x h)
  obtain ⟨q, rcap, rfl, hrc, _, hrl, hrm⟩ := id hS
  refine fn_ofM (n := 93) [] Try.func7 rfl rfl rfl ?_
  intro a w F M hwW
  by_cases c1 : 12 < raws.length
  · with_reducible refine c_seq ?_
    with_reducible refine c_region ?_
    refine stepD rfl F rfl (o_assign (F.ev rfl) ?_); clear F; clear a; intro a F
    with_reducible refine l_nil ?_
    with_reducible refine q_then ?_
    with_reducible refine c_seq ?_
    with_reducible refine c_seq ?_
    with_reducible refine c_region ?_
    refine stepD rfl F rfl (o_move (F.ev rfl) ?_); clear F; clear a; intro a F
    refine stepD rfl F rfl (o_lenSl (F.ev rfl) ?_); clear F; clear a; intro a F
    refine stepD rfl F rfl (o_gtrT (F.ev rfl) (F.ev rfl) (by omega) ?_); clear F; clear a; intro a F
    with_reducible refine l_nil ?_
    with_reducible refine q_then ?_
    refine c_true F rfl rfl ?_
    with_reducible refine c_seq ?_
    with_reducible refine c_region ?_
    (refine stepD rfl F rfl (o_call (F.ev rfl) (F.evs rfl) (Cal.mono (offered_c _) ?_)); clear F; clear a; rintro _ w ⟨rfl, hE⟩ a F; replace M := M.later hE; clear hE)
    refine stepD rfl F rfl (o_assign (F.ev rfl) ?_); clear F; clear a; intro a F
    with_reducible refine l_nil ?_
    with_reducible refine q_then ?_
    with_reducible refine c_ret ?_
    with_reducible refine q_thenR ?_
    refine p_ret F rfl (.cons (.tmp (F.ev rfl)) .nil) ?_
    exact ⟨rfl, M.ext⟩
  with_reducible refine c_seq ?_
  with_reducible refine c_region ?_
  refine stepD rfl F rfl (o_assign (F.ev rfl) ?_); clear F; clear a; intro a F
  with_reducible refine l_nil ?_
  with_reducible refine q_then ?_
  with_reducible refine c_seq ?_
  with_reducible refine c_seq ?_
  with_reducible refine c_region ?_
  refine stepD rfl F rfl (o_move (F.ev rfl) ?_); clear F; clear a; intro a F
  refine stepD rfl F rfl (o_lenSl (F.ev rfl) ?_); clear F; clear a; intro a F
  refine stepD rfl F rfl (o_gtrF (F.ev rfl) (F.ev rfl) (by omega) ?_); clear F; clear a; intro a F
  with_reducible refine l_nil ?_
  with_reducible refine q_then ?_
  refine c_false F rfl rfl ?_
  with_reducible refine c_skip ?_
  with_reducible refine q_then ?_
  with_reducible refine c_seq ?_
  with_reducible refine c_seq ?_
  with_reducible refine c_region ?_
  refine stepD rfl F rfl (o_move (F.ev rfl) ?_); clear F; clear a; intro a F
  refine stepD rfl F rfl (o_lenSl (F.ev rfl) ?_); clear F; clear a; intro a F
  refine stepD rfl F rfl (o_move (F.ev rfl) ?_); clear F; clear a; intro a F
  with_reducible refine l_nil ?_
  with_reducible refine q_then ?_
  with_reducible refine c_block ?_
  refine c_loop (fun m a w => ∃ i : Nat, m = raws.length - i ∧ i ≤ raws.length ∧ Frm a 93 [] [(22, .int .i64 (i : Int)), (21, .int .i64 raws.length), (20, .slice q raws.length rcap), (0, .slice q raws.length rcap), (1, .slice pt xs0.length cap), (2, .int .i64 now), (3, .int .u64 eui)] ∧ Mem [] W w []) raws.length ⟨0, rfl, by omega, F.only [22, 21, 20, 0, 1, 2, 3] rfl, M⟩ ?_
  clear F M
  rintro m a w ⟨i, hm', hi, F, M⟩
  by_cases hlt : i < raws.length
  · obtain ⟨b, o, cs, t, fz, rfl, hb, hs⟩ := hrm (by omega)
    obtain ⟨x, hx0⟩ : ∃ x, x = raws[i] := ⟨_, rfl⟩
    have hxm : x ∈ raws := by rw [hx0]; exact List.getElem_mem hlt
    have hxo := hxr x hxm
    have hxa := hA x hxm
    have f1 : seg cs (o + (i : Int).toNat * 20) 20 = some (ovC x) := by rw [hx0]; exact seg_el hle hs hlt (by omega)
    have f2 : (ovC x).length = 20 := ov_len hxo
    have f3 : seg (ovC x) 0 20 = some (ovC x) := of_all hxo.1 _ _
    clear hx0
    with_reducible refine c_seq ?_
    with_reducible refine c_region ?_
    refine stepD rfl F rfl (o_lssT (F.ev rfl) (F.ev rfl) (by omega) ?_); clear F; clear a; intro a F
    with_reducible refine l_nil ?_
    with_reducible refine q_then ?_
    with_reducible refine c_seq ?_
    refine c_true F rfl rfl ?_
    with_reducible refine c_skip ?_
    with_reducible refine q_then ?_
    with_reducible refine c_seq ?_
    with_reducible refine c_block ?_
    with_reducible refine c_seq ?_
    with_reducible refine c_region ?_
    refine stepD rfl F rfl (o_indexSl (F.ev rfl) (F.ev rfl) (by omega) (by omega) ?_); clear F; clear a; intro a F
    refine stepD rfl F rfl (o_loadWA M (F.ev rfl) (by assumption) (by first | assumption | rfl) ?_); clear F; clear a; intro a F
    (refine stepD rfl F rfl (o_alloc M ?_); clear F; clear M; intro b10 w M a F)
    (refine stepN rfl F (o_storeA M (F.ev rfl) (F.ev rfl) f2 (ov_one hxa)  (by repeat (first | exact .here | apply Has.there))  (put_all (by rw [f2]; rfl)) (by repeat (first | exact .here | apply Upd.there)) ?_); clear F; clear M; intro w M a F)
    with_reducible refine l_nil ?_
    with_reducible refine q_then ?_
    with_reducible refine c_seq ?_
    with_reducible refine c_seq ?_
    with_reducible refine c_region ?_
    refine stepD rfl F rfl (o_loadA M (F.ev rfl) (by repeat (first | exact .here | apply Has.there)) (by first | assumption | rfl) ?_); clear F; clear a; intro a F
    (refine stepD rfl F rfl (o_call (F.ev rfl) (F.evs rfl) (Cal.mono (small_c x hxo _ (hxa.later M.ext)) ?_)); clear F; clear a; rintro _ w ⟨rfl, hE⟩ a F; replace M := M.later hE; clear hE)
    refine stepD rfl F rfl (o_not (F.ev rfl) ?_); clear F; clear a; intro a F
    with_reducible refine l_nil ?_
    with_reducible refine q_then ?_
    refine c_if F rfl (fun hsm => ?_) (fun hsm => ?_)
    · rw [hsm] at F
      with_reducible refine c_seq ?_
      with_reducible refine c_region ?_
      (refine stepD rfl F rfl (o_call (F.ev rfl) (F.evs rfl) (Cal.mono (offered_c _) ?_)); clear F; clear a; rintro _ w ⟨rfl, hE⟩ a F; replace M := M.later hE; clear hE)
      refine stepD rfl F rfl (o_assign (F.ev rfl) ?_); clear F; clear a; intro a F
      with_reducible refine l_nil ?_
      with_reducible refine q_then ?_
      with_reducible refine c_ret ?_
      with_reducible refine q_thenR ?_
      with_reducible refine q_inBR ?_
      with_reducible refine q_thenR ?_
      with_reducible refine q_thenR ?_
      with_reducible refine q_inBR ?_
      with_reducible refine q_thenR ?_
      refine p_ret F rfl (.cons (.tmp (F.ev rfl)) .nil) ?_
      exact ⟨rfl, M.ext⟩
    rw [hsm] at F
    clear hsm
    with_reducible refine c_skip ?_
    with_reducible refine q_then ?_
    with_reducible refine c_seq ?_
    replace F := F.only [10, 22, 21, 20, 0, 1, 2, 3] rfl
    cases hvb : validO x.o
    · refine c_draw 5 F (by kernel_rfl) ?_
      intro w1 hE hok
      have M1 := M.later hE
      refine mK hok rfl rfl (fun a' w' F' E' => o_loadA (M1.later E') (F'.ev rfl) (by repeat (first | exact .here | apply Has.there)) (by first | assumption | rfl) ⟨Ext.refl _ _, rfl⟩) ?_
      (refine mK hok rfl rfl (fun a' w' F' E' => o_call (F'.ev rfl) (F'.evs rfl) (Cal.mono (Cal.to (validOffer_c x hxo _ (hxa.later (M1.ext.trans E'))) (by rw [hvb])) fun _ _ hh => ⟨hh.2, hh.1⟩)) ?_)
      refine mK hok rfl rfl (fun a' w' F' E' => o_loadA (M1.later E') (F'.ev rfl) (by repeat (first | exact .here | apply Has.there)) (by first | assumption | rfl) ⟨Ext.refl _ _, rfl⟩) ?_
      (refine mK hok rfl rfl (fun a' w' F' E' => o_call (F'.ev rfl) (F'.evs rfl) (Cal.mono (Cal.to (rvalidOffer_c x hxo _ (hxa.later (M1.ext.trans E'))) (by rw [hvb])) fun _ _ hh => ⟨hh.2, hh.1⟩)) ?_)
      refine mK hok rfl rfl (fun a' w' F' E' => o_neqBF (F'.ev rfl) (F'.ev rfl) rfl ⟨Ext.refl _ _, rfl⟩) ?_
      (refine mDone rfl rfl ?_; clear F; clear M; intro a w F hE2 hX hTT hDD hPP; have M := M1.later hE2; clear M1; clear hX; clear hE2; clear hok; clear hE; clear hTT; clear hDD; clear hPP; (try dsimp only at F))
      with_reducible refine l_nil ?_
      with_reducible refine q_then ?_
      refine c_false F rfl rfl ?_
      with_reducible refine c_skip ?_
      with_reducible refine q_inB ?_
      with_reducible refine q_then ?_
      with_reducible refine c_region ?_
      refine stepD rfl F rfl (o_add (F.ev rfl) (F.ev rfl) (w_i64 (by omega) (by omega)) ?_); clear F; clear a; intro a F
      refine stepD rfl F rfl (o_move (F.ev rfl) ?_); clear F; clear a; intro a F
      with_reducible refine l_nil ?_
      with_reducible refine q_then ?_
      exact ⟨_, by omega, i + 1, rfl, by omega, F.only [22, 21, 20, 0, 1, 2, 3] rfl, M.sub (List.nil_sublist _)⟩
    · refine c_draw 5 F (by kernel_rfl) ?_
      intro w1 hE hok
      have M1 := M.later hE
      refine mK hok rfl rfl (fun a' w' F' E' => o_loadA (M1.later E') (F'.ev rfl) (by repeat (first | exact .here | apply Has.there)) (by first | assumption | rfl) ⟨Ext.refl _ _, rfl⟩) ?_
      (refine mK hok rfl rfl (fun a' w' F' E' => o_call (F'.ev rfl) (F'.evs rfl) (Cal.mono (Cal.to (validOffer_c x hxo _ (hxa.later (M1.ext.trans E'))) (by rw [hvb])) fun _ _ hh => ⟨hh.2, hh.1⟩)) ?_)
      refine mK hok rfl rfl (fun a' w' F' E' => o_loadA (M1.later E') (F'.ev rfl) (by repeat (first | exact .here | apply Has.there)) (by first | assumption | rfl) ⟨Ext.refl _ _, rfl⟩) ?_
      (refine mK hok rfl rfl (fun a' w' F' E' => o_call (F'.ev rfl) (F'.evs rfl) (Cal.mono (Cal.to (rvalidOffer_c x hxo _ (hxa.later (M1.ext.trans E'))) (by rw [hvb])) fun _ _ hh => ⟨hh.2, hh.1⟩)) ?_)
      refine mK hok rfl rfl (fun a' w' F' E' => o_neqBF (F'.ev rfl) (F'.ev rfl) rfl ⟨Ext.refl _ _, rfl⟩) ?_
      (refine mDone rfl rfl ?_; clear F; clear M; intro a w F hE2 hX hTT hDD hPP; have M := M1.later hE2; clear M1; clear hX; clear hE2; clear hok; clear hE; clear hTT; clear hDD; clear hPP; (try dsimp only at F))
      with_reducible refine l_nil ?_
      with_reducible refine q_then ?_
      refine c_false F rfl rfl ?_
      with_reducible refine c_skip ?_
      with_reducible refine q_inB ?_
      with_reducible refine q_then ?_
      with_reducible refine c_region ?_
      refine stepD rfl F rfl (o_add (F.ev rfl) (F.ev rfl) (w_i64 (by omega) (by omega)) ?_); clear F; clear a; intro a F
      refine stepD rfl F rfl (o_move (F.ev rfl) ?_); clear F; clear a; intro a F
      with_reducible refine l_nil ?_
      with_reducible refine q_then ?_
      exact ⟨_, by omega, i + 1, rfl, by omega, F.only [22, 21, 20, 0, 1, 2, 3] rfl, M.sub (List.nil_sublist _)⟩
  obtain rfl : i = raws.length := by omega
  with_reducible refine c_seq ?_
  with_reducible refine c_region ?_
  refine stepD rfl F rfl (o_lssF (F.ev rfl) (F.ev rfl) (by omega) ?_); clear F; clear a; intro a F
  with_reducible refine l_nil ?_
  with_reducible refine q_then ?_
  with_reducible refine c_seq ?_
  refine c_false F rfl rfl ?_
  with_reducible refine c_exit ?_
  with_reducible refine q_thenX ?_
  with_reducible refine q_thenX ?_
  with_reducible refine q_inBX ?_
  with_reducible refine q_then ?_
  with_reducible refine c_seq ?_
  with_reducible refine c_region ?_
  refine stepD rfl F rfl (o_move (F.ev rfl) ?_); clear F; clear a; intro a F
  (refine stepD rfl F rfl (o_call (F.ev rfl) (F.evs rfl) (Cal.mono (new_c xs0 _ (hI.later M.ext) hcap ) ?_)); clear F; clear a; rintro _ w ⟨bt, rfl, N⟩ a F; replace M := M.joins N; clear N)
  have hbt : W.heap.size ≤ bt := (M.own _ List.mem_cons_self).resolve_left (by simp)
  have hT : TapeS W bt pt (cut400 xs0).length (cut400 xs0) := tape_new (Ext.refl [] W) hbt hI.bd hmem
  generalize hxs : cut400 xs0 = xs at *
  generalize hlen : xs.length = len at *
  clear hxs hI hmem
  simp only [List.cons_append, List.nil_append] at M
  refine stepD rfl F rfl (o_assign (F.ev rfl) ?_); clear F; clear a; intro a F
  with_reducible refine l_nil ?_
  with_reducible refine q_then ?_
  with_reducible refine c_seq ?_
  with_reducible refine c_region ?_
  refine stepD rfl F rfl (o_move (F.ev rfl) ?_); clear F; clear a; intro a F
  (refine stepD rfl F rfl (o_call (F.ev rfl) (F.evs rfl) (Cal.mono (base_c _ (hT.later M.ext.any) (M.heap .here) ) ?_)); clear F; clear a; have M0 := M; clear M; rintro _ w ⟨base, k1, rfl, ⟨hb0, hb1⟩, N⟩ a F)
  replace M := M0.turn1 N .here
  clear M0 N
  have hbn : bt < bt + 1 := by omega
  have hbw : bt + 1 ≤ w.heap.size := M.lt List.mem_cons_self
  refine stepD rfl F rfl (o_assign (F.ev rfl) ?_); clear F; clear a; intro a F
  with_reducible refine l_nil ?_
  with_reducible refine q_then ?_
  with_reducible refine c_seq ?_
  with_reducible refine c_region ?_
  refine stepD rfl F rfl (o_move (F.ev rfl) ?_); clear F; clear a; intro a F
  refine stepD rfl F rfl (o_move (F.ev rfl) ?_); clear F; clear a; intro a F
  (refine stepD rfl F rfl (o_call (F.ev rfl) (F.evs rfl) (Cal.mono (woffers_c base hb0 hb1 _ (hT.later M.ext.any) (M.heap .here)) ?_)); clear F; clear a; have M0 := M; clear M; rintro v w ⟨os, k2, hO, N⟩ a F)
  replace hO := hO.mono hbw
  replace M := M0.turn1 N .here
  clear M0 N hbw
  refine stepD rfl F rfl (o_assign (F.ev rfl) ?_); clear F; clear a; intro a F
  with_reducible refine l_nil ?_
  with_reducible refine q_then ?_
  with_reducible refine c_seq ?_
  with_reducible refine c_region ?_
  refine stepD rfl F rfl (o_move (F.ev rfl) ?_); clear F; clear a; intro a F
  refine stepD rfl F rfl (o_move (F.ev rfl) ?_); clear F; clear a; intro a F
  (refine stepD rfl F rfl (o_call (F.ev rfl) (F.evs rfl) (Cal.mono (wtime_c base hb0 hb1 _ (hT.later M.ext.any) (M.heap .here)) ?_)); clear F; clear a; have M0 := M; clear M; rintro _ w ⟨rfl, N⟩ a F)
  replace hO := hO.laterB hbn N.ext
  replace M := M0.turn1 N .here
  clear M0 N
  generalize wtV xs k2 base = at1 at *
  refine stepD rfl F rfl (o_assign (F.ev rfl) ?_); clear F; clear a; intro a F
  with_reducible refine l_nil ?_
  with_reducible refine q_then ?_
  with_reducible refine c_seq ?_
  with_reducible refine c_region ?_
  refine stepD rfl F rfl (o_move (F.ev rfl) ?_); clear F; clear a; intro a F
  refine stepD rfl F rfl (o_move (F.ev rfl) ?_); clear F; clear a; intro a F
  refine stepD rfl F rfl (o_move (F.ev rfl) ?_); clear F; clear a; intro a F
  have hbw : bt + 1 ≤ w.heap.size := M.lt List.mem_cons_self
  (refine stepD rfl F rfl (o_call (F.ev rfl) (F.evs rfl) (Cal.mono (woffer_c base hb0 hb1 _ (hT.later M.ext.any) (M.heap .here) ) ?_)); clear F; clear a; have M0 := M; clear M; rintro _ w ⟨y0, k3, rfl, hyo0, hys0, hyN0, N⟩ a F)
  replace hO := hO.laterB hbn N.ext
  replace hyN0 := hyN0.mono hbw
  replace M := M0.turn1 N .here
  clear M0 N hbw
  have hbw : bt + 1 ≤ w.heap.size := M.lt List.mem_cons_self
  (refine stepD rfl F rfl (o_call (F.ev rfl) (F.evs rfl) (Cal.mono (spoiled_c y0 hyo0 (by omega) (by omega) _ hyN0.1 (hyN0.nb hbn) (hT.later M.ext.any) (M.heap .here) ) ?_)); clear F; clear a; have M0 := M; clear M; rintro _ w ⟨y, k4, rfl, hyo, hys, hyN, N⟩ a F)
  replace hO := hO.laterB hbn N.ext
  replace hyN := hyN.mono hbw
  replace M := M0.turn1 N .here
  clear M0 N hbw hyN0
  have E0 := M.ext
  clear M
  obtain ⟨wR, hwR⟩ : ∃ wR, wR = w := ⟨w, rfl⟩
  rw [← hwR] at E0 hO hyN
  have M : Mem [] wR w [] := by rw [hwR]; exact Mem.start [] w
  clear hwR
  have f2 : (ovC y).length = 20 := ov_len hyo
  have f3 : seg (ovC y) 0 20 = some (ovC y) := of_all hyo.1 _ _
  (refine stepD rfl F rfl (o_alloc M ?_); clear F; clear M; intro b15 w M a F)
  (refine stepN rfl F (o_storeA M (F.ev rfl) (F.ev rfl) f2 (ov_one hyN.1)  (by repeat (first | exact .here | apply Has.there))  (put_all (by rw [f2]; rfl)) (by repeat (first | exact .here | apply Upd.there)) ?_); clear F; clear M; intro w M a F)
  with_reducible refine l_nil ?_
  with_reducible refine q_then ?_
  with_reducible refine c_seq ?_
  replace F := F.only [15, 14, 13, 0, 2, 3] rfl
  obtain ⟨zs, hz, hS1, hA1, _, _⟩ := hO.at_
  have hzo : ∀ z ∈ zs, IsOff z.o := fun z hz' => hO.is z.o (by rw [← hz]; exact List.mem_map_of_mem hz')
  have hzl : zs.length ≤ 8 := by have := hO.len; rw [← hz, List.length_map] at this; exact this
  have hLw : LSt w v zs := LSt.later ⟨hS1, hA1⟩ M.ext
  have hRw : LSt w (.slice q raws.length rcap) raws := LSt.later ⟨hS, hA⟩ (E0.trans M.ext)
  have hyw : OffAt w y := hyN.1.later M.ext
  clear hO hS1 hA1 hyN hz
  have hbig : ∀ (v : Value) (m : Nat), 1 ≤ m → (∀ b o s c, v = .slice (some ⟨b, o, s⟩) zs.length c → zs.length = 0 → c = 0) → ∀ b o s c, v = .slice (some ⟨b, o, s⟩) zs.length c → zs.length + m ≤ c → 20 < c * 20 := fun v m hm h b o s c e hc => by
    rcases Nat.eq_zero_or_pos zs.length with h0 | h0
    · have := h b o s c e h0
      omega
    · omega
  have hAll : ∀ {W : World} {us : List OV}, (∀ u ∈ us, OffAt W u) → (encL ovC us).all (·.oneCell') = true := fun h => encL_all fun u hu => ov_one (h u hu)
  obtain ⟨vb, hvb⟩ : ∃ vb, vb = validO y.o := ⟨_, rfl⟩
  have hbb : (vb == vb) = true := by cases vb <;> rfl
  refine c_drawK (keepBig w.heap.size) [24, 27, 29, 31, 33, 35, 37] [] noT 43 F (by kernel_rfl) rfl (fun h => absurd rfl h) (fun h => absurd rfl h) (noT.stays _) (fun _ _ _ => trivial) ?_
  intro w1 hE hsz hok hef
  have M1 := M.later hE
  have hM : ∀ w', BigE w.heap.size w1 w' → Mem [] wR w' _ := fun w' E => M1.laterBig (Nat.le_of_eq hsz) E
  have hsE : ∀ w', BigE w.heap.size w1 w' → w.heap.size ≤ w'.heap.size := fun w' E => by have := E.size; omega
  have hL : ∀ w', BigE w.heap.size w1 w' → LSt w' v zs := fun w' E => (hLw.later hE).laterBig (Nat.le_of_eq hsz) E
  have hR : ∀ w', BigE w.heap.size w1 w' → LSt w' (.slice q raws.length rcap) raws := fun w' E => (hRw.later hE).laterBig (Nat.le_of_eq hsz) E
  have hY : ∀ w', BigE w.heap.size w1 w' → OffAt w' y := fun w' E => (hyw.later hE).laterBig (Nat.le_of_eq hsz) E
  refine mK hok rfl rfl (fun a' w' F' E' => o_loadA (hM _ E') (F'.ev rfl) (by repeat (first | exact .here | apply Has.there)) (by first | assumption | rfl) ⟨Ext.refl _ _, rfl⟩) ?_
  (refine mK hok rfl rfl (fun a' w' F' E' => o_call (F'.ev rfl) (F'.evs rfl) (Cal.mono (Cal.to (validOffer_c y hyo _ (hY _ E')) (by rw [← hvb])) fun _ _ hh => ⟨hh.2, hh.1⟩)) ?_)
  refine mK hok rfl rfl (fun a' w' F' E' => o_loadA (hM _ E') (F'.ev rfl) (by repeat (first | exact .here | apply Has.there)) (by first | assumption | rfl) ⟨Ext.refl _ _, rfl⟩) ?_
  (refine mK hok rfl rfl (fun a' w' F' E' => o_call (F'.ev rfl) (F'.evs rfl) (Cal.mono (Cal.to (rvalidOffer_c y hyo _ (hY _ E')) (by rw [← hvb])) fun _ _ hh => ⟨hh.2, hh.1⟩)) ?_)
  refine mK (v := .bool true) hok rfl rfl (fun a' w' F' E' => o_eqlB (F'.ev rfl) (F'.ev rfl) ⟨Ext.refl _ _, by rw [hbb]⟩) ?_
  refine mK hok rfl rfl (fun a' w' F' E' => o_move (F'.ev rfl) ⟨Ext.refl _ _, rfl⟩) ?_
  refine mKG hok rfl rfl rfl rfl (fun a' w' F' E' => o_move (F'.ev rfl) ⟨Ext.refl _ _, rfl⟩) ?_
  refine mKG hok rfl rfl rfl rfl (fun a' w' F' E' => o_move (F'.ev rfl) ⟨Ext.refl _ _, rfl⟩) ?_
  refine mKG hok rfl rfl rfl rfl (fun a' w' F' E' => o_move (F'.ev rfl) ⟨Ext.refl _ _, rfl⟩) ?_
  (refine mKG hok rfl rfl rfl rfl (fun a' w' F' E' => o_call (F'.ev rfl) (F'.evs rfl) (Cal.mono (validates_c raws hxr _ now eui he _ (hR _ E').1 (hR _ E').2) fun _ _ hh => ⟨hh.2, hh.1⟩)) ?_)
  refine mK hok rfl rfl (fun a' w' F' E' => o_pickT (F'.ev rfl) (F'.ev rfl) ⟨Ext.refl _ _, rfl⟩) ?_
  refine mK hok rfl rfl (fun a' w' F' E' => o_move (F'.ev rfl) ⟨Ext.refl _ _, rfl⟩) ?_
  refine mKG hok rfl rfl rfl rfl (fun a' w' F' E' => o_move (F'.ev rfl) ⟨Ext.refl _ _, rfl⟩) ?_
  refine mKG hok rfl rfl rfl rfl (fun a' w' F' E' => o_move (F'.ev rfl) ⟨Ext.refl _ _, rfl⟩) ?_
  refine mKG hok rfl rfl rfl rfl (fun a' w' F' E' => o_move (F'.ev rfl) ⟨Ext.refl _ _, rfl⟩) ?_
  (refine mKG hok rfl rfl rfl rfl (fun a' w' F' E' => o_call (F'.ev rfl) (F'.evs rfl) (Cal.mono (validates_c zs hzo _ at1 eui he _ (hL _ E').1 (hL _ E').2) fun _ _ hh => ⟨hh.2, hh.1⟩)) ?_)
  refine mK hok rfl rfl (fun a' w' F' E' => o_pickT (F'.ev rfl) (F'.ev rfl) ⟨Ext.refl _ _, rfl⟩) ?_
  refine mK hok rfl rfl (fun a' w' F' E' => o_move (F'.ev rfl) ⟨Ext.refl _ _, rfl⟩) ?_
  refine mKG hok rfl rfl rfl rfl (fun a' w' F' E' => o_move (F'.ev rfl) ⟨Ext.refl _ _, rfl⟩) ?_
  refine mKG hok rfl rfl rfl rfl (fun a' w' F' E' => o_move (F'.ev rfl) ⟨Ext.refl _ _, rfl⟩) ?_
  (refine mKG hok rfl rfl rfl rfl (fun a' w' F' E' => o_call (F'.ev rfl) (F'.evs rfl) (Cal.mono (validates_c zs hzo _ now 3 (by omega) _ (hL _ E').1 (hL _ E').2) fun _ _ hh => ⟨hh.2, hh.1⟩)) ?_)
  refine mK hok rfl rfl (fun a' w' F' E' => o_pickT (F'.ev rfl) (F'.ev rfl) ⟨Ext.refl _ _, rfl⟩) ?_
  refine mK hok rfl rfl (fun a' w' F' E' => o_move (F'.ev rfl) ⟨Ext.refl _ _, rfl⟩) ?_
  refine mKG hok rfl rfl rfl rfl (fun a' w' F' E' => o_move (F'.ev rfl) ⟨Ext.refl _ _, rfl⟩) ?_
  refine mEXG (V := Any) (T' := TCl w.heap.size zs 24) hok rfl rfl rfl rfl (fun _ _ _ _ _ => trivial) (TCl.stays _ _ _ _) (fun a' w' σ' F' E' D' hσ' T' => o_call (F'.ev rfl) (F'.evs rfl) (Cal.mono (cloneO_c zs hzo (by omega) v _ (hL _ E').1 (hL _ E').2) fun x w'' hh => by
  obtain ⟨ent, h1, h2, h3⟩ := hh
  exact ⟨BigE.of_ext h3.ext, trivial, ent, by rw [updS_same]; exact h1, by rw [updS_same]; exact h2, h3.new (hsE _ E')⟩)) ?_
  refine mKG hok rfl rfl rfl rfl (fun a' w' F' E' => o_loadA (hM _ E') (F'.ev rfl) (by repeat (first | exact .here | apply Has.there)) (by first | assumption | rfl) ⟨Ext.refl _ _, rfl⟩) ?_
  refine mXG (V := NewS w.heap.size 1 1 (.cells (ovC y).toArray 58 (0, 0))) hok rfl rfl rfl rfl (NewS.staysBig (by rw [f2]; omega)) (fun a' w' F' E' D' => o_buildSlice F' (Mem.empty w') rfl rfl rfl (of_build1 hyo.1 _ _) fun b w'' M'' => ⟨M''.ext, b, rfl, by have h1 := (M''.own _ List.mem_cons_self).resolve_left (by simp); have h2 := hsE _ E'; omega, M''.heap .here⟩) ?_
  refine mEXG (V := Any) (T' := TAp (zs ++ [y]) 27) hok rfl rfl rfl rfl (fun _ _ _ _ _ => trivial) (TAp.stays _ _ _) (fun a' w' σ' F' E' D' hσ' T' => by
    obtain ⟨ent, h1, h2, h3⟩ := T'
    obtain ⟨b, e1, e2, e3⟩ := D' 26 (by decide) (NewS w.heap.size 1 1 (.cells (ovC y).toArray 58 (0, 0))) (by kernel_rfl)
    have hs := hσ' 24 (by simp) (by decide)
    have hev1 : a'.eval (.tmp 75) = σ' 24 := hs.symm
    have hev2 : a'.eval (.tmp 77) = .slice (some ⟨b, 0, none⟩) 1 1 := e1
    refine o_appendBig h1 h3 (hAll (hL _ E').2) (hbig _ 1 (by omega) h2) hev1 hev2 (SrcOf.cells' e3 (sg_all (by rw [f2])) (ov_one (hY _ E'))) (by omega) (by omega) fun v' ent' w'' hO' hat hB => ⟨hB, trivial, ?_⟩
    show SlAt _ _ (updS σ' 27 v' 27) _ _
    rw [updS_same, List.length_append, encL_app, encL_one]
    exact hO'.slAtH hat) ?_
  refine mKG hok rfl rfl rfl rfl (fun a' w' F' E' => o_move (F'.ev rfl) ⟨Ext.refl _ _, rfl⟩) ?_
  refine mEKXG (v := .bool true) (T' := noT) hok rfl rfl rfl rfl (noT.stays _) (fun a' w' σ' F' E' D' hσ' T' => by
    have hs := hσ' 27 (by simp) (by decide)
    have F2 := F'.know (d := 78) (v := σ' 27) hs.symm
    exact o_call (F2.ev rfl) (F2.evs rfl) (Cal.mono (validates_c (zs ++ [y]) (fun z hz => (List.mem_append.1 hz).elim (hzo z) fun h => by simp only [List.mem_singleton] at h; rw [h]; exact hyo) _ at1 3 (by omega) w' T' (fun z hz => (List.mem_append.1 hz).elim ((hL _ E').2 z) fun h => by simp only [List.mem_singleton] at h; rw [h]; exact hY _ E')) fun _ _ hh => ⟨BigE.of_ext hh.2, hh.1, trivial⟩)) ?_
  refine mK hok rfl rfl (fun a' w' F' E' => o_pickT (F'.ev rfl) (F'.ev rfl) ⟨Ext.refl _ _, rfl⟩) ?_
  refine mE (T' := noT) hok rfl rfl (noT.stays _) (fun a' w' σ' F' E' T' => o_move (F'.ev rfl) ⟨BigE.of_ext (Ext.refl _ _), rfl, trivial⟩) ?_
  refine mKG hok rfl rfl rfl rfl (fun a' w' F' E' => o_move (F'.ev rfl) ⟨Ext.refl _ _, rfl⟩) ?_
  refine mEXG (V := Any) (T' := TCl w.heap.size zs 33) hok rfl rfl rfl rfl (fun _ _ _ _ _ => trivial) (TCl.stays _ _ _ _) (fun a' w' σ' F' E' D' hσ' T' => o_call (F'.ev rfl) (F'.evs rfl) (Cal.mono (cloneO_c zs hzo (by omega) v _ (hL _ E').1 (hL _ E').2) fun x w'' hh => by
  obtain ⟨ent, h1, h2, h3⟩ := hh
  exact ⟨BigE.of_ext h3.ext, trivial, ent, by rw [updS_same]; exact h1, by rw [updS_same]; exact h2, h3.new (hsE _ E')⟩)) ?_
  refine mKG hok rfl rfl rfl rfl (fun a' w' F' E' => o_move (F'.ev rfl) ⟨Ext.refl _ _, rfl⟩) ?_
  refine mEXG (V := Any) (T' := TAp (zs ++ zs) 35) hok rfl rfl rfl rfl (fun _ _ _ _ _ => trivial) (TAp.stays _ _ _) (fun a' w' σ' F' E' D' hσ' T' => by
    obtain ⟨ent, h1, h2, h3⟩ := T'
    have hs := hσ' 33 (by simp) (by decide)
    have hev1 : a'.eval (.tmp 84) = σ' 33 := hs.symm
    by_cases h0 : zs.length = 0
    · have hz0 := List.length_eq_zero_iff.1 h0
      rcases id h1 with ⟨hv, _, _, _⟩ | ⟨b, cap', junk, hv, hent, hxl', hjl', hnc'⟩
      · refine o_appendBig h1 h3 (hAll (hL _ E').2) (fun b o s c e hc => by rw [hv] at e; cases e) hev1 (F'.ev rfl) ((hL _ E').1.src (hAll (hL _ E').2)) (by omega) (by omega) fun v' ent' w'' hO' hat hB => ⟨hB, trivial, by
        show SlAt _ _ (updS σ' 35 v' 35) _ _
        rw [updS_same, List.length_append, encL_app]
        exact hO'.slAtH hat⟩
      · refine o_append0 (sz := 20) (hev1.trans hv) (F'.ev rfl) hnc' (by have := (hL _ E').1.src (P := Try.prog) (hAll (hL _ E').2); rw [hz0] at this; simpa [encL] using this) ⟨BigE.of_ext (Ext.refl _ _), trivial, ?_⟩
        show SlAt _ _ (updS σ' 35 _ 35) _ _
        rw [updS_same, hz0]
        exact ⟨_, _, rfl, Nat.zero_le _, by simp, by simp [encL], fun h => absurd h (by simp)⟩
    · refine o_appendBig h1 h3 (hAll (hL _ E').2) (fun b o s c e hc => by omega) hev1 (F'.ev rfl) ((hL _ E').1.src (hAll (hL _ E').2)) (by omega) (by omega) fun v' ent' w'' hO' hat hB => ⟨hB, trivial, by
        show SlAt _ _ (updS σ' 35 v' 35) _ _
        rw [updS_same, List.length_append, encL_app]
        exact hO'.slAtH hat⟩) ?_
  refine mKG hok rfl rfl rfl rfl (fun a' w' F' E' => o_move (F'.ev rfl) ⟨Ext.refl _ _, rfl⟩) ?_
  refine mEKXG (v := .bool true) (T' := noT) hok rfl rfl rfl rfl (noT.stays _) (fun a' w' σ' F' E' D' hσ' T' => by
    have hs := hσ' 35 (by simp) (by decide)
    have F2 := F'.know (d := 86) (v := σ' 35) hs.symm
    exact o_call (F2.ev rfl) (F2.evs rfl) (Cal.mono (validates_c (zs ++ zs) (fun z hz => (List.mem_append.1 hz).elim (hzo z) (hzo z)) _ at1 3 (by omega) w' T' (fun z hz => (List.mem_append.1 hz).elim ((hL _ E').2 z) ((hL _ E').2 z))) fun _ _ hh => ⟨BigE.of_ext hh.2, hh.1, trivial⟩)) ?_
  refine mK hok rfl rfl (fun a' w' F' E' => o_pickT (F'.ev rfl) (F'.ev rfl) ⟨Ext.refl _ _, rfl⟩) ?_
  refine mK hok rfl rfl (fun a' w' F' E' => o_move (F'.ev rfl) ⟨Ext.refl _ _, rfl⟩) ?_
  (refine mKG hok rfl rfl rfl rfl (fun a' w' F' E' => o_call (F'.ev rfl) (F'.evs rfl) (Cal.mono (offered_c _) fun _ _ hh => ⟨hh.2, hh.1⟩)) ?_)
  refine mK hok rfl rfl (fun a' w' F' E' => o_pickT (F'.ev rfl) (F'.ev rfl) ⟨Ext.refl _ _, rfl⟩) ?_
  refine mK hok rfl rfl (fun a' w' F' E' => o_assign (F'.ev rfl) ⟨Ext.refl _ _, rfl⟩) ?_
  (refine mDone rfl hef ?_; clear F; clear M; intro a w2 F hE2 hX MT hDD hPP; have M := hM _ hE2; clear M1 hX hE2 hok hef hDD hPP hM hL hR hY hsE; (try dsimp only at F))
  with_reducible refine l_nil ?_
  with_reducible refine q_then ?_
  with_reducible refine c_ret ?_
  refine p_ret F rfl (.cons (.tmp (F.ev rfl)) .nil) ?_
  exact ⟨rfl, E0.trans M.ext⟩
end Go.Proofs.Ytainnefmobfcjaa
namespace Go.Proofs.Ytainnefmobfcjaa
set_option linter.unusedVariables false
set_option linter.unusedSimpArgs false
open Go.ChangeShapes Go.WideShapes Go.ChangeAt Go.RowKit
set_option maxRecDepth 100000 in
theorem borderValidates_contract (H : Type) (enc : TypeId × Value → H) (W : World) (base : Nat) (args : Array Value) (ds gs : List (DataW H)) (before : List MemPlace)
    (hval : ∀ (j : Nat) t v, Try.f7.params[j]? = some t → args[j]? = some v → Value.okWide Try.prog W .any base t v)
    (hW : DataW.Whole enc Try.prog Try.f7.params.toList Rows.borderValidatesSpec.vars false W args.toList ds gs before) (hL : laidMetH Try.prog seatLaid W) (hS : W.ShapedOpen Try.prog) :
    Calls Try.prog 7 args W fun e W' => ∃ v, e = .returned v ∧ Rows.borderValidatesSpec.post enc Try.prog Try.f7 false true false false W args v W' := by
  have hW' := hW
  obtain ⟨p, q, hA0, hV, rfl, hfz, hnd⟩ := hW
  have hA : DataW.TrodAll enc Try.prog W 0 (fun _ => true) true Try.f7.params.toList args.toList ds p := hA0
  rw [Try.params7] at hA hval
  obtain ⟨v0, vs0, d0, ds0, p0, q0, hargs, rfl, rfl, h0, r0⟩ := trodAll_cons hA
  obtain ⟨v1, vs1, d1, ds1, p1, q1, rfl, rfl, rfl, h1, r1⟩ := trodAll_cons r0
  obtain ⟨v2, vs2, d2, ds2, p2, q2, rfl, rfl, rfl, h2, r2⟩ := trodAll_cons r1
  obtain ⟨v3, vs3, d3, ds3, p3, q3, rfl, rfl, rfl, h3, r3⟩ := trodAll_cons r2
  obtain ⟨rfl, rfl, rfl⟩ := trodAll_nil r3
  obtain rfl : args = #[v0, v1, v2, v3] := by cases args; simp_all
  obtain ⟨l0, hx0, hos0⟩ := open_offs (hval 0 _ v0 rfl rfl) h0
  obtain ⟨l1, q1p, cap1, rfl, hc1, hx1⟩ := open_il (hval 1 _ v1 rfl rfl) h1
  obtain ⟨x2, rfl, rfl, rfl, w2⟩ := open_int Try.underlying3 (hval 2 _ v2 rfl rfl) h2; have hx2 := int_bd w2
  obtain ⟨x3, rfl, rfl, rfl, w3⟩ := open_int Try.underlying36 (hval 3 _ v3 rfl rfl) h3; have hx3 := int_bd w3
  refine ((validatesL_c l0 (fun x h => (hx0 x h).1) v0 q1p cap1 l1 x2 x3 hx3.1 W hos0 (fun x h => (hx0 x h).2) hx1 hc1).calls).mono ?_
  rintro e W' ⟨v, rfl, rfl, hE⟩
  exact ⟨_, rfl, law_post (tb := 4) laidOut (by kernel_rfl) rfl (by kernel_rfl) Try.underlying4 (fun xs hx => by rw [Try.params7] at hx; match xs, hx with | [_, _, _, _], _ => rfl) hW' hE⟩
set_option maxRecDepth 100000 in
theorem borderValidates_lifted (os : Os) (started : os.Started) (H : Type) (enc : TypeId × Value → H) (F : Stop.Interp) :
    ReturnsInHanded {} Try.checked os 7 .any ((OpenSpec.ofChange Rows.borderValidatesSpec).preRow enc Try.prog Try.f7 Rows.borderValidatesRow.domain false Rows.borderValidatesRow.laid) (((OpenSpec.ofChange Rows.borderValidatesSpec).at F).post enc Try.prog Try.f7 false true false false) := by
  have hx : ∃ places ds, DataW.whole enc Try.prog ((laidWorld os).forCall (fun _ _ => 0) ⟨#[], #[.slice none 0 0, .slice none 0 0, .int .i64 0, .int .u64 0], []⟩).memory Try.f7.params.toList Rows.borderValidatesSpec.vars false #[Value.slice none 0 0, .slice none 0 0, .int .i64 0, .int .u64 0].toList 8 = some (ds, [], places) ∧ ds = [.nil, .nil, .lit (.int .i64 0), .lit (.int .u64 0)] := ⟨[], [.nil, .nil, .lit (.int .i64 0), .lit (.int .u64 0)], by kernel_rfl, rfl⟩
  obtain ⟨places, ds, hx, rfl⟩ := hx
  refine returnsInHanded_of_row (C := Try.checked) (s := OpenSpec.ofChange Rows.borderValidatesSpec) own started (by kernel_rfl) Try.func7
    (witness_row_at (enc := enc) (C := Try.checked) false (laidWorld os) #[.slice none 0 0, .slice none 0 0, .int .i64 0, .int .u64 0] rfl (by kernel_rfl) (by kernel_rfl) (by kernel_rfl)
      (OpenSpec.preRow_of_cond 8 hx (by kernel_rfl) (fun k hk => by cases hk) (by kernel_rfl) (laid_met os _))) ?_
  intro W base args ds gs before hval hW _ hcond _ hL hS _
  exact borderValidates_contract H enc W base args ds gs before hval hW hL hS
theorem borderValidates_said : Rows.BorderValidatesSaid :=
  OpenClaim.holds_of_cond 7 Try.f7 rfl rfl rfl rfl rfl rfl rfl ⟨rfl, rfl, rfl, rfl, rfl⟩ rfl rfl rfl rfl rfl (by kernel_rfl) Try.func7 (by kernel_rfl)
    (of_decide_eq_true (by kernel_rfl)) (by unfold Func.isWrapper; first | (rw [if_pos (by decide +kernel)]; kernel_rfl) | (rw [if_neg (by decide +kernel)]; exact ⟨rfl, rfl⟩))
    (fun os started H enc _ F => by rw [OpenClaim.pre_eq_preRow]; exact borderValidates_lifted os started H enc F)
#print axioms borderValidates_said
end Go.Proofs.Ytainnefmobfcjaa

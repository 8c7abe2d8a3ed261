/-
  Texts joined: F5, F6, FB, FC, FD, FE, FF, FG.
-/
import Derived.Test.YtainnefmobfcjaaAcc5
/-! F5 -/
/-
  border.Accept: what it answers (plain).
-/
namespace Go.Proofs.Ytainnefmobfcjaa
set_option linter.unusedVariables false
set_option linter.unusedSimpArgs false
open Go.RowKit
attribute [local irreducible] OpTo wpListIn Code.wpIn MW Cal

def insO (o : Off) : List Off → Option (List Off)
  | [] => some [o]
  | y :: ys =>
    if cmpL y.h.rt o.h.rt < 0 then (insO o ys).map (y :: ·)
    else if cmpL y.h.rt o.h.rt = 0 then
      (if o.h.ver < y.h.ver then none else if y.h.ver = o.h.ver then some ({ y with h := { y.h with til := if y.h.til < o.h.til then o.h.til else y.h.til } } :: ys) else some (o :: ys))
    else some (o :: y :: ys)
def curO (os : List Off) (now : Int) : List Off := os.filter fun y => decide (now < y.h.til)
def acceptV (os : List Off) (now : Int) (o : Off) : List Off × Int :=
  if validL os && validO o then
    if isTime now then
      if o.h.til ≤ now then ([], 14) else
      match insO o (curO os now) with
      | none => ([], 16)
      | some r => if 8 < r.length then ([], 10) else (r, 0)
    else ([], 2)
  else ([], 1)
theorem curX_map (xs : List OV) (now : Int) : (curX xs now).map (·.o) = curO (xs.map (·.o)) now := by
  unfold curX curO
  rw [List.filter_map]
  rfl
/-- the offer with the later time -/
def later2 (y o : Off) : Off := { y with h := { y.h with til := if y.h.til < o.h.til then o.h.til else y.h.til } }
theorem insO_at (o : Off) : ∀ (i : Nat) (os : List Off), i ≤ os.length → (∀ j (hj : j < i) (hl : j < os.length), cmpL os[j].h.rt o.h.rt < 0) → (∀ hl : i < os.length, 0 ≤ cmpL os[i].h.rt o.h.rt) →
    insO o os = if h : i < os.length then (if cmpL os[i].h.rt o.h.rt = 0 then (if o.h.ver < os[i].h.ver then none else if os[i].h.ver = o.h.ver then some (os.set i (later2 os[i] o)) else some (os.set i o)) else some (os.take i ++ o :: os.drop i)) else some (os.take i ++ o :: os.drop i)
  | 0, [], _, _, _ => by simp [insO]
  | 0, y :: ys, _, _, h2 => by
    have := h2 (by simp)
    simp only [List.getElem_cons_zero] at this
    rw [dif_pos (by simp)]
    simp only [insO, if_neg (show ¬ cmpL y.h.rt o.h.rt < 0 by omega), List.getElem_cons_zero, List.set_cons_zero, List.take_zero, List.drop_zero, List.nil_append, later2]
  | i + 1, [], h, _, _ => by simp at h
  | i + 1, y :: ys, h, h1, h2 => by
    have h0 := h1 0 (by omega) (by simp)
    simp only [List.getElem_cons_zero] at h0
    have ih := insO_at o i ys (by simpa using h) (fun j hj hl => by have := h1 (j + 1) (by omega) (by simp; omega); simpa using this) (fun hl => by have := h2 (by simp; omega); simpa using this)
    simp only [insO, if_pos h0]
    rw [ih]
    by_cases hi : i < ys.length
    · rw [dif_pos hi, dif_pos (by simp; omega)]
      simp only [List.getElem_cons_succ, List.set_cons_succ, List.take_succ_cons, List.drop_succ_cons, List.cons_append]
      split
      · split
        · rfl
        · split <;> rfl
      · rfl
    · rw [dif_neg hi, dif_neg (by simp; omega)]
      simp

def Asc (os : List Off) : Prop := os.Pairwise fun a b => cmpL a.h.rt b.h.rt < 0
theorem asc_of_adj {os : List Off} (h : ∀ i (hi : i < os.length) (h0 : 0 < i), cmpL os[i - 1].h.rt os[i].h.rt < 0) : Asc os := by
  unfold Asc
  rw [List.pairwise_iff_getElem]
  have key : ∀ (d i : Nat) (hj : i + (d + 1) < os.length), cmpL (os[i]'(by omega)).h.rt os[i + (d + 1)].h.rt < 0 := by
    intro d
    induction d with
    | zero => intro i hj; have := h (i + 1) hj (by omega); simpa using this
    | succ d ih =>
      intro i hj
      have h1 := ih i (by omega)
      have h2 := h (i + (d + 1) + 1) hj (by omega)
      simp only [Nat.add_sub_cancel] at h2
      exact cmpL_lt_trans h1 h2
  intro i j hi hj hij
  obtain ⟨d, rfl⟩ : ∃ d, j = i + (d + 1) := ⟨j - i - 1, by omega⟩
  exact key d i hj
theorem allI_at {p : Nat → Bool} {n : Nat} (h : allI p n = true) {i : Nat} (hi : i < n) : p i = true := by
  unfold allI at h
  exact List.all_eq_true.1 h i (List.mem_range.2 hi)
theorem validL_asc {os : List Off} (h : validL os = true) : Asc os := by
  unfold validL at h
  simp only [Bool.and_eq_true] at h
  refine asc_of_adj fun i hi h0 => ?_
  have := allI_at h.2 hi
  unfold valid1 at this
  rw [List.getElem?_eq_getElem hi] at this
  simp only [Bool.and_eq_true, Bool.or_eq_true, decide_eq_true_eq] at this
  rcases this.2 with h2 | h2
  · omega
  · rw [dif_pos (by omega)] at h2
    simpa using h2
theorem validL_each {os : List Off} (h : validL os = true) {o : Off} (ho : o ∈ os) : validO o = true := by
  unfold validL at h
  simp only [Bool.and_eq_true] at h
  obtain ⟨i, hi, rfl⟩ := List.mem_iff_getElem.1 ho
  have := allI_at h.2 hi
  unfold valid1 at this
  rw [List.getElem?_eq_getElem hi] at this
  simp only [Bool.and_eq_true] at this
  exact this.1
theorem validL_len {os : List Off} (h : validL os = true) : os.length ≤ 8 := by
  unfold validL at h
  simp only [Bool.and_eq_true, decide_eq_true_eq] at h
  exact h.1
theorem validO_len {o : Off} (h : validO o = true) : o.ps.length ≤ 16 ∧ o.cs.length ≤ 16 := by
  unfold validO hdO at h
  simp only [Bool.and_eq_true, decide_eq_true_eq] at h
  exact ⟨h.1.1.1.2, h.1.1.2⟩
theorem Asc.filter {os : List Off} (h : Asc os) (f : Off → Bool) : Asc (os.filter f) := List.Pairwise.filter _ h
theorem asc_ov {zs : List OV} (h : Asc (zs.map (·.o))) : ∀ j k (hj : j < k) (hk : k < zs.length), cmpL zs[j].o.h.rt zs[k].o.h.rt < 0 := by
  intro j k hj hk
  have := (List.pairwise_iff_getElem.1 h) j k (by simp; omega) (by simp; omega) hj
  simpa using this

/-! in memory -/
def OffsAt (W : World) (s : Value) (os : List Off) : Prop := ∃ zs : List OV, zs.map (·.o) = os ∧ SlAt W 20 s zs.length (encL ovC zs) ∧ ∀ z ∈ zs, OffAt W z
theorem OffsAt.nil (W : World) : OffsAt W (.slice none 0 0) [] := ⟨[], rfl, SlAt.nil W 20, by simp⟩
theorem OffsAt.later {W w : World} {s : Value} {os : List Off} (h : OffsAt W s os) (E : Ext [] W w) : OffsAt w s os := by
  obtain ⟨zs, h1, h2, h3⟩ := h
  exact ⟨zs, h1, h2.later E, fun z hz => (h3 z hz).later E⟩
/-- .. in new memory -/
def OffsN (n0 : Nat) (W : World) (s : Value) (os : List Off) : Prop := ∃ zs : List OV, zs.map (·.o) = os ∧ SlAt W 20 s zs.length (encL ovC zs) ∧ (∀ z ∈ zs, OffAt W z) ∧ NewV n0 s ∧ ∀ z ∈ zs, NewV n0 z.u ∧ NewV n0 z.v
theorem OffsN.nil (n0 : Nat) (W : World) : OffsN n0 W (.slice none 0 0) [] := ⟨[], rfl, SlAt.nil W 20, by simp, NewV.nil _ _ _, by simp⟩
theorem OffsN.at {n0 : Nat} {W : World} {s : Value} {os : List Off} (h : OffsN n0 W s os) : OffsAt W s os := by
  obtain ⟨zs, h1, h2, h3, _⟩ := h
  exact ⟨zs, h1, h2, h3⟩
def OwnIn (inn : List (Nat × Obj)) (z : OV) : Prop := ∃ eu ev, OwnS 111 20 z.u z.o.ps.length (pisC z.o.ps) eu ∧ OwnS 116 20 z.v z.o.cs.length (cisC z.o.cs) ev ∧ (∀ p ∈ eu, p ∈ inn) ∧ ∀ p ∈ ev, p ∈ inn
theorem OwnIn.mono {inn inn' : List (Nat × Obj)} {z : OV} (h : OwnIn inn z) (hs : ∀ p ∈ inn, p ∈ inn') : OwnIn inn' z := by
  obtain ⟨eu, ev, h1, h2, h3, h4⟩ := h
  exact ⟨eu, ev, h1, h2, fun p hp => hs p (h3 p hp), fun p hp => hs p (h4 p hp)⟩
theorem OwnIn.at {inn : List (Nat × Obj)} {z : OV} (h : OwnIn inn z) {S : List Nat} {W0 w : World} {l : List (Nat × Obj)} (M : Mem S W0 w l) (hs : ∀ p ∈ inn, p ∈ l) : OffAt w z := by
  obtain ⟨eu, ev, h1, h2, h3, h4⟩ := h
  exact ⟨h1.slAt M fun p hp => hs p (h3 p hp), h2.slAt M fun p hp => hs p (h4 p hp)⟩
theorem OwnIn.newV {inn : List (Nat × Obj)} {z : OV} (h : OwnIn inn z) {W0 w : World} {l : List (Nat × Obj)} (M : Mem [] W0 w l) (hs : ∀ p ∈ inn, p ∈ l) : NewV W0.heap.size z.u ∧ NewV W0.heap.size z.v := by
  obtain ⟨eu, ev, h1, h2, h3, h4⟩ := h
  exact ⟨h1.newV M fun p hp => hs p (h3 p hp), h2.newV M fun p hp => hs p (h4 p hp)⟩
theorem OwnS.one {e : TypeId} {sz n : Nat} {v : Value} {xs : List Value} {ent : List (Nat × Obj)} (h : OwnS e sz v n xs ent) : v.oneCell' = true := by
  obtain ⟨p, cap, rfl⟩ := h.slice
  rfl
theorem OwnIn.one {inn : List (Nat × Obj)} {z : OV} (h : OwnIn inn z) : (ovC z).all (·.oneCell') = true := by
  obtain ⟨eu, ev, h1, h2, _⟩ := h
  exact of_one _ _ _ h1.one h2.one

/-- a copy, and what is made of it -/
def PhC (o : Off) (r : Value) (ent : List (Nat × Obj)) : Prop := ∃ u v eu ev, r = .agg (ovC ⟨o, u, v⟩).toArray ∧ OwnS 111 20 u o.ps.length (pisC o.ps) eu ∧ OwnS 116 20 v o.cs.length (cisC o.cs) ev ∧ ent = eu ++ ev
def PhS (o : Off) (r : Value) (ent : List (Nat × Obj)) : Prop := ∃ b u v eu ev, r = .slice (some ⟨b, 0, none⟩) 1 1 ∧ OwnS 111 20 u o.ps.length (pisC o.ps) eu ∧ OwnS 116 20 v o.cs.length (cisC o.cs) ev ∧ ent = (b, .cells (ovC ⟨o, u, v⟩).toArray 58 (0, 0)) :: (eu ++ ev)
theorem copyN_c (x : OV) (hx : IsOff x.o) (h1 : x.o.ps.length ≤ 100000) (h2 : x.o.cs.length ≤ 100000) (W : World) (hA : OffAt W x) :
    Cal Try.prog 55 [.agg (ovC x).toArray].toArray W fun r w' => ∃ ent, PhC x.o r ent ∧ Mem [] W w' ent :=
  Cal.mono (copy_c x hx h1 h2 W hA) fun _ _ ⟨u, v, eu, ev, h, hO, hO2, M⟩ => ⟨_, ⟨u, v, eu, ev, h, hO, hO2, rfl⟩, M⟩
theorem rcopyN_c (x : OV) (hx : IsOff x.o) (h1 : x.o.ps.length ≤ 100000) (h2 : x.o.cs.length ≤ 100000) (W : World) (hA : OffAt W x) :
    Cal Try.prog 63 [.agg (ovC x).toArray].toArray W fun r w' => ∃ ent, PhC x.o r ent ∧ Mem [] W w' ent :=
  Cal.mono (rcopy_c x hx h1 h2 W hA) fun _ _ ⟨u, v, eu, ev, h, hO, hO2, M⟩ => ⟨_, ⟨u, v, eu, ev, h, hO, hO2, rfl⟩, M⟩
theorem bs1 {o : Off} (ho : IsOff o) {a : Act} {n t : Nat} {df : List Deferred} {fr : List (Nat × Value)} {w w1 : World} {d : Option Tmp} {ty : TypeId} {pos : String} {af : Array Edge} {g : Option (Nat × Bool)} (F : Frm a n df fr) (E : Ext [] w1 w) (D : NewP w1.heap.size (PhC o) (a.tmps.getD t undef) w) :
    OpTo Try.prog ⟨d, .buildSlice 52 1 [(0, .tmp t)].toArray, ty, pos, af, g⟩ a.eval w fun r w' => Ext [] w w' ∧ NewP w1.heap.size (PhS o) r w' := by
  unfold NewP at D
  refine D.elim fun ent hD => ?_
  have hp := hD.1
  have hN := hD.2
  unfold PhC at hp
  obtain ⟨u, v, eu, ev, hr, hO1, hO2, he⟩ := hp
  subst he
  have F' := F.know (d := t) hr
  have hb := of_build1 ho.1 u v
  have hev : evP ((t, .agg (ovC ⟨o, u, v⟩).toArray) :: fr) [(0, .tmp t)] = some [(0, ovC ⟨o, u, v⟩)] := by
    have h1 : Ev ((t, Value.agg (ovC ⟨o, u, v⟩).toArray) :: fr) (.tmp t) = some (.agg (ovC ⟨o, u, v⟩).toArray) := by
      show look _ t = _
      rw [look_put, if_pos rfl]
    simp only [evP, h1]
  refine o_buildSlice F' (Mem.start [] w) hev rfl rfl hb ?_
  intro b w' M
  refine ⟨M.ext, _, ⟨b, u, v, eu, ev, rfl, hO1, hO2, rfl⟩, ?_⟩
  exact hN.app M E.size
end Go.Proofs.Ytainnefmobfcjaa

/-! F6 -/
/-
  border.Accept: the walk.
-/
namespace Go.Proofs.Ytainnefmobfcjaa
set_option linter.unusedVariables false
set_option linter.unusedSimpArgs false
open Go.RowKit
attribute [local irreducible] OpTo wpListIn Code.wpIn MW Cal

theorem of_tilP {h : OffH} (hh : IsOf h) (u v : Value) (z : Int) : put (ofC h u v) 17 [.int .i64 z] = some (ofC { h with til := z } u v) := of_put_til hh u v z
set_option maxHeartbeats 8000000 in
theorem accept_c (xs : List OV) (hx : ∀ x ∈ xs, IsOff x.o) (v : Value) (now : Int) (x : OV) (hxo : IsOff x.o) (W : World) (hS : SlAt W 20 v xs.length (encL ovC xs)) (hA : ∀ x ∈ xs, OffAt W x) (hxa : OffAt W x) :
    Cal Try.prog 21 [v, .int .i64 now, .agg (ovC x).toArray].toArray W fun r w' => ∃ s, r = .tuple #[s, .int .i64 (acceptV (xs.map (·.o)) now x.o).2] ∧ OffsN W.heap.size w' s (acceptV (xs.map (·.o)) now x.o).1 ∧ Ext [] W w' := by
  have hSs := hS
  obtain ⟨q, cap, rfl, hcap, hsp, hl, hm⟩ := hS
  have e1 : nth (ovC x) 17 = some (.int .i64 x.o.h.til) := of_til hxo.1 _ _
  have e2 : seg (ovC x) 0 20 = some (ovC x) := of_all hxo.1 _ _
  have e3 : seg (ovC x) 0 16 = some (ipC x.o.h.rt) := of_rt hxo.1 _ _
  have e4 : nth (ovC x) 16 = some (.int .i64 x.o.h.ver) := of_ver hxo.1 _ _
  have hsz : ∀ z : OV, IsOff z.o → (ovC z).length = 20 := fun z h => ov_len h
  refine fn_ofM (n := 96) [] Try.func21 rfl rfl rfl ?_
  intro a w F M hwW
  refine c_seq ?_
  refine c_region ?_
  (refine stepD rfl F rfl (o_box M (F.ev rfl) rfl ?_); clear F; clear M; intro b5 w M a F)
  refine stepD rfl F rfl (o_assign (F.ev rfl) ?_); clear F; clear a; intro a F
  refine stepD rfl F rfl (o_assign (F.ev rfl) ?_); clear F; clear a; intro a F
  with_reducible refine l_nil ?_
  with_reducible refine q_then ?_
  with_reducible refine c_seq ?_
  with_reducible refine c_seq ?_
  with_reducible refine c_region ?_
  refine stepD rfl F rfl (o_move (F.ev rfl) ?_); clear F; clear a; intro a F
  (refine stepD rfl F rfl (o_call (F.ev rfl) (F.evs rfl) (Cal.mono (validL_c xs hx _ _ (hSs.later M.ext) (fun z hz => (hA z hz).later M.ext)) ?_)); clear F; clear a; rintro _ w ⟨rfl, hE⟩ a F; replace M := M.later hE; clear hE)
  cases hv : validL (xs.map (·.o))
  · have hacc : acceptV (xs.map (·.o)) now x.o = ([], 1) := by unfold acceptV; rw [hv]; rfl
    rw [hacc]
    rw [hv] at F
    refine stepD rfl F rfl (o_not (F.ev rfl) ?_); clear F; clear a; intro a F
    refine stepD rfl F rfl (o_move (F.ev rfl) ?_); clear F; clear a; intro a F
    refine stepOff F rfl rfl rfl rfl ?_; clear F; clear a; intro a F
    refine stepOff F rfl rfl rfl rfl ?_; clear F; clear a; intro a F
    refine stepOff F rfl rfl rfl rfl ?_; clear F; clear a; intro a F
    refine stepD rfl F rfl (o_pickT (F.ev rfl) (F.ev rfl) ?_); clear F; clear a; intro a F
    with_reducible refine l_nil ?_
    with_reducible refine q_then ?_
    refine c_true F rfl rfl ?_
    with_reducible refine c_seq ?_
    with_reducible refine c_region ?_
    refine stepD rfl F rfl (o_assign (F.ev rfl) ?_); clear F; clear a; intro a F
    refine stepD rfl F rfl (o_assign (F.ev rfl) ?_); clear F; clear a; intro a F
    with_reducible refine l_nil ?_
    with_reducible refine q_then ?_
    with_reducible refine c_ret ?_
    with_reducible refine q_thenR ?_
    refine p_ret F rfl (.cons (.tmp (F.ev rfl)) (.cons (.tmp (F.ev rfl)) .nil)) ?_
    exact ⟨_, rfl, OffsN.nil _ _, M.ext⟩
  rw [hv] at F
  refine stepD rfl F rfl (o_not (F.ev rfl) ?_); clear F; clear a; intro a F
  refine stepD rfl F rfl (o_move (F.ev rfl) ?_); clear F; clear a; intro a F
  refine stepG rfl F rfl rfl rfl (o_loadA M (F.ev rfl) (by repeat (first | exact .here | apply Has.there)) (by first | assumption | rfl) ?_); clear F; clear a; intro a F
  (refine stepG rfl F rfl rfl rfl (o_call (F.ev rfl) (F.evs rfl) (Cal.mono (validOffer_c x hxo _ (hxa.later M.ext)) ?_)); clear F; clear a; rintro _ w ⟨rfl, hE⟩ a F; replace M := M.later hE; clear hE)
  cases ho : validO x.o
  · have hacc : acceptV (xs.map (·.o)) now x.o = ([], 1) := by unfold acceptV; rw [hv, ho]; rfl
    rw [hacc]
    rw [ho] at F
    refine stepG rfl F rfl rfl rfl (o_not (F.ev rfl) ?_); clear F; clear a; intro a F
    refine stepD rfl F rfl (o_pickF (F.ev rfl) (F.ev rfl) ?_); clear F; clear a; intro a F
    with_reducible refine l_nil ?_
    with_reducible refine q_then ?_
    refine c_true F rfl rfl ?_
    with_reducible refine c_seq ?_
    with_reducible refine c_region ?_
    refine stepD rfl F rfl (o_assign (F.ev rfl) ?_); clear F; clear a; intro a F
    refine stepD rfl F rfl (o_assign (F.ev rfl) ?_); clear F; clear a; intro a F
    with_reducible refine l_nil ?_
    with_reducible refine q_then ?_
    with_reducible refine c_ret ?_
    with_reducible refine q_thenR ?_
    refine p_ret F rfl (.cons (.tmp (F.ev rfl)) (.cons (.tmp (F.ev rfl)) .nil)) ?_
    exact ⟨_, rfl, OffsN.nil _ _, M.ext⟩
  rw [ho] at F
  refine stepG rfl F rfl rfl rfl (o_not (F.ev rfl) ?_); clear F; clear a; intro a F
  refine stepD rfl F rfl (o_pickF (F.ev rfl) (F.ev rfl) ?_); clear F; clear a; intro a F
  with_reducible refine l_nil ?_
  with_reducible refine q_then ?_
  refine c_false F rfl rfl ?_
  with_reducible refine c_skip ?_
  with_reducible refine q_then ?_
  with_reducible refine c_seq ?_
  with_reducible refine c_seq ?_
  with_reducible refine c_region ?_
  refine stepD rfl F rfl (o_move (F.ev rfl) ?_); clear F; clear a; intro a F
  (refine stepD rfl F rfl (o_call (F.ev rfl) (F.evs rfl) (Cal.mono (isTime_c now _) ?_)); clear F; clear a; rintro _ w ⟨rfl, hE⟩ a F; replace M := M.later hE; clear hE)
  cases htm : isTime now
  · have hacc : acceptV (xs.map (·.o)) now x.o = ([], 2) := by unfold acceptV; rw [hv, ho, htm]; rfl
    rw [hacc]
    rw [htm] at F
    refine stepD rfl F rfl (o_not (F.ev rfl) ?_); clear F; clear a; intro a F
    with_reducible refine l_nil ?_
    with_reducible refine q_then ?_
    refine c_true F rfl rfl ?_
    with_reducible refine c_seq ?_
    with_reducible refine c_region ?_
    refine stepD rfl F rfl (o_assign (F.ev rfl) ?_); clear F; clear a; intro a F
    refine stepD rfl F rfl (o_assign (F.ev rfl) ?_); clear F; clear a; intro a F
    with_reducible refine l_nil ?_
    with_reducible refine q_then ?_
    with_reducible refine c_ret ?_
    with_reducible refine q_thenR ?_
    refine p_ret F rfl (.cons (.tmp (F.ev rfl)) (.cons (.tmp (F.ev rfl)) .nil)) ?_
    exact ⟨_, rfl, OffsN.nil _ _, M.ext⟩
  rw [htm] at F
  by_cases c4 : x.o.h.til ≤ now
  · have hacc : acceptV (xs.map (·.o)) now x.o = ([], 14) := by
      unfold acceptV
      rw [hv, ho, htm]
      simp only [Bool.and_self, if_true, if_pos c4]
    rw [hacc]
    refine stepD rfl F rfl (o_not (F.ev rfl) ?_); clear F; clear a; intro a F
    with_reducible refine l_nil ?_
    with_reducible refine q_then ?_
    refine c_false F rfl rfl ?_
    with_reducible refine c_skip ?_
    with_reducible refine q_then ?_
    with_reducible refine c_seq ?_
    with_reducible refine c_seq ?_
    with_reducible refine c_region ?_
    refine stepD rfl F rfl (o_fieldAddr (F.ev rfl) ?_); clear F; clear a; intro a F
    refine stepD rfl F rfl (o_load1 M (F.ev rfl) (by repeat (first | exact .here | apply Has.there)) (by first | assumption | rfl) ?_); clear F; clear a; intro a F
    refine stepD rfl F rfl (o_move (F.ev rfl) ?_); clear F; clear a; intro a F
    refine stepD rfl F rfl (o_leqT (F.ev rfl) (F.ev rfl) (by omega) ?_); clear F; clear a; intro a F
    with_reducible refine l_nil ?_
    with_reducible refine q_then ?_
    refine c_true F rfl rfl ?_
    with_reducible refine c_seq ?_
    with_reducible refine c_region ?_
    refine stepD rfl F rfl (o_assign (F.ev rfl) ?_); clear F; clear a; intro a F
    refine stepD rfl F rfl (o_assign (F.ev rfl) ?_); clear F; clear a; intro a F
    with_reducible refine l_nil ?_
    with_reducible refine q_then ?_
    with_reducible refine c_ret ?_
    with_reducible refine q_thenR ?_
    refine p_ret F rfl (.cons (.tmp (F.ev rfl)) (.cons (.tmp (F.ev rfl)) .nil)) ?_
    exact ⟨_, rfl, OffsN.nil _ _, M.ext⟩
  have hlen := validL_len hv
  rw [List.length_map] at hlen
  have hov := validO_len ho
  refine stepD rfl F rfl (o_not (F.ev rfl) ?_); clear F; clear a; intro a F
  with_reducible refine l_nil ?_
  with_reducible refine q_then ?_
  refine c_false F rfl rfl ?_
  with_reducible refine c_skip ?_
  with_reducible refine q_then ?_
  with_reducible refine c_seq ?_
  with_reducible refine c_seq ?_
  with_reducible refine c_region ?_
  refine stepD rfl F rfl (o_fieldAddr (F.ev rfl) ?_); clear F; clear a; intro a F
  refine stepD rfl F rfl (o_load1 M (F.ev rfl) (by repeat (first | exact .here | apply Has.there)) (by first | assumption | rfl) ?_); clear F; clear a; intro a F
  refine stepD rfl F rfl (o_move (F.ev rfl) ?_); clear F; clear a; intro a F
  refine stepD rfl F rfl (o_leqF (F.ev rfl) (F.ev rfl) (by omega) ?_); clear F; clear a; intro a F
  with_reducible refine l_nil ?_
  with_reducible refine q_then ?_
  refine c_false F rfl rfl ?_
  with_reducible refine c_skip ?_
  with_reducible refine q_then ?_
  with_reducible refine c_seq ?_
  with_reducible refine c_region ?_
  (refine stepD rfl F rfl (o_alloc M ?_); clear F; clear M; intro b8 w M a F)
  with_reducible refine l_nil ?_
  with_reducible refine q_then ?_
  with_reducible refine c_seq ?_
  with_reducible refine c_seq ?_
  with_reducible refine c_region ?_
  refine stepD rfl F rfl (o_move (F.ev rfl) ?_); clear F; clear a; intro a F
  refine stepD rfl F rfl (o_move (F.ev rfl) ?_); clear F; clear a; intro a F
  (refine stepD rfl F rfl (o_call (F.ev rfl) (F.evs rfl) (Cal.mono (current_c _ now _ rfl ) ?_)); clear F; clear a; rintro _ w ⟨c2, c3, rfl, N⟩ a F; replace M := M.joins N; clear N)
  with_reducible refine l_nil ?_
  with_reducible refine q_then ?_
  with_reducible refine c_block ?_
  replace F := F.only [29, 8, 5] rfl
  replace M := M.perm (l' := [(b8, .cells [.slice none 0 0].toArray 52 (0, 0)), (b5, .cells (ovC x).toArray 58 (0, 0))] ++ curB (.slice q xs.length cap) now c2 c3) List.perm_append_comm
  refine c_rangeAt (α := OV) (ps := [30]) F M rfl (cur_iter W xs hx _ hSs hA (by omega) now c2 c3) (fun _ => rfl) rfl
    (fun pre l => ∃ zs sv ent inn, zs.map (·.o) = pre.map (·.o) ∧ OwnS 58 20 sv zs.length (encL ovC zs) ent ∧ (∀ z ∈ zs, OwnIn inn z) ∧ l = [(b8, .cells [sv].toArray 52 (0, 0)), (b5, .cells (ovC x).toArray 58 (0, 0))] ++ (ent ++ inn))
    (fun c pre l => False)
    ⟨[], _, [], [], rfl, OwnS.nil _ _, by simp, rfl⟩ ?round ?done ?stop
  case round =>
    clear F M
    rintro L pre y _ w p a hok ⟨zs, sv, ent, inn, hz, hO, hI, rfl⟩ M F
    have hym : y ∈ curX xs now := hok.subset (by simp)
    have hyx : y ∈ xs := (List.mem_filter.1 hym).1
    have hyo := hx y hyx
    have hya := hA y hyx
    have hyv := validO_len (validL_each hv (List.mem_map_of_mem hyx))
    have hzl : zs.length ≤ 8 := by
      have h1 : zs.length = pre.length := by simpa using congrArg List.length hz
      have h2 : (pre ++ [y]).length ≤ (curX xs now).length := hok.length_le
      have h3 : (curX xs now).length ≤ xs.length := List.length_filter_le _ _
      simp at h2
      omega
    have f2 : (ovC y).length = 20 := ov_len hyo
    have f3 : seg (ovC y) 0 20 = some (ovC y) := of_all hyo.1 _ _
    refine c_region ?_
    (refine stepD rfl F rfl (o_alloc M ?_); clear F; clear M; intro b9 w M a F)
    (refine stepN rfl F (o_storeA M (F.ev rfl) (F.ev rfl) (f2) (ov_one hya)  (by repeat (first | exact .here | apply Has.there))  (put_all (by rw [f2]; rfl)) (by repeat (first | exact .here | apply Upd.there)) ?_); clear F; clear M; intro w M a F)
    refine l_nil ?_
    refine q_then ?_
    replace M : Mem [] W w (((b9, .cells (ovC y).toArray 58 (0, 0)) :: ([(b8, .cells [sv].toArray 52 (0, 0)), (b5, .cells (ovC x).toArray 58 (0, 0))] ++ (ent ++ inn))) ++ p) := M
    refine ⟨_, M, ?_⟩
    clear M
    intro w p M
    obtain ⟨sp, sc, rfl⟩ := hO.slice
    replace M := M.perm (l' := (b9, .cells (ovC y).toArray 58 (0, 0)) :: (b8, .cells [.slice sp zs.length sc].toArray 52 (0, 0)) :: (b5, .cells (ovC x).toArray 58 (0, 0)) :: (p ++ (inn ++ ent))) (by classical exact List.perm_iff_count.2 fun _ => by simp only [List.count_append, List.count_cons, List.count_nil, Nat.add_zero, Nat.zero_add] <;> ac_rfl)
    replace F := F.only [9, 8, 5] rfl
    with_reducible refine c_block ?_
    refine c_draw 4 F (by kernel_rfl) ?_
    intro w1 hE hok
    have M1 := M.later hE
    refine mK hok rfl rfl (fun a' w' F' E' => o_load1 (M1.later E') (F'.ev rfl) (by repeat (first | exact .here | apply Has.there)) (by first | assumption | rfl) ⟨Ext.refl _ _, rfl⟩) ?_
    refine mK hok rfl rfl (fun a' w' F' E' => o_loadA (M1.later E') (F'.ev rfl) (by repeat (first | exact .here | apply Has.there)) (by first | assumption | rfl) ⟨Ext.refl _ _, rfl⟩) ?_
    refine mX (V := NewP w1.heap.size (PhC y.o)) hok rfl rfl (NewP.stays _ _) (fun a' w' F' E' D' => o_call (F'.ev rfl) (F'.evs rfl) (Cal.mono (copyN_c y hyo (by omega) (by omega) _ (hya.later (M1.later E').ext)) fun _ _ hh => newP_of E' hh)) ?_
    refine mX (V := NewP w1.heap.size (PhS y.o)) hok rfl rfl (NewP.stays _ _) (fun a' w' F' E' D' => bs1 hyo F' E' (D' 2 (memDep rfl) _ rfl)) ?_
    (refine mDone rfl rfl ?_; clear F; clear M; intro a w F hE2 hX hTT hDD hPP; have M := M1.later hE2; (try dsimp only at F); obtain ⟨new, hΦ, hN⟩ := hX 3 _ rfl; replace M := M.joinNew M1 hN; obtain ⟨b3, u, v2, eu, ev, hr, hO1, hO2, rfl⟩ := hΦ; replace F := F.know (d := 34) hr; clear hr; clear hN; clear M1; clear hX; clear hE2; clear hok; clear hE; clear hTT; clear hDD; clear hPP)
    have hone : (ovC ⟨y.o, u, v2⟩).all (·.oneCell') = true := of_one _ _ _ hO1.one hO2.one
    have hlen2 : (ovC ⟨y.o, u, v2⟩).length = 20 := ov_len (x := ⟨y.o, u, v2⟩) hyo
    replace M := M.perm (l' := (b3, .cells (ovC ⟨y.o, u, v2⟩).toArray 58 (0, 0)) :: (b8, .cells [.slice sp zs.length sc].toArray 52 (0, 0)) :: (b5, .cells (ovC x).toArray 58 (0, 0)) :: (b9, .cells (ovC y).toArray 58 (0, 0)) :: ((eu ++ ev) ++ (p ++ (inn ++ ent)))) (by classical exact List.perm_iff_count.2 fun _ => by simp only [List.count_append, List.count_cons, List.count_nil, Nat.add_zero, Nat.zero_add] <;> ac_rfl)
    (refine stepD rfl F rfl (o_append hO M (.cons (.cons (.cons (.cons (.app (.app (.app .here))))))) (F.ev rfl) (F.ev rfl) (SrcOf.cells' (M.heap .here) (sg_all (by omega)) hone) (by omega) (by omega) ?_); clear F; clear M; intro sv2 ent2 w hO9 M a F)
    obtain ⟨sp2, sc2, rfl⟩ := hO9.slice
    (refine stepN rfl F (o_store1 M (F.ev rfl) (F.ev rfl) rfl (by repeat (first | exact .here | apply Has.there)) (by rfl) (by repeat (first | exact .here | apply Upd.there)) ?_); clear F; clear M; intro w M a F)
    with_reducible refine l_nil ?_
    with_reducible refine q_inB ?_
    have hlz : (zs ++ [(⟨y.o, u, v2⟩ : OV)]).length = zs.length + 1 := by simp
    refine ⟨_, ⟨zs ++ [⟨y.o, u, v2⟩], .slice sp2 (zs.length + 1) sc2, ent2, (eu ++ ev) ++ inn, by simp [hz], ?_, ?_, rfl⟩, ?_⟩
    · rw [hlz, encL_app, encL_one]; exact hO9
    · intro z hz'
      rcases List.mem_append.1 hz' with h1 | h1
      · exact (hI z h1).mono fun p hp => by simp [hp]
      · simp only [List.mem_singleton] at h1
        subst h1
        exact ⟨eu, ev, hO1, hO2, fun p hp => by simp [hp], fun p hp => by simp [hp]⟩
    · exact (M.perm (l' := (([(b8, .cells [.slice sp2 (zs.length + 1) sc2].toArray 52 (0, 0)), (b5, .cells (ovC x).toArray 58 (0, 0))] ++ (ent2 ++ ((eu ++ ev) ++ inn))) ++ p) ++ [(b3, .cells (ovC ⟨y.o, u, v2⟩).toArray 58 (0, 0)), (b9, .cells (ovC y).toArray 58 (0, 0))]) (by classical exact List.perm_iff_count.2 fun _ => by simp only [List.count_append, List.count_cons, List.count_nil, Nat.add_zero, Nat.zero_add] <;> ac_rfl)).sub (List.sublist_append_left _ _)
  case stop =>
    intro D c pre l' p' W' a' h
    exact h.elim
  case done =>
    clear F M
    rintro D ys _ p w a rfl ⟨zs, sv, ent, inn, hz, hO, hI, rfl⟩ M F
    rw [curX_map] at hz
    have hasc : Asc (zs.map (·.o)) := by rw [hz]; exact (validL_asc hv).filter _
    have hzo : ∀ z ∈ zs, IsOff z.o := fun z hzm => by
      have h1 : z.o ∈ curO (xs.map (·.o)) now := by rw [← hz]; exact List.mem_map_of_mem hzm
      obtain ⟨x', h2, h3⟩ := List.mem_map.1 (List.mem_filter.1 h1).1
      rw [← h3]; exact hx x' h2
    have hzl : zs.length ≤ 8 := by
      have h1 : zs.length = (curO (xs.map (·.o)) now).length := by simpa using congrArg List.length hz
      have h2 : (curO (xs.map (·.o)) now).length ≤ (xs.map (·.o)).length := List.length_filter_le _ _
      rw [List.length_map] at h2
      omega
    have hszs : ∀ z ∈ zs, (ovC z).length = 20 := fun z h => ov_len (hzo z h)
    replace M := M.perm (l' := (D, .deferred (some [])) :: (b8, .cells [sv].toArray 52 (0, 0)) :: (b5, .cells (ovC x).toArray 58 (0, 0)) :: (inn ++ (p ++ ent))) (by classical exact List.perm_iff_count.2 fun _ => by simp only [List.count_append, List.count_cons, List.count_nil, Nat.add_zero, Nat.zero_add] <;> ac_rfl)
    obtain ⟨sp, sc, rfl⟩ := hO.slice
    with_reducible refine q_inB ?_
    with_reducible refine q_then ?_
    with_reducible refine c_seq ?_
    with_reducible refine c_region ?_
    refine stepD rfl F rfl (o_load1 M (F.ev rfl) (by repeat (first | exact .here | apply Has.there)) (by first | assumption | rfl) ?_); clear F; clear a; intro a F
    refine stepD rfl F rfl (o_fieldAddr (F.ev rfl) ?_); clear F; clear a; intro a F
    refine stepD rfl F rfl (o_loadA M (F.ev rfl) (by repeat (first | exact .here | apply Has.there)) (by first | assumption | rfl) ?_); clear F; clear a; intro a F
    (refine stepD rfl F rfl (o_call (F.ev rfl) (F.evs rfl) (Cal.mono (bsearch_c zs hzo x.o.h.rt hxo.1 (by omega) (asc_ov hasc) _ _ (hO.slAt M fun p hp => by simp [hp])) ?_)); clear F; clear a; rintro _ w ⟨i, rfl, hP, hE⟩ a F; replace M := M.later hE; clear hE)
    have hins : insO x.o (curO (xs.map (·.o)) now) = if h : i < zs.length then (if cmpL zs[i].o.h.rt x.o.h.rt = 0 then (if x.o.h.ver < zs[i].o.h.ver then none else if zs[i].o.h.ver = x.o.h.ver then some ((zs.map (·.o)).set i (later2 zs[i].o x.o)) else some ((zs.map (·.o)).set i x.o)) else some ((zs.map (·.o)).take i ++ x.o :: (zs.map (·.o)).drop i)) else some ((zs.map (·.o)).take i ++ x.o :: (zs.map (·.o)).drop i) := by
      rw [← hz, insO_at x.o i (zs.map (·.o)) (by rw [List.length_map]; exact hP.le) (fun j hj hl' => by rw [List.getElem_map]; exact hP.lo j hj (by simpa using hl')) (fun hl' => by rw [List.getElem_map]; exact hP.hi i (Nat.le_refl _) (by simpa using hl'))]
      simp only [List.length_map, List.getElem_map]
    have hPle := hP.le
    clear hP
    refine stepD rfl F rfl (o_move (F.ev rfl) ?_); clear F; clear a; intro a F
    refine stepD rfl F rfl (o_extract (F.ev rfl) rfl ?_); clear F; clear a; intro a F
    refine stepD rfl F rfl (o_extract (F.ev rfl) rfl ?_); clear F; clear a; intro a F
    refine stepD rfl F rfl (o_assign (F.ev rfl) ?_); clear F; clear a; intro a F
    refine stepD rfl F rfl (o_assign (F.ev rfl) ?_); clear F; clear a; intro a F
    refine l_nil ?_
    refine q_then ?_
    refine c_seq ?_
    refine c_block ?_
    replace F := F.only [11, 10, 8, 5] rfl
    refine c_cutR (fun a w => ∃ (zs' : List OV) (sv' : Value) (ent' inn' : List (Nat × Obj)), insO x.o (curO (xs.map (·.o)) now) = some (zs'.map (·.o)) ∧ OwnS 58 20 sv' zs'.length (encL ovC zs') ent' ∧ (∀ z ∈ zs', OwnIn inn' z) ∧ Frm a 96 [markOf D] [(8, .pointer (some ⟨b8, 0, none⟩))] ∧ Mem [] W w ((D, .deferred (some [])) :: (b8, .cells [sv'].toArray 52 (0, 0)) :: (ent' ++ inn'))) ?_ ?_
    rotate_left
    · clear F M hins
      rintro a w ⟨zs', sv', ent', inn', hins, hO', hI', F, M⟩
      obtain ⟨sp', sc', rfl⟩ := hO'.slice
      by_cases c9 : 8 < zs'.length
      · have hacc : acceptV (xs.map (·.o)) now x.o = ([], 10) := by
          unfold acceptV
          rw [hv, ho, htm]
          simp only [Bool.and_self, if_true, if_neg c4, hins]
          rw [if_pos (by simpa using c9)]
        rw [hacc]
        with_reducible refine q_inB ?_
        with_reducible refine q_then ?_
        with_reducible refine c_seq ?_
        with_reducible refine c_seq ?_
        with_reducible refine c_region ?_
        refine stepD rfl F rfl (o_load1 M (F.ev rfl) (by repeat (first | exact .here | apply Has.there)) (by first | assumption | rfl) ?_); clear F; clear a; intro a F
        refine stepD rfl F rfl (o_lenSl (F.ev rfl) ?_); clear F; clear a; intro a F
        refine stepD rfl F rfl (o_gtrT (F.ev rfl) (F.ev rfl) (by omega) ?_); clear F; clear a; intro a F
        with_reducible refine l_nil ?_
        with_reducible refine q_then ?_
        refine c_true F rfl rfl ?_
        with_reducible refine c_seq ?_
        with_reducible refine c_region ?_
        refine stepD rfl F rfl (o_assign (F.ev rfl) ?_); clear F; clear a; intro a F
        refine stepD rfl F rfl (o_assign (F.ev rfl) ?_); clear F; clear a; intro a F
        with_reducible refine l_nil ?_
        with_reducible refine q_then ?_
        with_reducible refine c_ret ?_
        with_reducible refine q_thenR ?_
        exact p_ret1 F M .here rfl fun w' M' => ⟨.cons (.tmp (F.ev rfl)) (.cons (.tmp (F.ev rfl)) .nil), _, rfl, OffsN.nil _ _, M'.ext⟩
      · have hacc : acceptV (xs.map (·.o)) now x.o = (zs'.map (·.o), 0) := by
          unfold acceptV
          rw [hv, ho, htm]
          simp only [Bool.and_self, if_true, if_neg c4, hins]
          rw [if_neg (by simpa using c9)]
        rw [hacc]
        with_reducible refine q_inB ?_
        with_reducible refine q_then ?_
        with_reducible refine c_seq ?_
        with_reducible refine c_seq ?_
        with_reducible refine c_region ?_
        refine stepD rfl F rfl (o_load1 M (F.ev rfl) (by repeat (first | exact .here | apply Has.there)) (by first | assumption | rfl) ?_); clear F; clear a; intro a F
        refine stepD rfl F rfl (o_lenSl (F.ev rfl) ?_); clear F; clear a; intro a F
        refine stepD rfl F rfl (o_gtrF (F.ev rfl) (F.ev rfl) (by omega) ?_); clear F; clear a; intro a F
        with_reducible refine l_nil ?_
        with_reducible refine q_then ?_
        refine c_false F rfl rfl ?_
        with_reducible refine c_skip ?_
        with_reducible refine q_then ?_
        with_reducible refine c_seq ?_
        with_reducible refine c_region ?_
        refine stepD rfl F rfl (o_load1 M (F.ev rfl) (by repeat (first | exact .here | apply Has.there)) (by first | assumption | rfl) ?_); clear F; clear a; intro a F
        refine stepD rfl F rfl (o_assign (F.ev rfl) ?_); clear F; clear a; intro a F
        refine stepD rfl F rfl (o_assign (F.ev rfl) ?_); clear F; clear a; intro a F
        with_reducible refine l_nil ?_
        with_reducible refine q_then ?_
        with_reducible refine c_ret ?_
        exact p_ret1 F M .here rfl fun w' M' => ⟨.cons (.tmp (F.ev rfl)) (.cons (.tmp (F.ev rfl)) .nil), _, rfl, ⟨zs', rfl, hO'.slAt M' fun p hp => by simp [hp], fun z hz => (hI' z hz).at M' fun p hp => by simp [hp], hO'.newV M' fun p hp => by simp [hp], fun z hz => (hI' z hz).newV M' fun p hp => by simp [hp]⟩, M'.ext⟩
    refine c_seq ?_
    by_cases hfd : ∃ hil : i < zs.length, cmpL zs[i].o.h.rt x.o.h.rt = 0
    · obtain ⟨hil, c5⟩ := hfd
      rw [dif_pos hil, if_pos c5] at hins
      have hf := foundAt_at (rt := x.o.h.rt) hil
      rw [decide_eq_true c5] at hf
      rw [hf] at F
      obtain ⟨z, hz0⟩ : ∃ z, z = zs[i] := ⟨_, rfl⟩
      rcases hO with ⟨_, h0, _, _⟩ | ⟨bO, cO, junk, hvO, rfl, hxl, hjl, hnc⟩
      · omega
      cases hvO
      have hzm : z ∈ zs := by rw [hz0]; exact List.getElem_mem hil
      have hzo' := hzo z hzm
      rw [← hz0] at hins
      have g1 : nth (encL ovC zs ++ junk) (0 + (i : Int).toNat * 20 + 16) = some (.int .i64 z.o.h.ver) := own_nth hszs junk hil (by rw [← hz0]; exact of_ver hzo'.1 _ _) (by omega)
      have g2 : nth (encL ovC zs ++ junk) (0 + (i : Int).toNat * 20 + 17) = some (.int .i64 z.o.h.til) := own_nth hszs junk hil (by rw [← hz0]; exact of_til hzo'.1 _ _) (by omega)
      replace M := M.perm (l' := (bO, .cells (encL ovC zs ++ junk).toArray 58 (0, 0)) :: (b8, .cells [.slice (some ⟨bO, 0, none⟩) zs.length sc].toArray 52 (0, 0)) :: (b5, .cells (ovC x).toArray 58 (0, 0)) :: (D, .deferred (some [])) :: (inn ++ p)) (by classical exact List.perm_iff_count.2 fun _ => by simp only [List.count_append, List.count_cons, List.count_nil, Nat.add_zero, Nat.zero_add] <;> ac_rfl)
      by_cases c6 : x.o.h.ver < z.o.h.ver
      · rw [if_pos c6] at hins
        have hacc : acceptV (xs.map (·.o)) now x.o = ([], 16) := by
          unfold acceptV
          rw [hv, ho, htm]
          simp only [Bool.and_self, if_true, if_neg c4, hins]
        rw [hacc]
        refine c_draw 11 F (by kernel_rfl) ?_
        intro w1 hE hok
        have M1 := M.later hE
        refine mK hok rfl rfl (fun a' w' F' E' => o_move (F'.ev rfl) ⟨Ext.refl _ _, rfl⟩) ?_
        refine mK hok rfl rfl (fun a' w' F' E' => o_move (F'.ev rfl) ⟨Ext.refl _ _, rfl⟩) ?_
        refine mKG hok rfl rfl rfl rfl (fun a' w' F' E' => o_load1 (M1.later E') (F'.ev rfl) (by repeat (first | exact .here | apply Has.there)) (by first | assumption | rfl) ⟨Ext.refl _ _, rfl⟩) ?_
        refine mKG hok rfl rfl rfl rfl (fun a' w' F' E' => o_move (F'.ev rfl) ⟨Ext.refl _ _, rfl⟩) ?_
        refine mKG hok rfl rfl rfl rfl (fun a' w' F' E' => o_indexSl (F'.ev rfl) (F'.ev rfl) (by omega) (by omega) ⟨Ext.refl _ _, rfl⟩) ?_
        refine mKG hok rfl rfl rfl rfl (fun a' w' F' E' => o_fieldAddr (F'.ev rfl) ⟨Ext.refl _ _, rfl⟩) ?_
        refine mKG hok rfl rfl rfl rfl (fun a' w' F' E' => o_load1 (M1.later E') (F'.ev rfl) (by repeat (first | exact .here | apply Has.there)) (by first | assumption | rfl) ⟨Ext.refl _ _, rfl⟩) ?_
        refine mKG hok rfl rfl rfl rfl (fun a' w' F' E' => o_fieldAddr (F'.ev rfl) ⟨Ext.refl _ _, rfl⟩) ?_
        refine mKG hok rfl rfl rfl rfl (fun a' w' F' E' => o_load1 (M1.later E') (F'.ev rfl) (by repeat (first | exact .here | apply Has.there)) (by first | assumption | rfl) ⟨Ext.refl _ _, rfl⟩) ?_
        refine mKG hok rfl rfl rfl rfl (fun a' w' F' E' => o_gtrT (F'.ev rfl) (F'.ev rfl) (by omega) ⟨Ext.refl _ _, rfl⟩) ?_
        refine mK hok rfl rfl (fun a' w' F' E' => o_pickT (F'.ev rfl) (F'.ev rfl) ⟨Ext.refl _ _, rfl⟩) ?_
        (refine mDone rfl rfl ?_; clear F; clear M; intro a w F hE2 hX hTT hDD hPP; have M := M1.later hE2; clear M1; clear hX; clear hE2; clear hok; clear hE; clear hTT; clear hDD; clear hPP; (try dsimp only at F))
        refine stepD rfl F rfl (o_assign (F.ev rfl) ?_); clear F; clear a; intro a F
        with_reducible refine l_nil ?_
        with_reducible refine q_then ?_
        refine c_true F rfl rfl ?_
        with_reducible refine c_seq ?_
        with_reducible refine c_region ?_
        refine stepD rfl F rfl (o_assign (F.ev rfl) ?_); clear F; clear a; intro a F
        refine stepD rfl F rfl (o_assign (F.ev rfl) ?_); clear F; clear a; intro a F
        with_reducible refine l_nil ?_
        with_reducible refine q_then ?_
        with_reducible refine c_ret ?_
        with_reducible refine q_cutR ?_
        with_reducible refine q_inBR ?_
        with_reducible refine q_thenR ?_
        replace M := M.perm (l' := (D, .deferred (some [])) :: (b8, .cells [.slice (some ⟨bO, 0, none⟩) zs.length sc].toArray 52 (0, 0)) :: (b5, .cells (ovC x).toArray 58 (0, 0)) :: (bO, .cells (encL ovC zs ++ junk).toArray 58 (0, 0)) :: (inn ++ p)) (by classical exact List.perm_iff_count.2 fun _ => by simp only [List.count_append, List.count_cons, List.count_nil, Nat.add_zero, Nat.zero_add] <;> ac_rfl)
        exact p_ret1 F M .here rfl fun w' M' => ⟨.cons (.tmp (F.ev rfl)) (.cons (.tmp (F.ev rfl)) .nil), _, rfl, OffsN.nil _ _, M'.ext⟩
      rw [if_neg c6] at hins
      refine c_draw 11 F (by kernel_rfl) ?_
      intro w1 hE hok
      have M1 := M.later hE
      refine mK hok rfl rfl (fun a' w' F' E' => o_move (F'.ev rfl) ⟨Ext.refl _ _, rfl⟩) ?_
      refine mK hok rfl rfl (fun a' w' F' E' => o_move (F'.ev rfl) ⟨Ext.refl _ _, rfl⟩) ?_
      refine mKG hok rfl rfl rfl rfl (fun a' w' F' E' => o_load1 (M1.later E') (F'.ev rfl) (by repeat (first | exact .here | apply Has.there)) (by first | assumption | rfl) ⟨Ext.refl _ _, rfl⟩) ?_
      refine mKG hok rfl rfl rfl rfl (fun a' w' F' E' => o_move (F'.ev rfl) ⟨Ext.refl _ _, rfl⟩) ?_
      refine mKG hok rfl rfl rfl rfl (fun a' w' F' E' => o_indexSl (F'.ev rfl) (F'.ev rfl) (by omega) (by omega) ⟨Ext.refl _ _, rfl⟩) ?_
      refine mKG hok rfl rfl rfl rfl (fun a' w' F' E' => o_fieldAddr (F'.ev rfl) ⟨Ext.refl _ _, rfl⟩) ?_
      refine mKG hok rfl rfl rfl rfl (fun a' w' F' E' => o_load1 (M1.later E') (F'.ev rfl) (by repeat (first | exact .here | apply Has.there)) (by first | assumption | rfl) ⟨Ext.refl _ _, rfl⟩) ?_
      refine mKG hok rfl rfl rfl rfl (fun a' w' F' E' => o_fieldAddr (F'.ev rfl) ⟨Ext.refl _ _, rfl⟩) ?_
      refine mKG hok rfl rfl rfl rfl (fun a' w' F' E' => o_load1 (M1.later E') (F'.ev rfl) (by repeat (first | exact .here | apply Has.there)) (by first | assumption | rfl) ⟨Ext.refl _ _, rfl⟩) ?_
      refine mKG hok rfl rfl rfl rfl (fun a' w' F' E' => o_gtrF (F'.ev rfl) (F'.ev rfl) (by omega) ⟨Ext.refl _ _, rfl⟩) ?_
      refine mK hok rfl rfl (fun a' w' F' E' => o_pickT (F'.ev rfl) (F'.ev rfl) ⟨Ext.refl _ _, rfl⟩) ?_
      (refine mDone rfl rfl ?_; clear F; clear M; intro a w F hE2 hX hTT hDD hPP; have M := M1.later hE2; clear M1; clear hX; clear hE2; clear hok; clear hE; clear hTT; clear hDD; clear hPP; (try dsimp only at F))
      refine stepD rfl F rfl (o_assign (F.ev rfl) ?_); clear F; clear a; intro a F
      with_reducible refine l_nil ?_
      with_reducible refine q_then ?_
      refine c_false F rfl rfl ?_
      with_reducible refine c_seq ?_
      replace F := F.only [11, 10, 8, 5] rfl
      by_cases c7 : z.o.h.ver = x.o.h.ver
      · rw [if_pos c7] at hins
        refine c_draw 11 F (by kernel_rfl) ?_
        intro w1 hE hok
        have M1 := M.later hE
        refine mK hok rfl rfl (fun a' w' F' E' => o_move (F'.ev rfl) ⟨Ext.refl _ _, rfl⟩) ?_
        refine mK hok rfl rfl (fun a' w' F' E' => o_move (F'.ev rfl) ⟨Ext.refl _ _, rfl⟩) ?_
        refine mKG hok rfl rfl rfl rfl (fun a' w' F' E' => o_load1 (M1.later E') (F'.ev rfl) (by repeat (first | exact .here | apply Has.there)) (by first | assumption | rfl) ⟨Ext.refl _ _, rfl⟩) ?_
        refine mKG hok rfl rfl rfl rfl (fun a' w' F' E' => o_move (F'.ev rfl) ⟨Ext.refl _ _, rfl⟩) ?_
        refine mKG hok rfl rfl rfl rfl (fun a' w' F' E' => o_indexSl (F'.ev rfl) (F'.ev rfl) (by omega) (by omega) ⟨Ext.refl _ _, rfl⟩) ?_
        refine mKG hok rfl rfl rfl rfl (fun a' w' F' E' => o_fieldAddr (F'.ev rfl) ⟨Ext.refl _ _, rfl⟩) ?_
        refine mKG hok rfl rfl rfl rfl (fun a' w' F' E' => o_load1 (M1.later E') (F'.ev rfl) (by repeat (first | exact .here | apply Has.there)) (by first | assumption | rfl) ⟨Ext.refl _ _, rfl⟩) ?_
        refine mKG hok rfl rfl rfl rfl (fun a' w' F' E' => o_fieldAddr (F'.ev rfl) ⟨Ext.refl _ _, rfl⟩) ?_
        refine mKG hok rfl rfl rfl rfl (fun a' w' F' E' => o_load1 (M1.later E') (F'.ev rfl) (by repeat (first | exact .here | apply Has.there)) (by first | assumption | rfl) ⟨Ext.refl _ _, rfl⟩) ?_
        refine mKG hok rfl rfl rfl rfl (fun a' w' F' E' => o_eqlT (F'.ev rfl) (F'.ev rfl) (by omega) ⟨Ext.refl _ _, rfl⟩) ?_
        refine mK hok rfl rfl (fun a' w' F' E' => o_pickT (F'.ev rfl) (F'.ev rfl) ⟨Ext.refl _ _, rfl⟩) ?_
        (refine mDone rfl rfl ?_; clear F; clear M; intro a w F hE2 hX hTT hDD hPP; have M := M1.later hE2; clear M1; clear hX; clear hE2; clear hok; clear hE; clear hTT; clear hDD; clear hPP; (try dsimp only at F))
        refine stepD rfl F rfl (o_assign (F.ev rfl) ?_); clear F; clear a; intro a F
        with_reducible refine l_nil ?_
        with_reducible refine q_then ?_
        refine c_true F rfl rfl ?_
        replace F := F.only [11, 10, 8, 5] rfl
        have hpt : put (ovC zs[i]) 17 [.int .i64 (if z.o.h.til < x.o.h.til then x.o.h.til else z.o.h.til)] = some (ovC ⟨later2 z.o x.o, z.u, z.v⟩) := by rw [← hz0]; exact of_put_til hzo'.1 z.u z.v _
        refine c_draw 10 F (by kernel_rfl) ?_
        intro w1 hE hok
        have M1 := M.later hE
        refine mK hok rfl rfl (fun a' w' F' E' => o_load1 (M1.later E') (F'.ev rfl) (by repeat (first | exact .here | apply Has.there)) (by first | assumption | rfl) ⟨Ext.refl _ _, rfl⟩) ?_
        refine mK hok rfl rfl (fun a' w' F' E' => o_move (F'.ev rfl) ⟨Ext.refl _ _, rfl⟩) ?_
        refine mK hok rfl rfl (fun a' w' F' E' => o_load1 (M1.later E') (F'.ev rfl) (by repeat (first | exact .here | apply Has.there)) (by first | assumption | rfl) ⟨Ext.refl _ _, rfl⟩) ?_
        refine mK hok rfl rfl (fun a' w' F' E' => o_move (F'.ev rfl) ⟨Ext.refl _ _, rfl⟩) ?_
        refine mK hok rfl rfl (fun a' w' F' E' => o_indexSl (F'.ev rfl) (F'.ev rfl) (by omega) (by omega) ⟨Ext.refl _ _, rfl⟩) ?_
        refine mK hok rfl rfl (fun a' w' F' E' => o_fieldAddr (F'.ev rfl) ⟨Ext.refl _ _, rfl⟩) ?_
        refine mK hok rfl rfl (fun a' w' F' E' => o_load1 (M1.later E') (F'.ev rfl) (by repeat (first | exact .here | apply Has.there)) (by first | assumption | rfl) ⟨Ext.refl _ _, rfl⟩) ?_
        refine mK hok rfl rfl (fun a' w' F' E' => o_fieldAddr (F'.ev rfl) ⟨Ext.refl _ _, rfl⟩) ?_
        refine mK hok rfl rfl (fun a' w' F' E' => o_load1 (M1.later E') (F'.ev rfl) (by repeat (first | exact .here | apply Has.there)) (by first | assumption | rfl) ⟨Ext.refl _ _, rfl⟩) ?_
        refine mK hok rfl rfl (fun a' w' F' E' => o_max (F'.ev rfl) (F'.ev rfl) ⟨Ext.refl _ _, rfl⟩) ?_
        (refine mDone rfl rfl ?_; clear F; clear M; intro a w F hE2 hX hTT hDD hPP; have M := M1.later hE2; clear M1; clear hX; clear hE2; clear hok; clear hE; clear hTT; clear hDD; clear hPP; (try dsimp only at F))
        refine stepD rfl F rfl (o_indexSl (F.ev rfl) (F.ev rfl) (by omega) (by omega) ?_); clear F; clear a; intro a F
        refine stepD rfl F rfl (o_fieldAddr (F.ev rfl) ?_); clear F; clear a; intro a F
        (refine stepN rfl F (o_store1 M (F.ev rfl) (F.ev rfl) rfl (by repeat (first | exact .here | apply Has.there)) (encL_put hszs junk hil hpt (by omega)) (by repeat (first | exact .here | apply Upd.there)) ?_); clear F; clear M; intro w M a F)
        with_reducible refine l_nil ?_
        refine ⟨zs.set i ⟨later2 z.o x.o, z.u, z.v⟩, _, [(bO, _)], inn, by rw [hins, List.map_set], .inr ⟨bO, sc, junk, by rw [List.length_set], rfl, ?_, by rw [List.length_set]; exact hjl, by rw [List.length_set]; exact hnc⟩, ?_, F.only [8] rfl, (M.perm (l' := ((D, .deferred (some [])) :: (b8, .cells [.slice (some ⟨bO, 0, none⟩) zs.length sc].toArray 52 (0, 0)) :: ([(bO, .cells (encL ovC (zs.set i ⟨later2 z.o x.o, z.u, z.v⟩) ++ junk).toArray 58 (0, 0))] ++ inn)) ++ ((b5, .cells (ovC x).toArray 58 (0, 0)) :: p)) (by classical exact List.perm_iff_count.2 fun _ => by simp only [List.count_append, List.count_cons, List.count_nil, Nat.add_zero, Nat.zero_add] <;> ac_rfl)).sub (List.sublist_append_left _ _)⟩
        · rw [encL_len fun y hy => (List.mem_or_eq_of_mem_set hy).elim (hszs y) fun h => by rw [h]; exact ov_len (x := ⟨later2 z.o x.o, z.u, z.v⟩) (show IsOff (later2 z.o x.o) from ⟨hzo'.1, hzo'.2⟩)]
        · intro y hy
          rcases List.mem_or_eq_of_mem_set hy with h | h
          · exact hI y h
          · rw [h]; exact hI z hzm
      · rw [if_neg c7] at hins
        refine c_draw 11 F (by kernel_rfl) ?_
        intro w1 hE hok
        have M1 := M.later hE
        refine mK hok rfl rfl (fun a' w' F' E' => o_move (F'.ev rfl) ⟨Ext.refl _ _, rfl⟩) ?_
        refine mK hok rfl rfl (fun a' w' F' E' => o_move (F'.ev rfl) ⟨Ext.refl _ _, rfl⟩) ?_
        refine mKG hok rfl rfl rfl rfl (fun a' w' F' E' => o_load1 (M1.later E') (F'.ev rfl) (by repeat (first | exact .here | apply Has.there)) (by first | assumption | rfl) ⟨Ext.refl _ _, rfl⟩) ?_
        refine mKG hok rfl rfl rfl rfl (fun a' w' F' E' => o_move (F'.ev rfl) ⟨Ext.refl _ _, rfl⟩) ?_
        refine mKG hok rfl rfl rfl rfl (fun a' w' F' E' => o_indexSl (F'.ev rfl) (F'.ev rfl) (by omega) (by omega) ⟨Ext.refl _ _, rfl⟩) ?_
        refine mKG hok rfl rfl rfl rfl (fun a' w' F' E' => o_fieldAddr (F'.ev rfl) ⟨Ext.refl _ _, rfl⟩) ?_
        refine mKG hok rfl rfl rfl rfl (fun a' w' F' E' => o_load1 (M1.later E') (F'.ev rfl) (by repeat (first | exact .here | apply Has.there)) (by first | assumption | rfl) ⟨Ext.refl _ _, rfl⟩) ?_
        refine mKG hok rfl rfl rfl rfl (fun a' w' F' E' => o_fieldAddr (F'.ev rfl) ⟨Ext.refl _ _, rfl⟩) ?_
        refine mKG hok rfl rfl rfl rfl (fun a' w' F' E' => o_load1 (M1.later E') (F'.ev rfl) (by repeat (first | exact .here | apply Has.there)) (by first | assumption | rfl) ⟨Ext.refl _ _, rfl⟩) ?_
        refine mKG hok rfl rfl rfl rfl (fun a' w' F' E' => o_eqlF (F'.ev rfl) (F'.ev rfl) (by omega) ⟨Ext.refl _ _, rfl⟩) ?_
        refine mK hok rfl rfl (fun a' w' F' E' => o_pickT (F'.ev rfl) (F'.ev rfl) ⟨Ext.refl _ _, rfl⟩) ?_
        (refine mDone rfl rfl ?_; clear F; clear M; intro a w F hE2 hX hTT hDD hPP; have M := M1.later hE2; clear M1; clear hX; clear hE2; clear hok; clear hE; clear hTT; clear hDD; clear hPP; (try dsimp only at F))
        refine stepD rfl F rfl (o_assign (F.ev rfl) ?_); clear F; clear a; intro a F
        with_reducible refine l_nil ?_
        with_reducible refine q_then ?_
        refine c_false F rfl rfl ?_
        with_reducible refine c_seq ?_
        with_reducible refine c_region ?_
        refine stepD rfl F rfl (o_move (F.ev rfl) ?_); clear F; clear a; intro a F
        refine stepD rfl F rfl (o_assign (F.ev rfl) ?_); clear F; clear a; intro a F
        with_reducible refine l_nil ?_
        with_reducible refine q_then ?_
        refine c_true F rfl rfl ?_
        replace F := F.only [10, 8, 5] rfl
        refine c_draw 4 F (by kernel_rfl) ?_
        intro w1 hE hok
        have M1 := M.later hE
        refine mK hok rfl rfl (fun a' w' F' E' => o_load1 (M1.later E') (F'.ev rfl) (by repeat (first | exact .here | apply Has.there)) (by first | assumption | rfl) ⟨Ext.refl _ _, rfl⟩) ?_
        refine mK hok rfl rfl (fun a' w' F' E' => o_move (F'.ev rfl) ⟨Ext.refl _ _, rfl⟩) ?_
        refine mK hok rfl rfl (fun a' w' F' E' => o_loadA (M1.later E') (F'.ev rfl) (by repeat (first | exact .here | apply Has.there)) (by first | assumption | rfl) ⟨Ext.refl _ _, rfl⟩) ?_
        refine mX (V := NewP w1.heap.size (PhC x.o)) hok rfl rfl (NewP.stays _ _) (fun a' w' F' E' D' => o_call (F'.ev rfl) (F'.evs rfl) (Cal.mono (copyN_c x hxo (by omega) (by omega) _ (hxa.later (M1.later E').ext)) fun _ _ hh => newP_of E' hh)) ?_
        (refine mDone rfl rfl ?_; clear F; clear M; intro a w F hE2 hX hTT hDD hPP; have M := M1.later hE2; (try dsimp only at F); obtain ⟨new, hΦ, hN⟩ := hX 3 _ rfl; replace M := M.joinNew M1 hN; obtain ⟨u, v2, eu, ev, hr, hO1, hO2, rfl⟩ := hΦ; replace F := F.know (d := 90) hr; clear hr; clear hN; clear M1; clear hX; clear hE2; clear hok; clear hE; clear hTT; clear hDD; clear hPP)
        have hone : (ovC ⟨x.o, u, v2⟩).all (·.oneCell') = true := of_one _ _ _ hO1.one hO2.one
        have hlen2 : (ovC ⟨x.o, u, v2⟩).length = 20 := ov_len (x := ⟨x.o, u, v2⟩) hxo
        have hpt : put (ovC zs[i]) 0 (ovC ⟨x.o, u, v2⟩) = some (ovC ⟨x.o, u, v2⟩) := put_all (by rw [hlen2, ← hz0]; exact hszs z hzm)
        replace M := M.perm (l' := (bO, .cells (encL ovC zs ++ junk).toArray 58 (0, 0)) :: (b8, .cells [.slice (some ⟨bO, 0, none⟩) zs.length sc].toArray 52 (0, 0)) :: (b5, .cells (ovC x).toArray 58 (0, 0)) :: (D, .deferred (some [])) :: ((eu ++ ev) ++ (inn ++ p))) (by classical exact List.perm_iff_count.2 fun _ => by simp only [List.count_append, List.count_cons, List.count_nil, Nat.add_zero, Nat.zero_add] <;> ac_rfl)
        refine stepD rfl F rfl (o_indexSl (F.ev rfl) (F.ev rfl) (by omega) (by omega) ?_); clear F; clear a; intro a F
        (refine stepN rfl F (o_storeA M (F.ev rfl) (F.ev rfl) (hlen2) hone  (by repeat (first | exact .here | apply Has.there))  (encL_put hszs junk hil hpt (by omega)) (by repeat (first | exact .here | apply Upd.there)) ?_); clear F; clear M; intro w M a F)
        with_reducible refine l_nil ?_
        refine ⟨zs.set i ⟨x.o, u, v2⟩, _, [(bO, _)], (eu ++ ev) ++ inn, by rw [hins, List.map_set], .inr ⟨bO, sc, junk, by rw [List.length_set], rfl, ?_, by rw [List.length_set]; exact hjl, by rw [List.length_set]; exact hnc⟩, ?_, F.only [8] rfl, (M.perm (l' := ((D, .deferred (some [])) :: (b8, .cells [.slice (some ⟨bO, 0, none⟩) zs.length sc].toArray 52 (0, 0)) :: ([(bO, .cells (encL ovC (zs.set i ⟨x.o, u, v2⟩) ++ junk).toArray 58 (0, 0))] ++ ((eu ++ ev) ++ inn))) ++ ((b5, .cells (ovC x).toArray 58 (0, 0)) :: p)) (by classical exact List.perm_iff_count.2 fun _ => by simp only [List.count_append, List.count_cons, List.count_nil, Nat.add_zero, Nat.zero_add] <;> ac_rfl)).sub (List.sublist_append_left _ _)⟩
        · rw [encL_len fun y hy => (List.mem_or_eq_of_mem_set hy).elim (hszs y) fun h => by rw [h]; exact hlen2]
        · intro y hy
          rcases List.mem_or_eq_of_mem_set hy with h | h
          · exact (hI y h).mono fun p hp => by simp [hp]
          · rw [h]
            exact ⟨eu, ev, hO1, hO2, fun p hp => by simp [hp], fun p hp => by simp [hp]⟩
    · have hf : foundAt zs x.o.h.rt i = false := by
        by_cases hil : i < zs.length
        · rw [foundAt_at hil, decide_eq_false fun h => hfd ⟨hil, h⟩]
        · simp [foundAt, List.getElem?_eq_none (show zs.length ≤ i by omega)]
      have hins2 : insO x.o (curO (xs.map (·.o)) now) = some ((zs.map (·.o)).take i ++ x.o :: (zs.map (·.o)).drop i) := by
        rw [hins]
        by_cases hil : i < zs.length
        · rw [dif_pos hil, if_neg fun h => hfd ⟨hil, h⟩]
        · rw [dif_neg hil]
      clear hins
      rw [hf] at F
      refine c_draw 11 F (by kernel_rfl) ?_
      intro w1 hE hok
      have M1 := M.later hE
      refine mK hok rfl rfl (fun a' w' F' E' => o_move (F'.ev rfl) ⟨Ext.refl _ _, rfl⟩) ?_
      refine mK hok rfl rfl (fun a' w' F' E' => o_move (F'.ev rfl) ⟨Ext.refl _ _, rfl⟩) ?_
      refine mOff hok rfl rfl rfl rfl rfl ?_
      refine mOff hok rfl rfl rfl rfl rfl ?_
      refine mOff hok rfl rfl rfl rfl rfl ?_
      refine mOff hok rfl rfl rfl rfl rfl ?_
      refine mOff hok rfl rfl rfl rfl rfl ?_
      refine mOff hok rfl rfl rfl rfl rfl ?_
      refine mOff hok rfl rfl rfl rfl rfl ?_
      refine mOff hok rfl rfl rfl rfl rfl ?_
      refine mK hok rfl rfl (fun a' w' F' E' => o_pickF (F'.ev rfl) (F'.ev rfl) ⟨Ext.refl _ _, rfl⟩) ?_
      (refine mDone rfl rfl ?_; clear F; clear M; intro a w F hE2 hX hTT hDD hPP; have M := M1.later hE2; clear M1; clear hX; clear hE2; clear hok; clear hE; clear hTT; clear hDD; clear hPP; (try dsimp only at F))
      refine stepD rfl F rfl (o_assign (F.ev rfl) ?_); clear F; clear a; intro a F
      with_reducible refine l_nil ?_
      with_reducible refine q_then ?_
      refine c_false F rfl rfl ?_
      with_reducible refine c_seq ?_
      replace F := F.only [11, 10, 8, 5] rfl
      refine c_draw 11 F (by kernel_rfl) ?_
      intro w1 hE hok
      have M1 := M.later hE
      refine mK hok rfl rfl (fun a' w' F' E' => o_move (F'.ev rfl) ⟨Ext.refl _ _, rfl⟩) ?_
      refine mK hok rfl rfl (fun a' w' F' E' => o_move (F'.ev rfl) ⟨Ext.refl _ _, rfl⟩) ?_
      refine mOff hok rfl rfl rfl rfl rfl ?_
      refine mOff hok rfl rfl rfl rfl rfl ?_
      refine mOff hok rfl rfl rfl rfl rfl ?_
      refine mOff hok rfl rfl rfl rfl rfl ?_
      refine mOff hok rfl rfl rfl rfl rfl ?_
      refine mOff hok rfl rfl rfl rfl rfl ?_
      refine mOff hok rfl rfl rfl rfl rfl ?_
      refine mOff hok rfl rfl rfl rfl rfl ?_
      refine mK hok rfl rfl (fun a' w' F' E' => o_pickF (F'.ev rfl) (F'.ev rfl) ⟨Ext.refl _ _, rfl⟩) ?_
      (refine mDone rfl rfl ?_; clear F; clear M; intro a w F hE2 hX hTT hDD hPP; have M := M1.later hE2; clear M1; clear hX; clear hE2; clear hok; clear hE; clear hTT; clear hDD; clear hPP; (try dsimp only at F))
      refine stepD rfl F rfl (o_assign (F.ev rfl) ?_); clear F; clear a; intro a F
      with_reducible refine l_nil ?_
      with_reducible refine q_then ?_
      refine c_false F rfl rfl ?_
      with_reducible refine c_seq ?_
      with_reducible refine c_region ?_
      refine stepD rfl F rfl (o_move (F.ev rfl) ?_); clear F; clear a; intro a F
      refine stepD rfl F rfl (o_assign (F.ev rfl) ?_); clear F; clear a; intro a F
      with_reducible refine l_nil ?_
      with_reducible refine q_then ?_
      refine c_false F rfl rfl ?_
      replace F := F.only [10, 8, 5] rfl
      refine c_draw 5 F (by kernel_rfl) ?_
      intro w1 hE hok
      have M1 := M.later hE
      refine mK hok rfl rfl (fun a' w' F' E' => o_load1 (M1.later E') (F'.ev rfl) (by repeat (first | exact .here | apply Has.there)) (by first | assumption | rfl) ⟨Ext.refl _ _, rfl⟩) ?_
      refine mK hok rfl rfl (fun a' w' F' E' => o_move (F'.ev rfl) ⟨Ext.refl _ _, rfl⟩) ?_
      refine mK hok rfl rfl (fun a' w' F' E' => o_loadA (M1.later E') (F'.ev rfl) (by repeat (first | exact .here | apply Has.there)) (by first | assumption | rfl) ⟨Ext.refl _ _, rfl⟩) ?_
      refine mX (V := NewP w1.heap.size (PhC x.o)) hok rfl rfl (NewP.stays _ _) (fun a' w' F' E' D' => o_call (F'.ev rfl) (F'.evs rfl) (Cal.mono (copyN_c x hxo (by omega) (by omega) _ (hxa.later (M1.later E').ext)) fun _ _ hh => newP_of E' hh)) ?_
      refine mX (V := NewP w1.heap.size (PhS x.o)) hok rfl rfl (NewP.stays _ _) (fun a' w' F' E' D' => bs1 hxo F' E' (D' 3 (memDep rfl) _ rfl)) ?_
      (refine mDone rfl rfl ?_; clear F; clear M; intro a w F hE2 hX hTT hDD hPP; have M := M1.later hE2; (try dsimp only at F); obtain ⟨new, hΦ, hN⟩ := hX 4 _ rfl; replace M := M.joinNew M1 hN; obtain ⟨b3, u, v2, eu, ev, hr, hO1, hO2, rfl⟩ := hΦ; replace F := F.know (d := 47) hr; clear hr; clear hN; clear M1; clear hX; clear hE2; clear hok; clear hE; clear hTT; clear hDD; clear hPP)
      have hone : (ovC ⟨x.o, u, v2⟩).all (·.oneCell') = true := of_one _ _ _ hO1.one hO2.one
      have hlen2 : (ovC ⟨x.o, u, v2⟩).length = 20 := ov_len (x := ⟨x.o, u, v2⟩) hxo
      replace M := M.perm (l' := (b3, .cells (ovC ⟨x.o, u, v2⟩).toArray 58 (0, 0)) :: (b8, .cells [.slice sp zs.length sc].toArray 52 (0, 0)) :: (b5, .cells (ovC x).toArray 58 (0, 0)) :: (D, .deferred (some [])) :: ((eu ++ ev) ++ (inn ++ (p ++ ent)))) (by classical exact List.perm_iff_count.2 fun _ => by simp only [List.count_append, List.count_cons, List.count_nil, Nat.add_zero, Nat.zero_add] <;> ac_rfl)
      (refine stepD rfl F rfl (o_call (F.ev rfl) (F.evs rfl) (Cal.mono (insertOf_c i hPle (vb := b3) (ovC ⟨x.o, u, v2⟩) hlen2 (encL_all fun z hz => (hI z hz).one) hone _ M hO (.cons (.cons (.cons (.cons (.app (.app (.app .here))))))) .here (fun q hq e => (List.nodup_cons.1 M.nd).1 (List.mem_map.2 ⟨q, by simp [hq], e⟩)) (by omega)) ?_)); clear F; clear a; clear M; rintro sv2 w ⟨ent2, hO9, M⟩ a F)
      obtain ⟨sp2, sc2, rfl⟩ := hO9.slice
      have hlz : (zs.take i ++ (⟨x.o, u, v2⟩ : OV) :: zs.drop i).length = zs.length + 1 := by simp; omega
      (refine stepN rfl F (o_store1 M (F.ev rfl) (F.ev rfl) rfl (by repeat (first | exact .here | apply Has.there)) (by rfl) (by repeat (first | exact .here | apply Upd.there)) ?_); clear F; clear M; intro w M a F)
      with_reducible refine l_nil ?_
      refine ⟨zs.take i ++ (⟨x.o, u, v2⟩ : OV) :: zs.drop i, .slice sp2 (zs.length + 1) sc2, ent2, (eu ++ ev) ++ inn, by rw [hins2]; simp, ?_, ?_, F.only [8] rfl, (M.perm (l' := ((D, .deferred (some [])) :: (b8, .cells [.slice sp2 (zs.length + 1) sc2].toArray 52 (0, 0)) :: (ent2 ++ ((eu ++ ev) ++ inn))) ++ ((b3, .cells (ovC ⟨x.o, u, v2⟩).toArray 58 (0, 0)) :: (b5, .cells (ovC x).toArray 58 (0, 0)) :: p)) (by classical exact List.perm_iff_count.2 fun _ => by simp only [List.count_append, List.count_cons, List.count_nil, Nat.add_zero, Nat.zero_add] <;> ac_rfl)).sub (List.sublist_append_left _ _)⟩
      · rw [hlz, encL_app, encL_cons, ← encL_take hszs, ← encL_drop hszs]; exact hO9
      · intro y hy
        rcases List.mem_append.1 hy with h | h
        · exact (hI y (List.mem_of_mem_take h)).mono fun p hp => by simp [hp]
        · rcases List.mem_cons.1 h with h | h
          · rw [h]
            exact ⟨eu, ev, hO1, hO2, fun p hp => by simp [hp], fun p hp => by simp [hp]⟩
          · exact (hI y (List.mem_of_mem_drop h)).mono fun p hp => by simp [hp]
end Go.Proofs.Ytainnefmobfcjaa

/-! FB -/
/-
  multihopref23.Accept: walked.
-/
namespace Go.Proofs.Ytainnefmobfcjaa
set_option linter.unusedVariables false
set_option linter.unusedSimpArgs false
open Go.RowKit
attribute [local irreducible] OpTo wpListIn Code.wpIn MW Cal

theorem rcopyV_c (x : OV) (hx : IsOff x.o) (h1 : x.o.ps.length ≤ 100000) (h2 : x.o.cs.length ≤ 100000) (W : World) (hA : OffAt W x) :
    Cal Try.prog 63 [.agg (ovC x).toArray].toArray W fun r w' => ∃ u v eu ev, r = .agg (ovC ⟨x.o, u, v⟩).toArray ∧ OwnS 111 20 u x.o.ps.length (pisC x.o.ps) eu ∧ OwnS 116 20 v x.o.cs.length (cisC x.o.cs) ev ∧ Mem [] W w' (eu ++ ev) := rcopy_c x hx h1 h2 W hA
def pn : Bool → Nat
  | true => 1
  | false => 0
theorem pn_le (b : Bool) : pn b ≤ 1 := by cases b <;> decide
/-- how far the reference has come -/
def Pl (o : Off) (placed : Bool) (out pre rest : List Off) : Prop :=
  if placed then insO o (pre ++ rest) = some (out ++ rest) ∧ ∀ y ∈ rest, 0 < cmpL y.h.rt o.h.rt
  else out = pre ∧ ∀ y ∈ pre, cmpL y.h.rt o.h.rt < 0
theorem insO_pre {o : Off} : ∀ {pre : List Off} (r : List Off), (∀ y ∈ pre, cmpL y.h.rt o.h.rt < 0) → insO o (pre ++ r) = (insO o r).map (pre ++ ·)
  | [], r, _ => by simp
  | y :: pre, r, h => by
    have ih := insO_pre r fun z hz => h z (List.mem_cons_of_mem _ hz)
    simp only [List.cons_append, insO, if_pos (h y List.mem_cons_self), ih, Option.map_map]
    rfl
theorem cmpL_pos {a b c : List Int} (h1 : 0 ≤ cmpL a c) (h2 : cmpL a b < 0) : 0 < cmpL b c := by
  rcases Int.lt_trichotomy (cmpL b c) 0 with h | h | h
  · exact absurd (cmpL_lt_trans h2 h) (by omega)
  · rw [cmpL_zero h] at h2; omega
  · exact h
theorem Pl.skip {o : Off} {placed : Bool} {out pre rest : List Off} (h : Pl o placed out pre rest) : Pl o placed out (pre ++ []) rest := by simpa using h
theorem Pl.lo {o y : Off} {out pre rest : List Off} (h : Pl o false out pre (y :: rest)) (hk : cmpL y.h.rt o.h.rt < 0) : Pl o false (out ++ [y]) (pre ++ [y]) rest := by
  simp only [Pl, Bool.false_eq_true, if_false] at *
  refine ⟨by rw [h.1], fun z hz => ?_⟩
  rcases List.mem_append.1 hz with h1 | h1
  · exact h.2 z h1
  · simp only [List.mem_singleton] at h1; rw [h1]; exact hk
theorem Pl.stale {o y : Off} {out pre rest : List Off} (h : Pl o false out pre (y :: rest)) (hk : cmpL y.h.rt o.h.rt = 0) (hv : o.h.ver < y.h.ver) : insO o (pre ++ y :: rest) = none := by
  simp only [Pl, Bool.false_eq_true, if_false] at h
  rw [insO_pre _ h.2]
  simp [insO, hk, hv]
theorem Pl.same {o y : Off} {out pre rest : List Off} (h : Pl o false out pre (y :: rest)) (ha : Asc (y :: rest)) (hk : cmpL y.h.rt o.h.rt = 0) (hv : y.h.ver = o.h.ver) : Pl o true (out ++ [later2 y o]) (pre ++ [y]) rest := by
  simp only [Pl, Bool.false_eq_true, if_false, if_true] at *
  refine ⟨?_, fun z hz => cmpL_pos (by omega) ((List.pairwise_cons.1 ha).1 z hz)⟩
  rw [List.append_assoc, insO_pre _ h.2, h.1]
  simp [insO, hk, hv, later2]
theorem Pl.new {o y : Off} {out pre rest : List Off} (h : Pl o false out pre (y :: rest)) (ha : Asc (y :: rest)) (hk : cmpL y.h.rt o.h.rt = 0) (hv : ¬ o.h.ver < y.h.ver) (hv2 : ¬ y.h.ver = o.h.ver) : Pl o true (out ++ [o]) (pre ++ [y]) rest := by
  simp only [Pl, Bool.false_eq_true, if_false, if_true] at *
  refine ⟨?_, fun z hz => cmpL_pos (by omega) ((List.pairwise_cons.1 ha).1 z hz)⟩
  rw [List.append_assoc, insO_pre _ h.2, h.1]
  simp [insO, hk, hv, hv2]
theorem Pl.hi {o y : Off} {out pre rest : List Off} (h : Pl o false out pre (y :: rest)) (ha : Asc (y :: rest)) (hk : 0 < cmpL y.h.rt o.h.rt) : Pl o true ((out ++ [o]) ++ [y]) (pre ++ [y]) rest := by
  simp only [Pl, Bool.false_eq_true, if_false, if_true] at *
  refine ⟨?_, fun z hz => cmpL_pos (by omega) ((List.pairwise_cons.1 ha).1 z hz)⟩
  rw [List.append_assoc, insO_pre _ h.2, h.1]
  simp [insO, show ¬ cmpL y.h.rt o.h.rt < 0 by omega, show ¬ cmpL y.h.rt o.h.rt = 0 by omega]
theorem Pl.on {o y : Off} {out pre rest : List Off} (h : Pl o true out pre (y :: rest)) : Pl o true (out ++ [y]) (pre ++ [y]) rest := by
  simp only [Pl, if_true] at *
  exact ⟨by simpa using h.1, fun z hz => h.2 z (List.mem_cons_of_mem _ hz)⟩
theorem Pl.end {o : Off} {out pre : List Off} (h : Pl o false out pre []) : insO o pre = some (out ++ [o]) := by
  simp only [Pl, Bool.false_eq_true, if_false] at h
  have := insO_pre [] h.2
  rw [List.append_nil] at this
  rw [this, h.1]; rfl
theorem Pl.endT {o : Off} {out pre : List Off} (h : Pl o true out pre []) : insO o pre = some out := by
  simp only [Pl, if_true] at h
  simpa using h.1
theorem curO_take {os : List Off} {now : Int} {i : Nat} (hi : i < os.length) : curO (os.take (i + 1)) now = curO (os.take i) now ++ if now < os[i].h.til then [os[i]] else [] := by
  unfold curO
  rw [List.take_add_one, List.getElem?_eq_getElem hi, List.filter_append]
  congr 1
  simp only [Option.toList_some, List.filter_cons, List.filter_nil]
  by_cases h : now < os[i].h.til <;> simp [h]
theorem curO_drop {os : List Off} {now : Int} {i : Nat} (hi : i < os.length) : curO (os.drop i) now = (if now < os[i].h.til then [os[i]] else []) ++ curO (os.drop (i + 1)) now := by
  unfold curO
  rw [List.drop_eq_getElem_cons hi, List.filter_cons]
  by_cases h : now < os[i].h.til <;> simp [h]

set_option maxHeartbeats 8000000 in
theorem raccept_c (xs : List OV) (hx : ∀ x ∈ xs, IsOff x.o) (v : Value) (now : Int) (x : OV) (hxo : IsOff x.o) (W : World) (hS : SlAt W 20 v xs.length (encL ovC xs)) (hA : ∀ x ∈ xs, OffAt W x) (hxa : OffAt W x) :
    Cal Try.prog 60 [v, .int .i64 now, .agg (ovC x).toArray].toArray W fun r w' => ∃ s, r = .tuple #[s, .int .i64 (acceptV (xs.map (·.o)) now x.o).2] ∧ OffsN W.heap.size w' s (acceptV (xs.map (·.o)) now x.o).1 ∧ Ext [] W w' := by
  have hSs := hS
  obtain ⟨q, cap, rfl, hcap, hsp, hl, hm⟩ := hS
  have e1 : nth (ovC x) 17 = some (.int .i64 x.o.h.til) := of_til hxo.1 _ _
  have e2 : seg (ovC x) 0 20 = some (ovC x) := of_all hxo.1 _ _
  have e3 : seg (ovC x) 0 16 = some (ipC x.o.h.rt) := of_rt hxo.1 _ _
  have e4 : nth (ovC x) 16 = some (.int .i64 x.o.h.ver) := of_ver hxo.1 _ _
  have hle : ∀ z ∈ xs, (ovC z).length = 20 := fun z h => ov_len (hx z h)
  refine fn_ofM (n := 104) [] Try.func60 rfl rfl rfl ?_
  intro a w F M hwW
  refine c_seq ?_
  refine c_region ?_
  (refine stepD rfl F rfl (o_box M (F.ev rfl) rfl ?_); clear F; clear M; intro b5 w M a F)
  refine stepD rfl F rfl (o_assign (F.ev rfl) ?_); clear F; clear a; intro a F
  refine stepD rfl F rfl (o_assign (F.ev rfl) ?_); clear F; clear a; intro a F
  with_reducible refine l_nil ?_
  with_reducible refine q_then ?_
  with_reducible refine c_seq ?_
  with_reducible refine c_seq ?_
  with_reducible refine c_region ?_
  refine stepD rfl F rfl (o_move (F.ev rfl) ?_); clear F; clear a; intro a F
  (refine stepD rfl F rfl (o_call (F.ev rfl) (F.evs rfl) (Cal.mono (rvalidL_c xs hx _ _ (hSs.later M.ext) (fun z hz => (hA z hz).later M.ext)) ?_)); clear F; clear a; rintro _ w ⟨rfl, hE⟩ a F; replace M := M.later hE; clear hE)
  cases hv : validL (xs.map (·.o))
  · have hacc : acceptV (xs.map (·.o)) now x.o = ([], 1) := by unfold acceptV; rw [hv]; rfl
    rw [hacc]
    rw [hv] at F
    refine stepD rfl F rfl (o_not (F.ev rfl) ?_); clear F; clear a; intro a F
    refine stepD rfl F rfl (o_move (F.ev rfl) ?_); clear F; clear a; intro a F
    refine stepOff F rfl rfl rfl rfl ?_; clear F; clear a; intro a F
    refine stepOff F rfl rfl rfl rfl ?_; clear F; clear a; intro a F
    refine stepOff F rfl rfl rfl rfl ?_; clear F; clear a; intro a F
    refine stepD rfl F rfl (o_pickT (F.ev rfl) (F.ev rfl) ?_); clear F; clear a; intro a F
    with_reducible refine l_nil ?_
    with_reducible refine q_then ?_
    refine c_true F rfl rfl ?_
    with_reducible refine c_seq ?_
    with_reducible refine c_region ?_
    refine stepD rfl F rfl (o_assign (F.ev rfl) ?_); clear F; clear a; intro a F
    refine stepD rfl F rfl (o_assign (F.ev rfl) ?_); clear F; clear a; intro a F
    with_reducible refine l_nil ?_
    with_reducible refine q_then ?_
    with_reducible refine c_ret ?_
    with_reducible refine q_thenR ?_
    refine p_ret F rfl (.cons (.tmp (F.ev rfl)) (.cons (.tmp (F.ev rfl)) .nil)) ?_
    exact ⟨_, rfl, OffsN.nil _ _, M.ext⟩
  rw [hv] at F
  refine stepD rfl F rfl (o_not (F.ev rfl) ?_); clear F; clear a; intro a F
  refine stepD rfl F rfl (o_move (F.ev rfl) ?_); clear F; clear a; intro a F
  refine stepG rfl F rfl rfl rfl (o_loadA M (F.ev rfl) (by repeat (first | exact .here | apply Has.there)) (by first | assumption | rfl) ?_); clear F; clear a; intro a F
  (refine stepG rfl F rfl rfl rfl (o_call (F.ev rfl) (F.evs rfl) (Cal.mono (rvalidOffer_c x hxo _ (hxa.later M.ext)) ?_)); clear F; clear a; rintro _ w ⟨rfl, hE⟩ a F; replace M := M.later hE; clear hE)
  cases ho : validO x.o
  · have hacc : acceptV (xs.map (·.o)) now x.o = ([], 1) := by unfold acceptV; rw [hv, ho]; rfl
    rw [hacc]
    rw [ho] at F
    refine stepG rfl F rfl rfl rfl (o_not (F.ev rfl) ?_); clear F; clear a; intro a F
    refine stepD rfl F rfl (o_pickF (F.ev rfl) (F.ev rfl) ?_); clear F; clear a; intro a F
    with_reducible refine l_nil ?_
    with_reducible refine q_then ?_
    refine c_true F rfl rfl ?_
    with_reducible refine c_seq ?_
    with_reducible refine c_region ?_
    refine stepD rfl F rfl (o_assign (F.ev rfl) ?_); clear F; clear a; intro a F
    refine stepD rfl F rfl (o_assign (F.ev rfl) ?_); clear F; clear a; intro a F
    with_reducible refine l_nil ?_
    with_reducible refine q_then ?_
    with_reducible refine c_ret ?_
    with_reducible refine q_thenR ?_
    refine p_ret F rfl (.cons (.tmp (F.ev rfl)) (.cons (.tmp (F.ev rfl)) .nil)) ?_
    exact ⟨_, rfl, OffsN.nil _ _, M.ext⟩
  rw [ho] at F
  refine stepG rfl F rfl rfl rfl (o_not (F.ev rfl) ?_); clear F; clear a; intro a F
  refine stepD rfl F rfl (o_pickF (F.ev rfl) (F.ev rfl) ?_); clear F; clear a; intro a F
  with_reducible refine l_nil ?_
  with_reducible refine q_then ?_
  refine c_false F rfl rfl ?_
  with_reducible refine c_skip ?_
  with_reducible refine q_then ?_
  with_reducible refine c_seq ?_
  with_reducible refine c_seq ?_
  with_reducible refine c_region ?_
  refine stepD rfl F rfl (o_move (F.ev rfl) ?_); clear F; clear a; intro a F
  (refine stepD rfl F rfl (o_call (F.ev rfl) (F.evs rfl) (Cal.mono (risTime_c now _) ?_)); clear F; clear a; rintro _ w ⟨rfl, hE⟩ a F; replace M := M.later hE; clear hE)
  cases htm : isTime now
  · have hacc : acceptV (xs.map (·.o)) now x.o = ([], 2) := by unfold acceptV; rw [hv, ho, htm]; rfl
    rw [hacc]
    rw [htm] at F
    refine stepD rfl F rfl (o_not (F.ev rfl) ?_); clear F; clear a; intro a F
    with_reducible refine l_nil ?_
    with_reducible refine q_then ?_
    refine c_true F rfl rfl ?_
    with_reducible refine c_seq ?_
    with_reducible refine c_region ?_
    refine stepD rfl F rfl (o_assign (F.ev rfl) ?_); clear F; clear a; intro a F
    refine stepD rfl F rfl (o_assign (F.ev rfl) ?_); clear F; clear a; intro a F
    with_reducible refine l_nil ?_
    with_reducible refine q_then ?_
    with_reducible refine c_ret ?_
    with_reducible refine q_thenR ?_
    refine p_ret F rfl (.cons (.tmp (F.ev rfl)) (.cons (.tmp (F.ev rfl)) .nil)) ?_
    exact ⟨_, rfl, OffsN.nil _ _, M.ext⟩
  rw [htm] at F
  by_cases c4 : x.o.h.til ≤ now
  · have hacc : acceptV (xs.map (·.o)) now x.o = ([], 14) := by
      unfold acceptV
      rw [hv, ho, htm]
      simp only [Bool.and_self, if_true, if_pos c4]
    rw [hacc]
    refine stepD rfl F rfl (o_not (F.ev rfl) ?_); clear F; clear a; intro a F
    with_reducible refine l_nil ?_
    with_reducible refine q_then ?_
    refine c_false F rfl rfl ?_
    with_reducible refine c_skip ?_
    with_reducible refine q_then ?_
    with_reducible refine c_seq ?_
    with_reducible refine c_seq ?_
    with_reducible refine c_region ?_
    refine stepD rfl F rfl (o_fieldAddr (F.ev rfl) ?_); clear F; clear a; intro a F
    refine stepD rfl F rfl (o_load1 M (F.ev rfl) (by repeat (first | exact .here | apply Has.there)) (by first | assumption | rfl) ?_); clear F; clear a; intro a F
    refine stepD rfl F rfl (o_move (F.ev rfl) ?_); clear F; clear a; intro a F
    refine stepD rfl F rfl (o_leqT (F.ev rfl) (F.ev rfl) (by omega) ?_); clear F; clear a; intro a F
    with_reducible refine l_nil ?_
    with_reducible refine q_then ?_
    refine c_true F rfl rfl ?_
    with_reducible refine c_seq ?_
    with_reducible refine c_region ?_
    refine stepD rfl F rfl (o_assign (F.ev rfl) ?_); clear F; clear a; intro a F
    refine stepD rfl F rfl (o_assign (F.ev rfl) ?_); clear F; clear a; intro a F
    with_reducible refine l_nil ?_
    with_reducible refine q_then ?_
    with_reducible refine c_ret ?_
    with_reducible refine q_thenR ?_
    refine p_ret F rfl (.cons (.tmp (F.ev rfl)) (.cons (.tmp (F.ev rfl)) .nil)) ?_
    exact ⟨_, rfl, OffsN.nil _ _, M.ext⟩
  have hlen := validL_len hv
  rw [List.length_map] at hlen
  have hov := validO_len ho
  have hasc := validL_asc hv
  have hfl : ∀ r, insO x.o (curO (xs.map (·.o)) now) = r → acceptV (xs.map (·.o)) now x.o = match r with
      | none => ([], 16)
      | some r => if 8 < r.length then ([], 10) else (r, 0) := fun r hr => by
    unfold acceptV
    rw [hv, ho, htm]
    simp only [Bool.and_self, if_true, if_neg c4, hr] <;> (cases r <;> rfl)
  refine stepD rfl F rfl (o_not (F.ev rfl) ?_); clear F; clear a; intro a F
  with_reducible refine l_nil ?_
  with_reducible refine q_then ?_
  refine c_false F rfl rfl ?_
  with_reducible refine c_skip ?_
  with_reducible refine q_then ?_
  with_reducible refine c_seq ?_
  with_reducible refine c_seq ?_
  with_reducible refine c_region ?_
  refine stepD rfl F rfl (o_fieldAddr (F.ev rfl) ?_); clear F; clear a; intro a F
  refine stepD rfl F rfl (o_load1 M (F.ev rfl) (by repeat (first | exact .here | apply Has.there)) (by first | assumption | rfl) ?_); clear F; clear a; intro a F
  refine stepD rfl F rfl (o_move (F.ev rfl) ?_); clear F; clear a; intro a F
  refine stepD rfl F rfl (o_leqF (F.ev rfl) (F.ev rfl) (by omega) ?_); clear F; clear a; intro a F
  with_reducible refine l_nil ?_
  with_reducible refine q_then ?_
  refine c_false F rfl rfl ?_
  with_reducible refine c_skip ?_
  with_reducible refine q_then ?_
  with_reducible refine c_seq ?_
  with_reducible refine c_region ?_
  refine stepD rfl F rfl (o_assign (F.ev rfl) ?_); clear F; clear a; intro a F
  with_reducible refine l_nil ?_
  with_reducible refine q_then ?_
  with_reducible refine c_seq ?_
  with_reducible refine c_region ?_
  refine stepD rfl F rfl (o_assign (F.ev rfl) ?_); clear F; clear a; intro a F
  with_reducible refine l_nil ?_
  with_reducible refine q_then ?_
  with_reducible refine c_seq ?_
  with_reducible refine c_seq ?_
  with_reducible refine c_region ?_
  refine stepD rfl F rfl (o_move (F.ev rfl) ?_); clear F; clear a; intro a F
  refine stepD rfl F rfl (o_lenSl (F.ev rfl) ?_); clear F; clear a; intro a F
  refine stepD rfl F rfl (o_move (F.ev rfl) ?_); clear F; clear a; intro a F
  with_reducible refine l_nil ?_
  with_reducible refine q_then ?_
  with_reducible refine c_block ?_
  refine c_loop (fun m a w => ∃ (i : Nat) (placed : Bool) (zs : List OV) (sv : Value) (ent inn : List (Nat × Obj)), m = xs.length - i ∧ i ≤ xs.length ∧ OwnS 58 20 sv zs.length (encL ovC zs) ent ∧ (∀ z ∈ zs, OwnIn inn z) ∧ zs.length ≤ i + pn placed ∧ Pl x.o placed (zs.map (·.o)) (curO ((xs.map (·.o)).take i) now) (curO ((xs.map (·.o)).drop i) now) ∧ Frm a 104 [] [(31, .int .i64 i), (30, .int .i64 xs.length), (29, .slice q xs.length cap), (8, sv), (9, .bool placed), (5, .pointer (some ⟨b5, 0, none⟩)), (1, .int .i64 now)] ∧ Mem [] W w ((b5, .cells (ovC x).toArray 58 (0, 0)) :: (inn ++ ent))) xs.length ⟨0, false, [], _, [], [], rfl, by omega, OwnS.nil _ _, by simp, Nat.zero_le _, by simp [Pl, curO], F.only [31, 30, 29, 8, 9, 5, 1] rfl, M⟩ ?_
  clear F M
  rintro m a w ⟨i, placed, zs, sv, ent, inn, hm', hi, hO, hI, hzl, hP, F, M⟩
  obtain ⟨sp, sc, rfl⟩ := hO.slice
  have hpn := pn_le placed
  by_cases hlt : i < xs.length
  · obtain ⟨b, o, cs, t, fz, rfl, hb, hs⟩ := hm (by omega)
    have hlm : i < (xs.map (·.o)).length := by rw [List.length_map]; exact hlt
    have hct := curO_take (now := now) hlm
    have hcd := curO_drop (now := now) hlm
    rw [List.getElem_map] at hct hcd
    obtain ⟨y, hy0⟩ : ∃ y, y = xs[i] := ⟨_, rfl⟩
    rw [← hy0] at hct hcd
    have hym : y ∈ xs := by rw [hy0]; exact List.getElem_mem hlt
    have hyo := hx y hym
    have hya := hA y hym
    have hyv := validO_len (validL_each hv (List.mem_map_of_mem hym))
    have f1 : seg cs (o + (i : Int).toNat * 20) 20 = some (ovC y) := by rw [hy0]; exact seg_el hle hs hlt (by omega)
    have f2 : (ovC y).length = 20 := ov_len hyo
    have f3 : seg (ovC y) 0 20 = some (ovC y) := of_all hyo.1 _ _
    have f4 : nth (ovC y) 17 = some (.int .i64 y.o.h.til) := of_til hyo.1 _ _
    have f5 : seg (ovC y) 0 16 = some (ipC y.o.h.rt) := of_rt hyo.1 _ _
    have f6 : nth (ovC y) 16 = some (.int .i64 y.o.h.ver) := of_ver hyo.1 _ _
    with_reducible refine c_seq ?_
    with_reducible refine c_region ?_
    refine stepD rfl F rfl (o_lssT (F.ev rfl) (F.ev rfl) (by omega) ?_); clear F; clear a; intro a F
    with_reducible refine l_nil ?_
    with_reducible refine q_then ?_
    with_reducible refine c_seq ?_
    refine c_true F rfl rfl ?_
    with_reducible refine c_skip ?_
    with_reducible refine q_then ?_
    with_reducible refine c_seq ?_
    with_reducible refine c_block ?_
    with_reducible refine c_seq ?_
    with_reducible refine c_region ?_
    refine stepD rfl F rfl (o_indexSl (F.ev rfl) (F.ev rfl) (by omega) (by omega) ?_); clear F; clear a; intro a F
    refine stepD rfl F rfl (o_loadWA M (F.ev rfl) (by assumption) (by first | assumption | rfl) ?_); clear F; clear a; intro a F
    (refine stepD rfl F rfl (o_alloc M ?_); clear F; clear M; intro b11 w M a F)
    (refine stepN rfl F (o_storeA M (F.ev rfl) (F.ev rfl) (f2) (ov_one hya)  (by repeat (first | exact .here | apply Has.there))  (put_all (by rw [f2]; rfl)) (by repeat (first | exact .here | apply Upd.there)) ?_); clear F; clear M; intro w M a F)
    by_cases c5 : y.o.h.til ≤ now
    · rw [if_neg (show ¬ now < y.o.h.til by omega), List.append_nil] at hct
      rw [if_neg (show ¬ now < y.o.h.til by omega), List.nil_append] at hcd
      with_reducible refine l_nil ?_
      with_reducible refine q_then ?_
      with_reducible refine c_seq ?_
      with_reducible refine c_seq ?_
      with_reducible refine c_region ?_
      refine stepD rfl F rfl (o_fieldAddr (F.ev rfl) ?_); clear F; clear a; intro a F
      refine stepD rfl F rfl (o_load1 M (F.ev rfl) (by repeat (first | exact .here | apply Has.there)) (by first | assumption | rfl) ?_); clear F; clear a; intro a F
      refine stepD rfl F rfl (o_move (F.ev rfl) ?_); clear F; clear a; intro a F
      refine stepD rfl F rfl (o_leqT (F.ev rfl) (F.ev rfl) (by omega) ?_); clear F; clear a; intro a F
      with_reducible refine l_nil ?_
      with_reducible refine q_then ?_
      refine c_true F rfl rfl ?_
      with_reducible refine c_exit ?_
      with_reducible refine q_thenX ?_
      with_reducible refine q_inBX ?_
      with_reducible refine q_then ?_
      with_reducible refine c_region ?_
      refine stepD rfl F rfl (o_add (F.ev rfl) (F.ev rfl) (w_i64 (by omega) (by omega)) ?_); clear F; clear a; intro a F
      refine stepD rfl F rfl (o_move (F.ev rfl) ?_); clear F; clear a; intro a F
      with_reducible refine l_nil ?_
      with_reducible refine q_then ?_
      exact ⟨_, by omega, i + 1, placed, zs, _, ent, inn, rfl, by omega, hO, hI, by omega, by rw [hct, ← hcd]; exact hP, F.only [31, 30, 29, 8, 9, 5, 1] rfl, M.sub (.cons _ (.refl _))⟩
    rw [if_pos (show now < y.o.h.til by omega)] at hct hcd
    rw [List.singleton_append] at hcd
    have hac : Asc (y.o :: curO ((xs.map (·.o)).drop (i + 1)) now) := by rw [← hcd]; exact (List.Pairwise.sublist (List.drop_sublist _ _) hasc).filter _
    rw [hcd] at hP
    with_reducible refine l_nil ?_
    with_reducible refine q_then ?_
    with_reducible refine c_seq ?_
    with_reducible refine c_seq ?_
    with_reducible refine c_region ?_
    refine stepD rfl F rfl (o_fieldAddr (F.ev rfl) ?_); clear F; clear a; intro a F
    refine stepD rfl F rfl (o_load1 M (F.ev rfl) (by repeat (first | exact .here | apply Has.there)) (by first | assumption | rfl) ?_); clear F; clear a; intro a F
    refine stepD rfl F rfl (o_move (F.ev rfl) ?_); clear F; clear a; intro a F
    refine stepD rfl F rfl (o_leqF (F.ev rfl) (F.ev rfl) (by omega) ?_); clear F; clear a; intro a F
    with_reducible refine l_nil ?_
    with_reducible refine q_then ?_
    refine c_false F rfl rfl ?_
    with_reducible refine c_skip ?_
    with_reducible refine q_then ?_
    with_reducible refine c_seq ?_
    with_reducible refine c_region ?_
    refine stepD rfl F rfl (o_fieldAddr (F.ev rfl) ?_); clear F; clear a; intro a F
    refine stepD rfl F rfl (o_loadA M (F.ev rfl) (by repeat (first | exact .here | apply Has.there)) (by first | assumption | rfl) ?_); clear F; clear a; intro a F
    refine stepD rfl F rfl (o_fieldAddr (F.ev rfl) ?_); clear F; clear a; intro a F
    refine stepD rfl F rfl (o_loadA M (F.ev rfl) (by repeat (first | exact .here | apply Has.there)) (by first | assumption | rfl) ?_); clear F; clear a; intro a F
    (refine stepD rfl F rfl (o_call (F.ev rfl) (F.evs rfl) (Cal.mono (rcompareIP_c y.o.h.rt x.o.h.rt hyo.1 hxo.1 _) ?_)); clear F; clear a; rintro _ w ⟨rfl, hE⟩ a F; replace M := M.later hE; clear hE)
    cases placed
    · rcases Int.lt_trichotomy (cmpL y.o.h.rt x.o.h.rt) 0 with hk | hk | hk
      · refine stepD rfl F rfl (o_assign (F.ev rfl) ?_); clear F; clear a; intro a F
        with_reducible refine l_nil ?_
        with_reducible refine q_then ?_
        with_reducible refine c_seq ?_
        with_reducible refine c_seq ?_
        with_reducible refine c_region ?_
        refine stepD rfl F rfl (o_move (F.ev rfl) ?_); clear F; clear a; intro a F
        refine stepD rfl F rfl (o_eqlF (F.ev rfl) (F.ev rfl) (by omega) ?_); clear F; clear a; intro a F
        refine stepD rfl F rfl (o_move (F.ev rfl) ?_); clear F; clear a; intro a F
        refine stepOff F rfl rfl rfl rfl ?_; clear F; clear a; intro a F
        refine stepOff F rfl rfl rfl rfl ?_; clear F; clear a; intro a F
        refine stepOff F rfl rfl rfl rfl ?_; clear F; clear a; intro a F
        refine stepOff F rfl rfl rfl rfl ?_; clear F; clear a; intro a F
        refine stepOff F rfl rfl rfl rfl ?_; clear F; clear a; intro a F
        refine stepD rfl F rfl (o_pickF (F.ev rfl) (F.ev rfl) ?_); clear F; clear a; intro a F
        with_reducible refine l_nil ?_
        with_reducible refine q_then ?_
        refine c_false F rfl rfl ?_
        with_reducible refine c_skip ?_
        with_reducible refine q_then ?_
        with_reducible refine c_seq ?_
        with_reducible refine c_seq ?_
        with_reducible refine c_region ?_
        refine stepD rfl F rfl (o_move (F.ev rfl) ?_); clear F; clear a; intro a F
        refine stepD rfl F rfl (o_geqF (F.ev rfl) (F.ev rfl) (by omega) ?_); clear F; clear a; intro a F
        refine stepD rfl F rfl (o_move (F.ev rfl) ?_); clear F; clear a; intro a F
        refine stepOff F rfl rfl rfl rfl ?_; clear F; clear a; intro a F
        refine stepOff F rfl rfl rfl rfl ?_; clear F; clear a; intro a F
        refine stepD rfl F rfl (o_pickF (F.ev rfl) (F.ev rfl) ?_); clear F; clear a; intro a F
        with_reducible refine l_nil ?_
        with_reducible refine q_then ?_
        refine c_false F rfl rfl ?_
        with_reducible refine c_skip ?_
        with_reducible refine q_then ?_
        with_reducible refine c_region ?_
        refine stepD rfl F rfl (o_move (F.ev rfl) ?_); clear F; clear a; intro a F
        refine stepD rfl F rfl (o_loadA M (F.ev rfl) (by repeat (first | exact .here | apply Has.there)) (by first | assumption | rfl) ?_); clear F; clear a; intro a F
        (refine stepD rfl F rfl (o_call (F.ev rfl) (F.evs rfl) (Cal.mono (rcopyV_c y (hyo) (by omega) (by omega) _ (hya.later M.ext) ) ?_)); clear F; clear a; rintro _ w ⟨u1, v1, eu1, ev1, rfl, hA1, hB1, N⟩ a F; replace M := M.joins N; clear N)
        have ho1 : (ovC ⟨y.o, u1, v1⟩).all (·.oneCell') = true := of_one _ _ _ hA1.one hB1.one
        have hl1 : (ovC ⟨y.o, u1, v1⟩).length = 20 := ov_len (x := ⟨y.o, u1, v1⟩) (hyo)
        skip
        (refine stepD rfl F rfl (o_buildSlice F M rfl rfl rfl (of_build1 (hyo).1 u1 v1) ?_); clear F; clear M; intro bs1 w M a F)
        replace M := M.perm (l' := (bs1, .cells (ovC ⟨y.o, u1, v1⟩).toArray 58 (0, 0)) :: (b11, .cells (ovC y).toArray 58 (0, 0)) :: (b5, .cells (ovC x).toArray 58 (0, 0)) :: ((eu1 ++ ev1) ++ (inn ++ ent))) (by classical exact List.perm_iff_count.2 fun _ => by simp only [List.count_append, List.count_cons, List.count_nil, Nat.add_zero, Nat.zero_add] <;> ac_rfl)
        (refine stepD rfl F rfl (o_append hO M (.cons (.cons (.cons (.app (.app .here))))) (F.ev rfl) (F.ev rfl) (SrcOf.cells' (M.heap .here) (sg_all (by omega)) ho1) (by omega) (by omega) ?_); clear F; clear M; clear hO; intro sv1 ent1 w hO M a F)
        replace M := M.sub (.cons _ (.refl _))
        replace hO : OwnS 58 20 sv1 (zs ++ [(⟨y.o, u1, v1⟩ : OV)]).length (encL ovC (zs ++ [(⟨y.o, u1, v1⟩ : OV)])) ent1 := by
          rw [show (zs ++ [(⟨y.o, u1, v1⟩ : OV)]).length = zs.length + 1 by simp, encL_app, encL_one]; exact hO
        have hI1 : ∀ z ∈ zs ++ [(⟨y.o, u1, v1⟩ : OV)], OwnIn ((eu1 ++ ev1) ++ inn) z := by
          intro z hz'
          rcases List.mem_append.1 hz' with h1 | h1
          · exact (hI z h1).mono fun p hp => List.mem_append_right _ hp
          · simp only [List.mem_singleton] at h1
            subst h1
            exact ⟨eu1, ev1, hA1, hB1, fun p hp => by simp [hp], fun p hp => by simp [hp]⟩
        replace M := M.perm (l' := (b11, .cells (ovC y).toArray 58 (0, 0)) :: (b5, .cells (ovC x).toArray 58 (0, 0)) :: (((eu1 ++ ev1) ++ inn) ++ ent1)) (by classical exact List.perm_iff_count.2 fun _ => by simp only [List.count_append, List.count_cons, List.count_nil, Nat.add_zero, Nat.zero_add] <;> ac_rfl)
        have hzn1 : (zs ++ [(⟨y.o, u1, v1⟩ : OV)]).length = zs.length + 1 := by simp
        clear ho1 hl1
        obtain ⟨q1, c1, hsv1⟩ := hO.slice
        refine stepD rfl F rfl (o_assign (F.ev rfl) ?_); clear F; clear a; intro a F
        with_reducible refine l_nil ?_
        with_reducible refine q_inB ?_
        with_reducible refine q_then ?_
        with_reducible refine c_region ?_
        refine stepD rfl F rfl (o_add (F.ev rfl) (F.ev rfl) (w_i64 (by omega) (by omega)) ?_); clear F; clear a; intro a F
        refine stepD rfl F rfl (o_move (F.ev rfl) ?_); clear F; clear a; intro a F
        with_reducible refine l_nil ?_
        with_reducible refine q_then ?_
        exact ⟨_, by omega, i + 1, false, zs ++ [⟨y.o, u1, v1⟩], _, ent1, _, rfl, by omega, hO, hI1, by simp only [pn] at *; omega, by rw [hct, List.map_append]; exact hP.lo hk, F.only [31, 30, 29, 8, 9, 5, 1] rfl, M.sub (.cons _ (.refl _))⟩
      · by_cases c6 : x.o.h.ver < y.o.h.ver
        · have hacc := hfl none (by
            have := hP.stale hk c6
            rw [← hcd] at this
            rw [← this]
            congr 1
            unfold curO
            rw [← List.filter_append, List.take_append_drop])
          rw [hacc]
          refine stepD rfl F rfl (o_assign (F.ev rfl) ?_); clear F; clear a; intro a F
          with_reducible refine l_nil ?_
          with_reducible refine q_then ?_
          with_reducible refine c_seq ?_
          with_reducible refine c_seq ?_
          with_reducible refine c_region ?_
          refine stepD rfl F rfl (o_move (F.ev rfl) ?_); clear F; clear a; intro a F
          refine stepD rfl F rfl (o_eqlT (F.ev rfl) (F.ev rfl) (by omega) ?_); clear F; clear a; intro a F
          refine stepD rfl F rfl (o_move (F.ev rfl) ?_); clear F; clear a; intro a F
          refine stepG rfl F rfl rfl rfl (o_fieldAddr (F.ev rfl) ?_); clear F; clear a; intro a F
          refine stepG rfl F rfl rfl rfl (o_load1 M (F.ev rfl) (by repeat (first | exact .here | apply Has.there)) (by first | assumption | rfl) ?_); clear F; clear a; intro a F
          refine stepG rfl F rfl rfl rfl (o_fieldAddr (F.ev rfl) ?_); clear F; clear a; intro a F
          refine stepG rfl F rfl rfl rfl (o_load1 M (F.ev rfl) (by repeat (first | exact .here | apply Has.there)) (by first | assumption | rfl) ?_); clear F; clear a; intro a F
          refine stepG rfl F rfl rfl rfl (o_gtrT (F.ev rfl) (F.ev rfl) (by omega) ?_); clear F; clear a; intro a F
          refine stepD rfl F rfl (o_pickT (F.ev rfl) (F.ev rfl) ?_); clear F; clear a; intro a F
          with_reducible refine l_nil ?_
          with_reducible refine q_then ?_
          refine c_true F rfl rfl ?_
          with_reducible refine c_seq ?_
          with_reducible refine c_region ?_
          refine stepD rfl F rfl (o_assign (F.ev rfl) ?_); clear F; clear a; intro a F
          refine stepD rfl F rfl (o_assign (F.ev rfl) ?_); clear F; clear a; intro a F
          with_reducible refine l_nil ?_
          with_reducible refine q_then ?_
          with_reducible refine c_ret ?_
          with_reducible refine q_thenR ?_
          with_reducible refine q_inBR ?_
          with_reducible refine q_thenR ?_
          with_reducible refine q_thenR ?_
          with_reducible refine q_inBR ?_
          with_reducible refine q_thenR ?_
          refine p_ret F rfl (.cons (.tmp (F.ev rfl)) (.cons (.tmp (F.ev rfl)) .nil)) ?_
          exact ⟨_, rfl, OffsN.nil _ _, M.ext⟩
        · by_cases c7 : y.o.h.ver = x.o.h.ver
          · refine stepD rfl F rfl (o_assign (F.ev rfl) ?_); clear F; clear a; intro a F
            with_reducible refine l_nil ?_
            with_reducible refine q_then ?_
            with_reducible refine c_seq ?_
            with_reducible refine c_seq ?_
            with_reducible refine c_region ?_
            refine stepD rfl F rfl (o_move (F.ev rfl) ?_); clear F; clear a; intro a F
            refine stepD rfl F rfl (o_eqlT (F.ev rfl) (F.ev rfl) (by omega) ?_); clear F; clear a; intro a F
            refine stepD rfl F rfl (o_move (F.ev rfl) ?_); clear F; clear a; intro a F
            refine stepG rfl F rfl rfl rfl (o_fieldAddr (F.ev rfl) ?_); clear F; clear a; intro a F
            refine stepG rfl F rfl rfl rfl (o_load1 M (F.ev rfl) (by repeat (first | exact .here | apply Has.there)) (by first | assumption | rfl) ?_); clear F; clear a; intro a F
            refine stepG rfl F rfl rfl rfl (o_fieldAddr (F.ev rfl) ?_); clear F; clear a; intro a F
            refine stepG rfl F rfl rfl rfl (o_load1 M (F.ev rfl) (by repeat (first | exact .here | apply Has.there)) (by first | assumption | rfl) ?_); clear F; clear a; intro a F
            refine stepG rfl F rfl rfl rfl (o_gtrF (F.ev rfl) (F.ev rfl) (by omega) ?_); clear F; clear a; intro a F
            refine stepD rfl F rfl (o_pickT (F.ev rfl) (F.ev rfl) ?_); clear F; clear a; intro a F
            with_reducible refine l_nil ?_
            with_reducible refine q_then ?_
            refine c_false F rfl rfl ?_
            with_reducible refine c_skip ?_
            with_reducible refine q_then ?_
            with_reducible refine c_seq ?_
            with_reducible refine c_seq ?_
            with_reducible refine c_region ?_
            refine stepD rfl F rfl (o_move (F.ev rfl) ?_); clear F; clear a; intro a F
            refine stepD rfl F rfl (o_geqT (F.ev rfl) (F.ev rfl) (by omega) ?_); clear F; clear a; intro a F
            refine stepD rfl F rfl (o_move (F.ev rfl) ?_); clear F; clear a; intro a F
            refine stepG rfl F rfl rfl rfl (o_move (F.ev rfl) ?_); clear F; clear a; intro a F
            refine stepG rfl F rfl rfl rfl (o_not (F.ev rfl) ?_); clear F; clear a; intro a F
            refine stepD rfl F rfl (o_pickT (F.ev rfl) (F.ev rfl) ?_); clear F; clear a; intro a F
            with_reducible refine l_nil ?_
            with_reducible refine q_then ?_
            refine c_true F rfl rfl ?_
            with_reducible refine c_seq ?_
            with_reducible refine c_region ?_
            refine stepD rfl F rfl (o_assign (F.ev rfl) ?_); clear F; clear a; intro a F
            with_reducible refine l_nil ?_
            with_reducible refine q_then ?_
            with_reducible refine c_seq ?_
            with_reducible refine c_seq ?_
            with_reducible refine c_region ?_
            refine stepD rfl F rfl (o_move (F.ev rfl) ?_); clear F; clear a; intro a F
            refine stepD rfl F rfl (o_eqlT (F.ev rfl) (F.ev rfl) (by omega) ?_); clear F; clear a; intro a F
            refine stepD rfl F rfl (o_move (F.ev rfl) ?_); clear F; clear a; intro a F
            refine stepG rfl F rfl rfl rfl (o_fieldAddr (F.ev rfl) ?_); clear F; clear a; intro a F
            refine stepG rfl F rfl rfl rfl (o_load1 M (F.ev rfl) (by repeat (first | exact .here | apply Has.there)) (by first | assumption | rfl) ?_); clear F; clear a; intro a F
            refine stepG rfl F rfl rfl rfl (o_fieldAddr (F.ev rfl) ?_); clear F; clear a; intro a F
            refine stepG rfl F rfl rfl rfl (o_load1 M (F.ev rfl) (by repeat (first | exact .here | apply Has.there)) (by first | assumption | rfl) ?_); clear F; clear a; intro a F
            refine stepG rfl F rfl rfl rfl (o_eqlT (F.ev rfl) (F.ev rfl) (by omega) ?_); clear F; clear a; intro a F
            refine stepD rfl F rfl (o_pickT (F.ev rfl) (F.ev rfl) ?_); clear F; clear a; intro a F
            with_reducible refine l_nil ?_
            with_reducible refine q_then ?_
            refine c_true F rfl rfl ?_
            with_reducible refine c_seq ?_
            with_reducible refine c_region ?_
            refine stepD rfl F rfl (o_loadA M (F.ev rfl) (by repeat (first | exact .here | apply Has.there)) (by first | assumption | rfl) ?_); clear F; clear a; intro a F
            (refine stepD rfl F rfl (o_call (F.ev rfl) (F.evs rfl) (Cal.mono (rcopyV_c y (hyo) (by omega) (by omega) _ (hya.later M.ext) ) ?_)); clear F; clear a; rintro _ w ⟨u1, v1, eu1, ev1, rfl, hA1, hB1, N⟩ a F; replace M := M.joins N; clear N)
            have ho1 : (ovC ⟨y.o, u1, v1⟩).all (·.oneCell') = true := of_one _ _ _ hA1.one hB1.one
            have hl1 : (ovC ⟨y.o, u1, v1⟩).length = 20 := ov_len (x := ⟨y.o, u1, v1⟩) (hyo)
            skip
            replace M := M.perm (l' := (b11, .cells (ovC y).toArray 58 (0, 0)) :: (b5, .cells (ovC x).toArray 58 (0, 0)) :: ((eu1 ++ ev1) ++ (inn ++ ent))) (by classical exact List.perm_iff_count.2 fun _ => by simp only [List.count_append, List.count_cons, List.count_nil, Nat.add_zero, Nat.zero_add] <;> ac_rfl)
            have hpt : put (ovC ⟨y.o, u1, v1⟩) 17 [.int .i64 (if y.o.h.til < x.o.h.til then x.o.h.til else y.o.h.til)] = some (ovC ⟨later2 y.o x.o, u1, v1⟩) := of_put_til hyo.1 u1 v1 _
            have hlo : IsOff (later2 y.o x.o) := ⟨hyo.1, hyo.2⟩
            have hal : seg (ovC ⟨later2 y.o x.o, u1, v1⟩) 0 20 = some (ovC ⟨later2 y.o x.o, u1, v1⟩) := of_all hlo.1 _ _
            (refine stepD rfl F rfl (o_alloc M ?_); clear F; clear M; intro b13 w M a F)
            (refine stepN rfl F (o_storeA M (F.ev rfl) (F.ev rfl) (hl1) ho1  (by repeat (first | exact .here | apply Has.there))  (put_all (by rw [hl1]; rfl)) (by repeat (first | exact .here | apply Upd.there)) ?_); clear F; clear M; intro w M a F)
            with_reducible refine l_nil ?_
            with_reducible refine q_then ?_
            with_reducible refine c_seq ?_
            with_reducible refine c_region ?_
            refine stepD rfl F rfl (o_fieldAddr (F.ev rfl) ?_); clear F; clear a; intro a F
            refine stepD rfl F rfl (o_load1 M (F.ev rfl) (by repeat (first | exact .here | apply Has.there)) (by first | assumption | rfl) ?_); clear F; clear a; intro a F
            refine stepD rfl F rfl (o_fieldAddr (F.ev rfl) ?_); clear F; clear a; intro a F
            refine stepD rfl F rfl (o_load1 M (F.ev rfl) (by repeat (first | exact .here | apply Has.there)) (by first | assumption | rfl) ?_); clear F; clear a; intro a F
            refine stepD rfl F rfl (o_max (F.ev rfl) (F.ev rfl) ?_); clear F; clear a; intro a F
            refine stepD rfl F rfl (o_fieldAddr (F.ev rfl) ?_); clear F; clear a; intro a F
            (refine stepN rfl F (o_store1 M (F.ev rfl) (F.ev rfl) rfl (by repeat (first | exact .here | apply Has.there)) (hpt) (by repeat (first | exact .here | apply Upd.there)) ?_); clear F; clear M; intro w M a F)
            replace ho1 : (ovC ⟨later2 y.o x.o, u1, v1⟩).all (·.oneCell') = true := of_one _ _ _ hA1.one hB1.one
            replace hl1 : (ovC ⟨later2 y.o x.o, u1, v1⟩).length = 20 := ov_len (x := ⟨later2 y.o x.o, u1, v1⟩) hlo
            with_reducible refine l_nil ?_
            with_reducible refine q_then ?_
            with_reducible refine c_seq ?_
            with_reducible refine c_region ?_
            refine stepD rfl F rfl (o_move (F.ev rfl) ?_); clear F; clear a; intro a F
            refine stepD rfl F rfl (o_loadA M (F.ev rfl) (by repeat (first | exact .here | apply Has.there)) (by first | assumption | rfl) ?_); clear F; clear a; intro a F
            (refine stepD rfl F rfl (o_buildSlice F M rfl rfl rfl (of_build1 (hlo).1 u1 v1) ?_); clear F; clear M; intro bs1 w M a F)
            replace M := M.perm (l' := (bs1, .cells (ovC ⟨later2 y.o x.o, u1, v1⟩).toArray 58 (0, 0)) :: (b13, .cells (ovC ⟨later2 y.o x.o, u1, v1⟩).toArray 58 (0, 0)) :: (b11, .cells (ovC y).toArray 58 (0, 0)) :: (b5, .cells (ovC x).toArray 58 (0, 0)) :: ((eu1 ++ ev1) ++ (inn ++ ent))) (by classical exact List.perm_iff_count.2 fun _ => by simp only [List.count_append, List.count_cons, List.count_nil, Nat.add_zero, Nat.zero_add] <;> ac_rfl)
            (refine stepD rfl F rfl (o_append hO M (.cons (.cons (.cons (.cons (.app (.app .here)))))) (F.ev rfl) (F.ev rfl) (SrcOf.cells' (M.heap .here) (sg_all (by omega)) ho1) (by omega) (by omega) ?_); clear F; clear M; clear hO; intro sv1 ent1 w hO M a F)
            replace M := M.sub (.cons _ (.refl _))
            replace hO : OwnS 58 20 sv1 (zs ++ [(⟨later2 y.o x.o, u1, v1⟩ : OV)]).length (encL ovC (zs ++ [(⟨later2 y.o x.o, u1, v1⟩ : OV)])) ent1 := by
              rw [show (zs ++ [(⟨later2 y.o x.o, u1, v1⟩ : OV)]).length = zs.length + 1 by simp, encL_app, encL_one]; exact hO
            have hI1 : ∀ z ∈ zs ++ [(⟨later2 y.o x.o, u1, v1⟩ : OV)], OwnIn ((eu1 ++ ev1) ++ inn) z := by
              intro z hz'
              rcases List.mem_append.1 hz' with h1 | h1
              · exact (hI z h1).mono fun p hp => List.mem_append_right _ hp
              · simp only [List.mem_singleton] at h1
                subst h1
                exact ⟨eu1, ev1, hA1, hB1, fun p hp => by simp [hp], fun p hp => by simp [hp]⟩
            replace M := M.perm (l' := (b13, .cells (ovC ⟨later2 y.o x.o, u1, v1⟩).toArray 58 (0, 0)) :: (b11, .cells (ovC y).toArray 58 (0, 0)) :: (b5, .cells (ovC x).toArray 58 (0, 0)) :: (((eu1 ++ ev1) ++ inn) ++ ent1)) (by classical exact List.perm_iff_count.2 fun _ => by simp only [List.count_append, List.count_cons, List.count_nil, Nat.add_zero, Nat.zero_add] <;> ac_rfl)
            have hzn1 : (zs ++ [(⟨later2 y.o x.o, u1, v1⟩ : OV)]).length = zs.length + 1 := by simp
            clear ho1 hl1
            obtain ⟨q1, c1, hsv1⟩ := hO.slice
            refine stepD rfl F rfl (o_assign (F.ev rfl) ?_); clear F; clear a; intro a F
            with_reducible refine l_nil ?_
            with_reducible refine q_then ?_
            with_reducible refine c_exit ?_
            with_reducible refine q_thenX ?_
            with_reducible refine q_thenX ?_
            with_reducible refine q_inBX ?_
            with_reducible refine q_then ?_
            with_reducible refine c_region ?_
            refine stepD rfl F rfl (o_add (F.ev rfl) (F.ev rfl) (w_i64 (by omega) (by omega)) ?_); clear F; clear a; intro a F
            refine stepD rfl F rfl (o_move (F.ev rfl) ?_); clear F; clear a; intro a F
            with_reducible refine l_nil ?_
            with_reducible refine q_then ?_
            exact ⟨_, by omega, i + 1, true, zs ++ [⟨later2 y.o x.o, u1, v1⟩], _, ent1, _, rfl, by omega, hO, hI1, by simp only [pn] at *; omega, by rw [hct, List.map_append]; exact hP.same hac hk c7, F.only [31, 30, 29, 8, 9, 5, 1] rfl, M.sub (.cons _ (.cons _ (.refl _)))⟩
          · refine stepD rfl F rfl (o_assign (F.ev rfl) ?_); clear F; clear a; intro a F
            with_reducible refine l_nil ?_
            with_reducible refine q_then ?_
            with_reducible refine c_seq ?_
            with_reducible refine c_seq ?_
            with_reducible refine c_region ?_
            refine stepD rfl F rfl (o_move (F.ev rfl) ?_); clear F; clear a; intro a F
            refine stepD rfl F rfl (o_eqlT (F.ev rfl) (F.ev rfl) (by omega) ?_); clear F; clear a; intro a F
            refine stepD rfl F rfl (o_move (F.ev rfl) ?_); clear F; clear a; intro a F
            refine stepG rfl F rfl rfl rfl (o_fieldAddr (F.ev rfl) ?_); clear F; clear a; intro a F
            refine stepG rfl F rfl rfl rfl (o_load1 M (F.ev rfl) (by repeat (first | exact .here | apply Has.there)) (by first | assumption | rfl) ?_); clear F; clear a; intro a F
            refine stepG rfl F rfl rfl rfl (o_fieldAddr (F.ev rfl) ?_); clear F; clear a; intro a F
            refine stepG rfl F rfl rfl rfl (o_load1 M (F.ev rfl) (by repeat (first | exact .here | apply Has.there)) (by first | assumption | rfl) ?_); clear F; clear a; intro a F
            refine stepG rfl F rfl rfl rfl (o_gtrF (F.ev rfl) (F.ev rfl) (by omega) ?_); clear F; clear a; intro a F
            refine stepD rfl F rfl (o_pickT (F.ev rfl) (F.ev rfl) ?_); clear F; clear a; intro a F
            with_reducible refine l_nil ?_
            with_reducible refine q_then ?_
            refine c_false F rfl rfl ?_
            with_reducible refine c_skip ?_
            with_reducible refine q_then ?_
            with_reducible refine c_seq ?_
            with_reducible refine c_seq ?_
            with_reducible refine c_region ?_
            refine stepD rfl F rfl (o_move (F.ev rfl) ?_); clear F; clear a; intro a F
            refine stepD rfl F rfl (o_geqT (F.ev rfl) (F.ev rfl) (by omega) ?_); clear F; clear a; intro a F
            refine stepD rfl F rfl (o_move (F.ev rfl) ?_); clear F; clear a; intro a F
            refine stepG rfl F rfl rfl rfl (o_move (F.ev rfl) ?_); clear F; clear a; intro a F
            refine stepG rfl F rfl rfl rfl (o_not (F.ev rfl) ?_); clear F; clear a; intro a F
            refine stepD rfl F rfl (o_pickT (F.ev rfl) (F.ev rfl) ?_); clear F; clear a; intro a F
            with_reducible refine l_nil ?_
            with_reducible refine q_then ?_
            refine c_true F rfl rfl ?_
            with_reducible refine c_seq ?_
            with_reducible refine c_region ?_
            refine stepD rfl F rfl (o_assign (F.ev rfl) ?_); clear F; clear a; intro a F
            with_reducible refine l_nil ?_
            with_reducible refine q_then ?_
            with_reducible refine c_seq ?_
            with_reducible refine c_seq ?_
            with_reducible refine c_region ?_
            refine stepD rfl F rfl (o_move (F.ev rfl) ?_); clear F; clear a; intro a F
            refine stepD rfl F rfl (o_eqlT (F.ev rfl) (F.ev rfl) (by omega) ?_); clear F; clear a; intro a F
            refine stepD rfl F rfl (o_move (F.ev rfl) ?_); clear F; clear a; intro a F
            refine stepG rfl F rfl rfl rfl (o_fieldAddr (F.ev rfl) ?_); clear F; clear a; intro a F
            refine stepG rfl F rfl rfl rfl (o_load1 M (F.ev rfl) (by repeat (first | exact .here | apply Has.there)) (by first | assumption | rfl) ?_); clear F; clear a; intro a F
            refine stepG rfl F rfl rfl rfl (o_fieldAddr (F.ev rfl) ?_); clear F; clear a; intro a F
            refine stepG rfl F rfl rfl rfl (o_load1 M (F.ev rfl) (by repeat (first | exact .here | apply Has.there)) (by first | assumption | rfl) ?_); clear F; clear a; intro a F
            refine stepG rfl F rfl rfl rfl (o_eqlF (F.ev rfl) (F.ev rfl) (by omega) ?_); clear F; clear a; intro a F
            refine stepD rfl F rfl (o_pickT (F.ev rfl) (F.ev rfl) ?_); clear F; clear a; intro a F
            with_reducible refine l_nil ?_
            with_reducible refine q_then ?_
            refine c_false F rfl rfl ?_
            with_reducible refine c_skip ?_
            with_reducible refine q_then ?_
            with_reducible refine c_seq ?_
            with_reducible refine c_region ?_
            refine stepD rfl F rfl (o_move (F.ev rfl) ?_); clear F; clear a; intro a F
            refine stepD rfl F rfl (o_loadA M (F.ev rfl) (by repeat (first | exact .here | apply Has.there)) (by first | assumption | rfl) ?_); clear F; clear a; intro a F
            (refine stepD rfl F rfl (o_call (F.ev rfl) (F.evs rfl) (Cal.mono (rcopyV_c x (hxo) (by omega) (by omega) _ (hxa.later M.ext) ) ?_)); clear F; clear a; rintro _ w ⟨u1, v1, eu1, ev1, rfl, hA1, hB1, N⟩ a F; replace M := M.joins N; clear N)
            have ho1 : (ovC ⟨x.o, u1, v1⟩).all (·.oneCell') = true := of_one _ _ _ hA1.one hB1.one
            have hl1 : (ovC ⟨x.o, u1, v1⟩).length = 20 := ov_len (x := ⟨x.o, u1, v1⟩) (hxo)
            skip
            (refine stepD rfl F rfl (o_buildSlice F M rfl rfl rfl (of_build1 (hxo).1 u1 v1) ?_); clear F; clear M; intro bs1 w M a F)
            replace M := M.perm (l' := (bs1, .cells (ovC ⟨x.o, u1, v1⟩).toArray 58 (0, 0)) :: (b11, .cells (ovC y).toArray 58 (0, 0)) :: (b5, .cells (ovC x).toArray 58 (0, 0)) :: ((eu1 ++ ev1) ++ (inn ++ ent))) (by classical exact List.perm_iff_count.2 fun _ => by simp only [List.count_append, List.count_cons, List.count_nil, Nat.add_zero, Nat.zero_add] <;> ac_rfl)
            (refine stepD rfl F rfl (o_append hO M (.cons (.cons (.cons (.app (.app .here))))) (F.ev rfl) (F.ev rfl) (SrcOf.cells' (M.heap .here) (sg_all (by omega)) ho1) (by omega) (by omega) ?_); clear F; clear M; clear hO; intro sv1 ent1 w hO M a F)
            replace M := M.sub (.cons _ (.refl _))
            replace hO : OwnS 58 20 sv1 (zs ++ [(⟨x.o, u1, v1⟩ : OV)]).length (encL ovC (zs ++ [(⟨x.o, u1, v1⟩ : OV)])) ent1 := by
              rw [show (zs ++ [(⟨x.o, u1, v1⟩ : OV)]).length = zs.length + 1 by simp, encL_app, encL_one]; exact hO
            have hI1 : ∀ z ∈ zs ++ [(⟨x.o, u1, v1⟩ : OV)], OwnIn ((eu1 ++ ev1) ++ inn) z := by
              intro z hz'
              rcases List.mem_append.1 hz' with h1 | h1
              · exact (hI z h1).mono fun p hp => List.mem_append_right _ hp
              · simp only [List.mem_singleton] at h1
                subst h1
                exact ⟨eu1, ev1, hA1, hB1, fun p hp => by simp [hp], fun p hp => by simp [hp]⟩
            replace M := M.perm (l' := (b11, .cells (ovC y).toArray 58 (0, 0)) :: (b5, .cells (ovC x).toArray 58 (0, 0)) :: (((eu1 ++ ev1) ++ inn) ++ ent1)) (by classical exact List.perm_iff_count.2 fun _ => by simp only [List.count_append, List.count_cons, List.count_nil, Nat.add_zero, Nat.zero_add] <;> ac_rfl)
            have hzn1 : (zs ++ [(⟨x.o, u1, v1⟩ : OV)]).length = zs.length + 1 := by simp
            clear ho1 hl1
            obtain ⟨q1, c1, hsv1⟩ := hO.slice
            refine stepD rfl F rfl (o_assign (F.ev rfl) ?_); clear F; clear a; intro a F
            with_reducible refine l_nil ?_
            with_reducible refine q_then ?_
            with_reducible refine c_seq ?_
            with_reducible refine c_region ?_
            refine stepD rfl F rfl (o_move (F.ev rfl) ?_); clear F; clear a; intro a F
            refine stepD rfl F rfl (o_eqlT (F.ev rfl) (F.ev rfl) (by omega) ?_); clear F; clear a; intro a F
            with_reducible refine l_nil ?_
            with_reducible refine q_then ?_
            refine c_true F rfl rfl ?_
            with_reducible refine c_exit ?_
            with_reducible refine q_thenX ?_
            with_reducible refine q_inBX ?_
            with_reducible refine q_then ?_
            with_reducible refine c_region ?_
            refine stepD rfl F rfl (o_add (F.ev rfl) (F.ev rfl) (w_i64 (by omega) (by omega)) ?_); clear F; clear a; intro a F
            refine stepD rfl F rfl (o_move (F.ev rfl) ?_); clear F; clear a; intro a F
            with_reducible refine l_nil ?_
            with_reducible refine q_then ?_
            exact ⟨_, by omega, i + 1, true, zs ++ [⟨x.o, u1, v1⟩], _, ent1, _, rfl, by omega, hO, hI1, by simp only [pn] at *; omega, by rw [hct, List.map_append]; exact hP.new hac hk c6 c7, F.only [31, 30, 29, 8, 9, 5, 1] rfl, M.sub (.cons _ (.refl _))⟩
      · refine stepD rfl F rfl (o_assign (F.ev rfl) ?_); clear F; clear a; intro a F
        with_reducible refine l_nil ?_
        with_reducible refine q_then ?_
        with_reducible refine c_seq ?_
        with_reducible refine c_seq ?_
        with_reducible refine c_region ?_
        refine stepD rfl F rfl (o_move (F.ev rfl) ?_); clear F; clear a; intro a F
        refine stepD rfl F rfl (o_eqlF (F.ev rfl) (F.ev rfl) (by omega) ?_); clear F; clear a; intro a F
        refine stepD rfl F rfl (o_move (F.ev rfl) ?_); clear F; clear a; intro a F
        refine stepOff F rfl rfl rfl rfl ?_; clear F; clear a; intro a F
        refine stepOff F rfl rfl rfl rfl ?_; clear F; clear a; intro a F
        refine stepOff F rfl rfl rfl rfl ?_; clear F; clear a; intro a F
        refine stepOff F rfl rfl rfl rfl ?_; clear F; clear a; intro a F
        refine stepOff F rfl rfl rfl rfl ?_; clear F; clear a; intro a F
        refine stepD rfl F rfl (o_pickF (F.ev rfl) (F.ev rfl) ?_); clear F; clear a; intro a F
        with_reducible refine l_nil ?_
        with_reducible refine q_then ?_
        refine c_false F rfl rfl ?_
        with_reducible refine c_skip ?_
        with_reducible refine q_then ?_
        with_reducible refine c_seq ?_
        with_reducible refine c_seq ?_
        with_reducible refine c_region ?_
        refine stepD rfl F rfl (o_move (F.ev rfl) ?_); clear F; clear a; intro a F
        refine stepD rfl F rfl (o_geqT (F.ev rfl) (F.ev rfl) (by omega) ?_); clear F; clear a; intro a F
        refine stepD rfl F rfl (o_move (F.ev rfl) ?_); clear F; clear a; intro a F
        refine stepG rfl F rfl rfl rfl (o_move (F.ev rfl) ?_); clear F; clear a; intro a F
        refine stepG rfl F rfl rfl rfl (o_not (F.ev rfl) ?_); clear F; clear a; intro a F
        refine stepD rfl F rfl (o_pickT (F.ev rfl) (F.ev rfl) ?_); clear F; clear a; intro a F
        with_reducible refine l_nil ?_
        with_reducible refine q_then ?_
        refine c_true F rfl rfl ?_
        with_reducible refine c_seq ?_
        with_reducible refine c_region ?_
        refine stepD rfl F rfl (o_assign (F.ev rfl) ?_); clear F; clear a; intro a F
        with_reducible refine l_nil ?_
        with_reducible refine q_then ?_
        with_reducible refine c_seq ?_
        with_reducible refine c_seq ?_
        with_reducible refine c_region ?_
        refine stepD rfl F rfl (o_move (F.ev rfl) ?_); clear F; clear a; intro a F
        refine stepD rfl F rfl (o_eqlF (F.ev rfl) (F.ev rfl) (by omega) ?_); clear F; clear a; intro a F
        refine stepD rfl F rfl (o_move (F.ev rfl) ?_); clear F; clear a; intro a F
        refine stepOff F rfl rfl rfl rfl ?_; clear F; clear a; intro a F
        refine stepOff F rfl rfl rfl rfl ?_; clear F; clear a; intro a F
        refine stepOff F rfl rfl rfl rfl ?_; clear F; clear a; intro a F
        refine stepOff F rfl rfl rfl rfl ?_; clear F; clear a; intro a F
        refine stepOff F rfl rfl rfl rfl ?_; clear F; clear a; intro a F
        refine stepD rfl F rfl (o_pickF (F.ev rfl) (F.ev rfl) ?_); clear F; clear a; intro a F
        with_reducible refine l_nil ?_
        with_reducible refine q_then ?_
        refine c_false F rfl rfl ?_
        with_reducible refine c_skip ?_
        with_reducible refine q_then ?_
        with_reducible refine c_seq ?_
        with_reducible refine c_region ?_
        refine stepD rfl F rfl (o_move (F.ev rfl) ?_); clear F; clear a; intro a F
        refine stepD rfl F rfl (o_loadA M (F.ev rfl) (by repeat (first | exact .here | apply Has.there)) (by first | assumption | rfl) ?_); clear F; clear a; intro a F
        (refine stepD rfl F rfl (o_call (F.ev rfl) (F.evs rfl) (Cal.mono (rcopyV_c x (hxo) (by omega) (by omega) _ (hxa.later M.ext) ) ?_)); clear F; clear a; rintro _ w ⟨u1, v1, eu1, ev1, rfl, hA1, hB1, N⟩ a F; replace M := M.joins N; clear N)
        have ho1 : (ovC ⟨x.o, u1, v1⟩).all (·.oneCell') = true := of_one _ _ _ hA1.one hB1.one
        have hl1 : (ovC ⟨x.o, u1, v1⟩).length = 20 := ov_len (x := ⟨x.o, u1, v1⟩) (hxo)
        skip
        (refine stepD rfl F rfl (o_buildSlice F M rfl rfl rfl (of_build1 (hxo).1 u1 v1) ?_); clear F; clear M; intro bs1 w M a F)
        replace M := M.perm (l' := (bs1, .cells (ovC ⟨x.o, u1, v1⟩).toArray 58 (0, 0)) :: (b11, .cells (ovC y).toArray 58 (0, 0)) :: (b5, .cells (ovC x).toArray 58 (0, 0)) :: ((eu1 ++ ev1) ++ (inn ++ ent))) (by classical exact List.perm_iff_count.2 fun _ => by simp only [List.count_append, List.count_cons, List.count_nil, Nat.add_zero, Nat.zero_add] <;> ac_rfl)
        (refine stepD rfl F rfl (o_append hO M (.cons (.cons (.cons (.app (.app .here))))) (F.ev rfl) (F.ev rfl) (SrcOf.cells' (M.heap .here) (sg_all (by omega)) ho1) (by omega) (by omega) ?_); clear F; clear M; clear hO; intro sv1 ent1 w hO M a F)
        replace M := M.sub (.cons _ (.refl _))
        replace hO : OwnS 58 20 sv1 (zs ++ [(⟨x.o, u1, v1⟩ : OV)]).length (encL ovC (zs ++ [(⟨x.o, u1, v1⟩ : OV)])) ent1 := by
          rw [show (zs ++ [(⟨x.o, u1, v1⟩ : OV)]).length = zs.length + 1 by simp, encL_app, encL_one]; exact hO
        have hI1 : ∀ z ∈ zs ++ [(⟨x.o, u1, v1⟩ : OV)], OwnIn ((eu1 ++ ev1) ++ inn) z := by
          intro z hz'
          rcases List.mem_append.1 hz' with h1 | h1
          · exact (hI z h1).mono fun p hp => List.mem_append_right _ hp
          · simp only [List.mem_singleton] at h1
            subst h1
            exact ⟨eu1, ev1, hA1, hB1, fun p hp => by simp [hp], fun p hp => by simp [hp]⟩
        replace M := M.perm (l' := (b11, .cells (ovC y).toArray 58 (0, 0)) :: (b5, .cells (ovC x).toArray 58 (0, 0)) :: (((eu1 ++ ev1) ++ inn) ++ ent1)) (by classical exact List.perm_iff_count.2 fun _ => by simp only [List.count_append, List.count_cons, List.count_nil, Nat.add_zero, Nat.zero_add] <;> ac_rfl)
        have hzn1 : (zs ++ [(⟨x.o, u1, v1⟩ : OV)]).length = zs.length + 1 := by simp
        clear ho1 hl1
        obtain ⟨q1, c1, hsv1⟩ := hO.slice
        subst hsv1
        refine stepD rfl F rfl (o_assign (F.ev rfl) ?_); clear F; clear a; intro a F
        with_reducible refine l_nil ?_
        with_reducible refine q_then ?_
        with_reducible refine c_seq ?_
        with_reducible refine c_region ?_
        refine stepD rfl F rfl (o_move (F.ev rfl) ?_); clear F; clear a; intro a F
        refine stepD rfl F rfl (o_eqlF (F.ev rfl) (F.ev rfl) (by omega) ?_); clear F; clear a; intro a F
        with_reducible refine l_nil ?_
        with_reducible refine q_then ?_
        refine c_false F rfl rfl ?_
        with_reducible refine c_skip ?_
        with_reducible refine q_then ?_
        with_reducible refine c_region ?_
        refine stepD rfl F rfl (o_move (F.ev rfl) ?_); clear F; clear a; intro a F
        refine stepD rfl F rfl (o_loadA M (F.ev rfl) (by repeat (first | exact .here | apply Has.there)) (by first | assumption | rfl) ?_); clear F; clear a; intro a F
        (refine stepD rfl F rfl (o_call (F.ev rfl) (F.evs rfl) (Cal.mono (rcopyV_c y (hyo) (by omega) (by omega) _ (hya.later M.ext) ) ?_)); clear F; clear a; rintro _ w ⟨u2, v2, eu2, ev2, rfl, hA2, hB2, N⟩ a F; replace M := M.joins N; clear N)
        have ho2 : (ovC ⟨y.o, u2, v2⟩).all (·.oneCell') = true := of_one _ _ _ hA2.one hB2.one
        have hl2 : (ovC ⟨y.o, u2, v2⟩).length = 20 := ov_len (x := ⟨y.o, u2, v2⟩) (hyo)
        skip
        (refine stepD rfl F rfl (o_buildSlice F M rfl rfl rfl (of_build1 (hyo).1 u2 v2) ?_); clear F; clear M; intro bs2 w M a F)
        replace M := M.perm (l' := (bs2, .cells (ovC ⟨y.o, u2, v2⟩).toArray 58 (0, 0)) :: (b11, .cells (ovC y).toArray 58 (0, 0)) :: (b5, .cells (ovC x).toArray 58 (0, 0)) :: ((eu2 ++ ev2) ++ (((eu1 ++ ev1) ++ inn) ++ ent1))) (by classical exact List.perm_iff_count.2 fun _ => by simp only [List.count_append, List.count_cons, List.count_nil, Nat.add_zero, Nat.zero_add] <;> ac_rfl)
        (refine stepD rfl F rfl (o_append hO M (.cons (.cons (.cons (.app (.app .here))))) (F.ev rfl) (F.ev rfl) (SrcOf.cells' (M.heap .here) (sg_all (by omega)) ho2) (by omega) (by omega) ?_); clear F; clear M; clear hO; intro sv2 ent2 w hO M a F)
        replace M := M.sub (.cons _ (.refl _))
        replace hO : OwnS 58 20 sv2 ((zs ++ [(⟨x.o, u1, v1⟩ : OV)]) ++ [(⟨y.o, u2, v2⟩ : OV)]).length (encL ovC ((zs ++ [(⟨x.o, u1, v1⟩ : OV)]) ++ [(⟨y.o, u2, v2⟩ : OV)])) ent2 := by
          rw [show ((zs ++ [(⟨x.o, u1, v1⟩ : OV)]) ++ [(⟨y.o, u2, v2⟩ : OV)]).length = (zs ++ [(⟨x.o, u1, v1⟩ : OV)]).length + 1 by simp, encL_app, encL_one]; exact hO
        have hI2 : ∀ z ∈ (zs ++ [(⟨x.o, u1, v1⟩ : OV)]) ++ [(⟨y.o, u2, v2⟩ : OV)], OwnIn ((eu2 ++ ev2) ++ ((eu1 ++ ev1) ++ inn)) z := by
          intro z hz'
          rcases List.mem_append.1 hz' with h1 | h1
          · exact (hI1 z h1).mono fun p hp => List.mem_append_right _ hp
          · simp only [List.mem_singleton] at h1
            subst h1
            exact ⟨eu2, ev2, hA2, hB2, fun p hp => by simp [hp], fun p hp => by simp [hp]⟩
        replace M := M.perm (l' := (b11, .cells (ovC y).toArray 58 (0, 0)) :: (b5, .cells (ovC x).toArray 58 (0, 0)) :: (((eu2 ++ ev2) ++ ((eu1 ++ ev1) ++ inn)) ++ ent2)) (by classical exact List.perm_iff_count.2 fun _ => by simp only [List.count_append, List.count_cons, List.count_nil, Nat.add_zero, Nat.zero_add] <;> ac_rfl)
        have hzn2 : ((zs ++ [(⟨x.o, u1, v1⟩ : OV)]) ++ [(⟨y.o, u2, v2⟩ : OV)]).length = (zs ++ [(⟨x.o, u1, v1⟩ : OV)]).length + 1 := by simp
        clear ho2 hl2
        obtain ⟨q2, c2, hsv2⟩ := hO.slice
        refine stepD rfl F rfl (o_assign (F.ev rfl) ?_); clear F; clear a; intro a F
        with_reducible refine l_nil ?_
        with_reducible refine q_inB ?_
        with_reducible refine q_then ?_
        with_reducible refine c_region ?_
        refine stepD rfl F rfl (o_add (F.ev rfl) (F.ev rfl) (w_i64 (by omega) (by omega)) ?_); clear F; clear a; intro a F
        refine stepD rfl F rfl (o_move (F.ev rfl) ?_); clear F; clear a; intro a F
        with_reducible refine l_nil ?_
        with_reducible refine q_then ?_
        exact ⟨_, by omega, i + 1, true, (zs ++ [⟨x.o, u1, v1⟩]) ++ [⟨y.o, u2, v2⟩], _, ent2, _, rfl, by omega, hO, hI2, by simp only [pn] at *; omega, by rw [hct, List.map_append, List.map_append]; exact hP.hi hac hk, F.only [31, 30, 29, 8, 9, 5, 1] rfl, M.sub (.cons _ (.refl _))⟩
    · have hk : 0 < cmpL y.o.h.rt x.o.h.rt := by
        have := hP
        simp only [Pl, if_true] at this
        exact this.2 _ List.mem_cons_self
      refine stepD rfl F rfl (o_assign (F.ev rfl) ?_); clear F; clear a; intro a F
      with_reducible refine l_nil ?_
      with_reducible refine q_then ?_
      with_reducible refine c_seq ?_
      with_reducible refine c_seq ?_
      with_reducible refine c_region ?_
      refine stepD rfl F rfl (o_move (F.ev rfl) ?_); clear F; clear a; intro a F
      refine stepD rfl F rfl (o_eqlF (F.ev rfl) (F.ev rfl) (by omega) ?_); clear F; clear a; intro a F
      refine stepD rfl F rfl (o_move (F.ev rfl) ?_); clear F; clear a; intro a F
      refine stepOff F rfl rfl rfl rfl ?_; clear F; clear a; intro a F
      refine stepOff F rfl rfl rfl rfl ?_; clear F; clear a; intro a F
      refine stepOff F rfl rfl rfl rfl ?_; clear F; clear a; intro a F
      refine stepOff F rfl rfl rfl rfl ?_; clear F; clear a; intro a F
      refine stepOff F rfl rfl rfl rfl ?_; clear F; clear a; intro a F
      refine stepD rfl F rfl (o_pickF (F.ev rfl) (F.ev rfl) ?_); clear F; clear a; intro a F
      with_reducible refine l_nil ?_
      with_reducible refine q_then ?_
      refine c_false F rfl rfl ?_
      with_reducible refine c_skip ?_
      with_reducible refine q_then ?_
      with_reducible refine c_seq ?_
      with_reducible refine c_seq ?_
      with_reducible refine c_region ?_
      refine stepD rfl F rfl (o_move (F.ev rfl) ?_); clear F; clear a; intro a F
      refine stepD rfl F rfl (o_geqT (F.ev rfl) (F.ev rfl) (by omega) ?_); clear F; clear a; intro a F
      refine stepD rfl F rfl (o_move (F.ev rfl) ?_); clear F; clear a; intro a F
      refine stepG rfl F rfl rfl rfl (o_move (F.ev rfl) ?_); clear F; clear a; intro a F
      refine stepG rfl F rfl rfl rfl (o_not (F.ev rfl) ?_); clear F; clear a; intro a F
      refine stepD rfl F rfl (o_pickT (F.ev rfl) (F.ev rfl) ?_); clear F; clear a; intro a F
      with_reducible refine l_nil ?_
      with_reducible refine q_then ?_
      refine c_false F rfl rfl ?_
      with_reducible refine c_skip ?_
      with_reducible refine q_then ?_
      with_reducible refine c_region ?_
      refine stepD rfl F rfl (o_move (F.ev rfl) ?_); clear F; clear a; intro a F
      refine stepD rfl F rfl (o_loadA M (F.ev rfl) (by repeat (first | exact .here | apply Has.there)) (by first | assumption | rfl) ?_); clear F; clear a; intro a F
      (refine stepD rfl F rfl (o_call (F.ev rfl) (F.evs rfl) (Cal.mono (rcopyV_c y (hyo) (by omega) (by omega) _ (hya.later M.ext) ) ?_)); clear F; clear a; rintro _ w ⟨u1, v1, eu1, ev1, rfl, hA1, hB1, N⟩ a F; replace M := M.joins N; clear N)
      have ho1 : (ovC ⟨y.o, u1, v1⟩).all (·.oneCell') = true := of_one _ _ _ hA1.one hB1.one
      have hl1 : (ovC ⟨y.o, u1, v1⟩).length = 20 := ov_len (x := ⟨y.o, u1, v1⟩) (hyo)
      skip
      (refine stepD rfl F rfl (o_buildSlice F M rfl rfl rfl (of_build1 (hyo).1 u1 v1) ?_); clear F; clear M; intro bs1 w M a F)
      replace M := M.perm (l' := (bs1, .cells (ovC ⟨y.o, u1, v1⟩).toArray 58 (0, 0)) :: (b11, .cells (ovC y).toArray 58 (0, 0)) :: (b5, .cells (ovC x).toArray 58 (0, 0)) :: ((eu1 ++ ev1) ++ (inn ++ ent))) (by classical exact List.perm_iff_count.2 fun _ => by simp only [List.count_append, List.count_cons, List.count_nil, Nat.add_zero, Nat.zero_add] <;> ac_rfl)
      (refine stepD rfl F rfl (o_append hO M (.cons (.cons (.cons (.app (.app .here))))) (F.ev rfl) (F.ev rfl) (SrcOf.cells' (M.heap .here) (sg_all (by omega)) ho1) (by omega) (by omega) ?_); clear F; clear M; clear hO; intro sv1 ent1 w hO M a F)
      replace M := M.sub (.cons _ (.refl _))
      replace hO : OwnS 58 20 sv1 (zs ++ [(⟨y.o, u1, v1⟩ : OV)]).length (encL ovC (zs ++ [(⟨y.o, u1, v1⟩ : OV)])) ent1 := by
        rw [show (zs ++ [(⟨y.o, u1, v1⟩ : OV)]).length = zs.length + 1 by simp, encL_app, encL_one]; exact hO
      have hI1 : ∀ z ∈ zs ++ [(⟨y.o, u1, v1⟩ : OV)], OwnIn ((eu1 ++ ev1) ++ inn) z := by
        intro z hz'
        rcases List.mem_append.1 hz' with h1 | h1
        · exact (hI z h1).mono fun p hp => List.mem_append_right _ hp
        · simp only [List.mem_singleton] at h1
          subst h1
          exact ⟨eu1, ev1, hA1, hB1, fun p hp => by simp [hp], fun p hp => by simp [hp]⟩
      replace M := M.perm (l' := (b11, .cells (ovC y).toArray 58 (0, 0)) :: (b5, .cells (ovC x).toArray 58 (0, 0)) :: (((eu1 ++ ev1) ++ inn) ++ ent1)) (by classical exact List.perm_iff_count.2 fun _ => by simp only [List.count_append, List.count_cons, List.count_nil, Nat.add_zero, Nat.zero_add] <;> ac_rfl)
      have hzn1 : (zs ++ [(⟨y.o, u1, v1⟩ : OV)]).length = zs.length + 1 := by simp
      clear ho1 hl1
      obtain ⟨q1, c1, hsv1⟩ := hO.slice
      refine stepD rfl F rfl (o_assign (F.ev rfl) ?_); clear F; clear a; intro a F
      with_reducible refine l_nil ?_
      with_reducible refine q_inB ?_
      with_reducible refine q_then ?_
      with_reducible refine c_region ?_
      refine stepD rfl F rfl (o_add (F.ev rfl) (F.ev rfl) (w_i64 (by omega) (by omega)) ?_); clear F; clear a; intro a F
      refine stepD rfl F rfl (o_move (F.ev rfl) ?_); clear F; clear a; intro a F
      with_reducible refine l_nil ?_
      with_reducible refine q_then ?_
      exact ⟨_, by omega, i + 1, true, zs ++ [⟨y.o, u1, v1⟩], _, ent1, _, rfl, by omega, hO, hI1, by simp only [pn] at *; omega, by rw [hct, List.map_append]; exact hP.on, F.only [31, 30, 29, 8, 9, 5, 1] rfl, M.sub (.cons _ (.refl _))⟩
  · obtain rfl : i = xs.length := by omega
    have hz0 : (xs.map (·.o)).drop xs.length = [] := List.drop_eq_nil_of_le (by simp)
    have hz1 : (xs.map (·.o)).take xs.length = xs.map (·.o) := List.take_of_length_le (by simp)
    rw [hz0, hz1, show curO [] now = [] from rfl] at hP
    cases placed
    · have hins := hP.end
      with_reducible refine c_seq ?_
      with_reducible refine c_region ?_
      refine stepD rfl F rfl (o_lssF (F.ev rfl) (F.ev rfl) (by omega) ?_); clear F; clear a; intro a F
      with_reducible refine l_nil ?_
      with_reducible refine q_then ?_
      with_reducible refine c_seq ?_
      refine c_false F rfl rfl ?_
      with_reducible refine c_exit ?_
      with_reducible refine q_thenX ?_
      with_reducible refine q_thenX ?_
      with_reducible refine q_inBX ?_
      with_reducible refine q_then ?_
      with_reducible refine c_seq ?_
      with_reducible refine c_seq ?_
      with_reducible refine c_region ?_
      refine stepD rfl F rfl (o_move (F.ev rfl) ?_); clear F; clear a; intro a F
      refine stepD rfl F rfl (o_not (F.ev rfl) ?_); clear F; clear a; intro a F
      with_reducible refine l_nil ?_
      with_reducible refine q_then ?_
      refine c_true F rfl rfl ?_
      with_reducible refine c_region ?_
      refine stepD rfl F rfl (o_move (F.ev rfl) ?_); clear F; clear a; intro a F
      refine stepD rfl F rfl (o_loadA M (F.ev rfl) (by repeat (first | exact .here | apply Has.there)) (by first | assumption | rfl) ?_); clear F; clear a; intro a F
      (refine stepD rfl F rfl (o_call (F.ev rfl) (F.evs rfl) (Cal.mono (rcopyV_c x (hxo) (by omega) (by omega) _ (hxa.later M.ext) ) ?_)); clear F; clear a; rintro _ w ⟨u1, v1, eu1, ev1, rfl, hA1, hB1, N⟩ a F; replace M := M.joins N; clear N)
      have ho1 : (ovC ⟨x.o, u1, v1⟩).all (·.oneCell') = true := of_one _ _ _ hA1.one hB1.one
      have hl1 : (ovC ⟨x.o, u1, v1⟩).length = 20 := ov_len (x := ⟨x.o, u1, v1⟩) (hxo)
      skip
      (refine stepD rfl F rfl (o_buildSlice F M rfl rfl rfl (of_build1 (hxo).1 u1 v1) ?_); clear F; clear M; intro bs1 w M a F)
      replace M := M.perm (l' := (bs1, .cells (ovC ⟨x.o, u1, v1⟩).toArray 58 (0, 0)) :: (b5, .cells (ovC x).toArray 58 (0, 0)) :: ((eu1 ++ ev1) ++ (inn ++ ent))) (by classical exact List.perm_iff_count.2 fun _ => by simp only [List.count_append, List.count_cons, List.count_nil, Nat.add_zero, Nat.zero_add] <;> ac_rfl)
      (refine stepD rfl F rfl (o_append hO M (.cons (.cons (.app (.app .here)))) (F.ev rfl) (F.ev rfl) (SrcOf.cells' (M.heap .here) (sg_all (by omega)) ho1) (by omega) (by omega) ?_); clear F; clear M; clear hO; intro sv1 ent1 w hO M a F)
      replace M := M.sub (.cons _ (.refl _))
      replace hO : OwnS 58 20 sv1 (zs ++ [(⟨x.o, u1, v1⟩ : OV)]).length (encL ovC (zs ++ [(⟨x.o, u1, v1⟩ : OV)])) ent1 := by
        rw [show (zs ++ [(⟨x.o, u1, v1⟩ : OV)]).length = zs.length + 1 by simp, encL_app, encL_one]; exact hO
      have hI1 : ∀ z ∈ zs ++ [(⟨x.o, u1, v1⟩ : OV)], OwnIn ((eu1 ++ ev1) ++ inn) z := by
        intro z hz'
        rcases List.mem_append.1 hz' with h1 | h1
        · exact (hI z h1).mono fun p hp => List.mem_append_right _ hp
        · simp only [List.mem_singleton] at h1
          subst h1
          exact ⟨eu1, ev1, hA1, hB1, fun p hp => by simp [hp], fun p hp => by simp [hp]⟩
      replace M := M.perm (l' := (b5, .cells (ovC x).toArray 58 (0, 0)) :: (((eu1 ++ ev1) ++ inn) ++ ent1)) (by classical exact List.perm_iff_count.2 fun _ => by simp only [List.count_append, List.count_cons, List.count_nil, Nat.add_zero, Nat.zero_add] <;> ac_rfl)
      have hzn1 : (zs ++ [(⟨x.o, u1, v1⟩ : OV)]).length = zs.length + 1 := by simp
      clear ho1 hl1
      obtain ⟨q1, c1, hsv1⟩ := hO.slice
      subst hsv1
      rw [show (zs.map (·.o)) ++ [x.o] = (zs ++ [(⟨x.o, u1, v1⟩ : OV)]).map (·.o) by simp] at hins
      have hacc := hfl _ hins
      dsimp only at hacc
      by_cases c9 : 8 < (zs ++ [(⟨x.o, u1, v1⟩ : OV)]).length
      · rw [if_pos (by simpa using c9)] at hacc
        rw [hacc]
        refine stepD rfl F rfl (o_assign (F.ev rfl) ?_); clear F; clear a; intro a F
        with_reducible refine l_nil ?_
        with_reducible refine q_then ?_
        with_reducible refine c_seq ?_
        with_reducible refine c_seq ?_
        with_reducible refine c_region ?_
        refine stepD rfl F rfl (o_move (F.ev rfl) ?_); clear F; clear a; intro a F
        refine stepD rfl F rfl (o_lenSl (F.ev rfl) ?_); clear F; clear a; intro a F
        refine stepD rfl F rfl (o_gtrT (F.ev rfl) (F.ev rfl) (by omega) ?_); clear F; clear a; intro a F
        with_reducible refine l_nil ?_
        with_reducible refine q_then ?_
        refine c_true F rfl rfl ?_
        with_reducible refine c_seq ?_
        with_reducible refine c_region ?_
        refine stepD rfl F rfl (o_assign (F.ev rfl) ?_); clear F; clear a; intro a F
        refine stepD rfl F rfl (o_assign (F.ev rfl) ?_); clear F; clear a; intro a F
        with_reducible refine l_nil ?_
        with_reducible refine q_then ?_
        with_reducible refine c_ret ?_
        with_reducible refine q_thenR ?_
        refine p_ret F rfl (.cons (.tmp (F.ev rfl)) (.cons (.tmp (F.ev rfl)) .nil)) ?_
        exact ⟨_, rfl, OffsN.nil _ _, M.ext⟩
      · rw [if_neg (by simpa using c9)] at hacc
        rw [hacc]
        refine stepD rfl F rfl (o_assign (F.ev rfl) ?_); clear F; clear a; intro a F
        with_reducible refine l_nil ?_
        with_reducible refine q_then ?_
        with_reducible refine c_seq ?_
        with_reducible refine c_seq ?_
        with_reducible refine c_region ?_
        refine stepD rfl F rfl (o_move (F.ev rfl) ?_); clear F; clear a; intro a F
        refine stepD rfl F rfl (o_lenSl (F.ev rfl) ?_); clear F; clear a; intro a F
        refine stepD rfl F rfl (o_gtrF (F.ev rfl) (F.ev rfl) (by omega) ?_); clear F; clear a; intro a F
        with_reducible refine l_nil ?_
        with_reducible refine q_then ?_
        refine c_false F rfl rfl ?_
        with_reducible refine c_skip ?_
        with_reducible refine q_then ?_
        with_reducible refine c_seq ?_
        with_reducible refine c_region ?_
        refine stepD rfl F rfl (o_move (F.ev rfl) ?_); clear F; clear a; intro a F
        refine stepD rfl F rfl (o_assign (F.ev rfl) ?_); clear F; clear a; intro a F
        refine stepD rfl F rfl (o_assign (F.ev rfl) ?_); clear F; clear a; intro a F
        with_reducible refine l_nil ?_
        with_reducible refine q_then ?_
        with_reducible refine c_ret ?_
        refine p_ret F rfl (.cons (.tmp (F.ev rfl)) (.cons (.tmp (F.ev rfl)) .nil)) ?_
        exact ⟨_, rfl, ⟨zs ++ [(⟨x.o, u1, v1⟩ : OV)], by simp, hO.slAt M fun p hp => by simp [hp], fun z hz => (hI1 z hz).at M fun p hp => List.mem_cons_of_mem _ (List.mem_append_left _ hp), hO.newV M fun p hp => by simp [hp], fun z hz => (hI1 z hz).newV M fun p hp => List.mem_cons_of_mem _ (List.mem_append_left _ hp)⟩, M.ext⟩
    · have hins := hP.endT
      have hacc := hfl _ hins
      dsimp only at hacc
      by_cases c9 : 8 < (zs).length
      · rw [if_pos (by simpa using c9)] at hacc
        rw [hacc]
        with_reducible refine c_seq ?_
        with_reducible refine c_region ?_
        refine stepD rfl F rfl (o_lssF (F.ev rfl) (F.ev rfl) (by omega) ?_); clear F; clear a; intro a F
        with_reducible refine l_nil ?_
        with_reducible refine q_then ?_
        with_reducible refine c_seq ?_
        refine c_false F rfl rfl ?_
        with_reducible refine c_exit ?_
        with_reducible refine q_thenX ?_
        with_reducible refine q_thenX ?_
        with_reducible refine q_inBX ?_
        with_reducible refine q_then ?_
        with_reducible refine c_seq ?_
        with_reducible refine c_seq ?_
        with_reducible refine c_region ?_
        refine stepD rfl F rfl (o_move (F.ev rfl) ?_); clear F; clear a; intro a F
        refine stepD rfl F rfl (o_not (F.ev rfl) ?_); clear F; clear a; intro a F
        with_reducible refine l_nil ?_
        with_reducible refine q_then ?_
        refine c_false F rfl rfl ?_
        with_reducible refine c_skip ?_
        with_reducible refine q_then ?_
        with_reducible refine c_seq ?_
        with_reducible refine c_seq ?_
        with_reducible refine c_region ?_
        refine stepD rfl F rfl (o_move (F.ev rfl) ?_); clear F; clear a; intro a F
        refine stepD rfl F rfl (o_lenSl (F.ev rfl) ?_); clear F; clear a; intro a F
        refine stepD rfl F rfl (o_gtrT (F.ev rfl) (F.ev rfl) (by omega) ?_); clear F; clear a; intro a F
        with_reducible refine l_nil ?_
        with_reducible refine q_then ?_
        refine c_true F rfl rfl ?_
        with_reducible refine c_seq ?_
        with_reducible refine c_region ?_
        refine stepD rfl F rfl (o_assign (F.ev rfl) ?_); clear F; clear a; intro a F
        refine stepD rfl F rfl (o_assign (F.ev rfl) ?_); clear F; clear a; intro a F
        with_reducible refine l_nil ?_
        with_reducible refine q_then ?_
        with_reducible refine c_ret ?_
        with_reducible refine q_thenR ?_
        refine p_ret F rfl (.cons (.tmp (F.ev rfl)) (.cons (.tmp (F.ev rfl)) .nil)) ?_
        exact ⟨_, rfl, OffsN.nil _ _, M.ext⟩
      · rw [if_neg (by simpa using c9)] at hacc
        rw [hacc]
        with_reducible refine c_seq ?_
        with_reducible refine c_region ?_
        refine stepD rfl F rfl (o_lssF (F.ev rfl) (F.ev rfl) (by omega) ?_); clear F; clear a; intro a F
        with_reducible refine l_nil ?_
        with_reducible refine q_then ?_
        with_reducible refine c_seq ?_
        refine c_false F rfl rfl ?_
        with_reducible refine c_exit ?_
        with_reducible refine q_thenX ?_
        with_reducible refine q_thenX ?_
        with_reducible refine q_inBX ?_
        with_reducible refine q_then ?_
        with_reducible refine c_seq ?_
        with_reducible refine c_seq ?_
        with_reducible refine c_region ?_
        refine stepD rfl F rfl (o_move (F.ev rfl) ?_); clear F; clear a; intro a F
        refine stepD rfl F rfl (o_not (F.ev rfl) ?_); clear F; clear a; intro a F
        with_reducible refine l_nil ?_
        with_reducible refine q_then ?_
        refine c_false F rfl rfl ?_
        with_reducible refine c_skip ?_
        with_reducible refine q_then ?_
        with_reducible refine c_seq ?_
        with_reducible refine c_seq ?_
        with_reducible refine c_region ?_
        refine stepD rfl F rfl (o_move (F.ev rfl) ?_); clear F; clear a; intro a F
        refine stepD rfl F rfl (o_lenSl (F.ev rfl) ?_); clear F; clear a; intro a F
        refine stepD rfl F rfl (o_gtrF (F.ev rfl) (F.ev rfl) (by omega) ?_); clear F; clear a; intro a F
        with_reducible refine l_nil ?_
        with_reducible refine q_then ?_
        refine c_false F rfl rfl ?_
        with_reducible refine c_skip ?_
        with_reducible refine q_then ?_
        with_reducible refine c_seq ?_
        with_reducible refine c_region ?_
        refine stepD rfl F rfl (o_move (F.ev rfl) ?_); clear F; clear a; intro a F
        refine stepD rfl F rfl (o_assign (F.ev rfl) ?_); clear F; clear a; intro a F
        refine stepD rfl F rfl (o_assign (F.ev rfl) ?_); clear F; clear a; intro a F
        with_reducible refine l_nil ?_
        with_reducible refine q_then ?_
        with_reducible refine c_ret ?_
        refine p_ret F rfl (.cons (.tmp (F.ev rfl)) (.cons (.tmp (F.ev rfl)) .nil)) ?_
        exact ⟨_, rfl, ⟨zs, by simp, hO.slAt M fun p hp => by simp [hp], fun z hz => (hI z hz).at M fun p hp => List.mem_cons_of_mem _ (List.mem_append_left _ hp), hO.newV M fun p hp => by simp [hp], fun z hz => (hI z hz).newV M fun p hp => List.mem_cons_of_mem _ (List.mem_append_left _ hp)⟩, M.ext⟩
end Go.Proofs.Ytainnefmobfcjaa

/-! FC -/
/-
  multihoplaw23.accepts: it answers true.
-/
namespace Go.Proofs.Ytainnefmobfcjaa
set_option linter.unusedVariables false
set_option linter.unusedSimpArgs false
open Go.RowKit
attribute [local irreducible] OpTo wpListIn Code.wpIn MW Cal

set_option maxHeartbeats 2000000 in
theorem equalPi_c (ps : List PInf) (hps : ∀ p ∈ ps, IsPi p) (hlen : ps.length ≤ 1000) (u v : Value) (W : World) (hu : SlAt W 20 u ps.length (pisC ps)) (hv : SlAt W 20 v ps.length (pisC ps)) :
    Cal Try.prog 66 [u, v].toArray W fun r w' => r = .bool true ∧ Ext [] W w' := by
  obtain ⟨q1, cap1, rfl, hc1, hn1, hl1, hm1⟩ := hu
  obtain ⟨q2, cap2, rfl, hc2, hn2, hl2, hm2⟩ := hv
  refine fn_ofM (n := 26) [] Try.func66 rfl rfl rfl ?_
  intro a w F M hwW
  with_reducible refine c_seq ?_
  with_reducible refine c_region ?_
  refine stepD rfl F rfl (o_assign (F.ev rfl) ?_); clear F; clear a; intro a F
  with_reducible refine l_nil ?_
  with_reducible refine q_then ?_
  with_reducible refine c_seq ?_
  with_reducible refine c_seq ?_
  with_reducible refine c_region ?_
  refine stepD rfl F rfl (o_move (F.ev rfl) ?_); clear F; clear a; intro a F
  refine stepD rfl F rfl (o_lenSl (F.ev rfl) ?_); clear F; clear a; intro a F
  refine stepD rfl F rfl (o_move (F.ev rfl) ?_); clear F; clear a; intro a F
  refine stepD rfl F rfl (o_lenSl (F.ev rfl) ?_); clear F; clear a; intro a F
  refine stepD rfl F rfl (o_neqF (F.ev rfl) (F.ev rfl) (by omega) ?_); clear F; clear a; intro a F
  with_reducible refine l_nil ?_
  with_reducible refine q_then ?_
  refine c_false F rfl rfl ?_
  with_reducible refine c_skip ?_
  with_reducible refine q_then ?_
  with_reducible refine c_seq ?_
  with_reducible refine c_seq ?_
  with_reducible refine c_region ?_
  refine stepD rfl F rfl (o_move (F.ev rfl) ?_); clear F; clear a; intro a F
  refine stepD rfl F rfl (o_lenSl (F.ev rfl) ?_); clear F; clear a; intro a F
  refine stepD rfl F rfl (o_move (F.ev rfl) ?_); clear F; clear a; intro a F
  with_reducible refine l_nil ?_
  with_reducible refine q_then ?_
  with_reducible refine c_block ?_
  refine c_loop (fun m a w => ∃ i : Nat, m = ps.length - i ∧ i ≤ ps.length ∧ Frm a 26 [] [(13, .int .i64 i), (12, .int .i64 ps.length), (0, .slice q1 ps.length cap1), (1, .slice q2 ps.length cap2)] ∧ Mem [] W w []) ps.length ⟨0, rfl, by omega, F.only [13, 12, 0, 1] rfl, M⟩ ?_
  clear F M
  rintro m a w ⟨i, hm', hi, F, M⟩
  by_cases hlt : i < ps.length
  · obtain ⟨b, o, cs, t, fz, rfl, hb, hs⟩ := hm1 (by omega)
    obtain ⟨b', o', cs', t', fz', rfl, hb', hs'⟩ := hm2 (by omega)
    obtain ⟨p, hp0⟩ : ∃ p, p = ps[i] := ⟨_, rfl⟩
    have hpi : IsPi p := by rw [hp0]; exact hps _ (List.getElem_mem hlt)
    have f1 : seg cs (o + (i : Int).toNat * 20) 20 = some (piC p) := by rw [hp0]; exact seg_el (pis_len hps) hs hlt (by omega)
    have f2 : seg cs' (o' + (i : Int).toNat * 20) 20 = some (piC p) := by rw [hp0]; exact seg_el (pis_len hps) hs' hlt (by omega)
    have f3 := pi_fits hpi
    have f4 : eqVs (piC p) (piC p) = true := by rw [pi_eq hpi hpi]; simp
    with_reducible refine c_seq ?_
    with_reducible refine c_region ?_
    refine stepD rfl F rfl (o_lssT (F.ev rfl) (F.ev rfl) (by omega) ?_); clear F; clear a; intro a F
    with_reducible refine l_nil ?_
    with_reducible refine q_then ?_
    with_reducible refine c_seq ?_
    refine c_true F rfl rfl ?_
    with_reducible refine c_skip ?_
    with_reducible refine q_then ?_
    with_reducible refine c_seq ?_
    with_reducible refine c_block ?_
    with_reducible refine c_seq ?_
    with_reducible refine c_region ?_
    refine stepD rfl F rfl (o_move (F.ev rfl) ?_); clear F; clear a; intro a F
    refine stepD rfl F rfl (o_assign (F.ev rfl) ?_); clear F; clear a; intro a F
    with_reducible refine l_nil ?_
    with_reducible refine q_then ?_
    with_reducible refine c_seq ?_
    replace F := F.only [13, 12, 0, 1, 5] rfl
    refine c_draw 8 F (by kernel_rfl) ?_
    intro w1 hE hok
    have M1 := M.later hE
    refine mK hok rfl rfl (fun a' w' F' E' => o_move (F'.ev rfl) ⟨Ext.refl _ _, rfl⟩) ?_
    refine mK hok rfl rfl (fun a' w' F' E' => o_move (F'.ev rfl) ⟨Ext.refl _ _, rfl⟩) ?_
    refine mK hok rfl rfl (fun a' w' F' E' => o_indexSl (F'.ev rfl) (F'.ev rfl) (by omega) (by omega) ⟨Ext.refl _ _, rfl⟩) ?_
    refine mK hok rfl rfl (fun a' w' F' E' => o_loadWA (M1.later E') (F'.ev rfl) (by assumption) (by first | assumption | rfl) ⟨Ext.refl _ _, rfl⟩) ?_
    refine mK hok rfl rfl (fun a' w' F' E' => o_move (F'.ev rfl) ⟨Ext.refl _ _, rfl⟩) ?_
    refine mK hok rfl rfl (fun a' w' F' E' => o_move (F'.ev rfl) ⟨Ext.refl _ _, rfl⟩) ?_
    refine mK hok rfl rfl (fun a' w' F' E' => o_indexSl (F'.ev rfl) (F'.ev rfl) (by omega) (by omega) ⟨Ext.refl _ _, rfl⟩) ?_
    refine mK hok rfl rfl (fun a' w' F' E' => o_loadWA (M1.later E') (F'.ev rfl) (by assumption) (by first | assumption | rfl) ⟨Ext.refl _ _, rfl⟩) ?_
    (refine mDone rfl rfl ?_; clear F; clear M; intro a w F hE2 hX hTT hDD hPP; have M := M1.later hE2; clear M1; clear hX; clear hE2; clear hok; clear hE; clear hTT; clear hDD; clear hPP; (try dsimp only at F))
    refine stepD rfl F rfl (o_neqAF (F.ev rfl) (F.ev rfl) (by first | assumption | rfl) (by first | assumption | rfl) (by assumption) ?_); clear F; clear a; intro a F
    with_reducible refine l_nil ?_
    with_reducible refine q_then ?_
    refine c_false F rfl rfl ?_
    with_reducible refine c_skip ?_
    with_reducible refine q_inB ?_
    with_reducible refine q_then ?_
    with_reducible refine c_region ?_
    refine stepD rfl F rfl (o_add (F.ev rfl) (F.ev rfl) (w_i64 (by omega) (by omega)) ?_); clear F; clear a; intro a F
    refine stepD rfl F rfl (o_move (F.ev rfl) ?_); clear F; clear a; intro a F
    with_reducible refine l_nil ?_
    with_reducible refine q_then ?_
    exact ⟨_, by omega, i + 1, rfl, by omega, F.only [13, 12, 0, 1] rfl, M⟩
  · obtain rfl : i = ps.length := by omega
    with_reducible refine c_seq ?_
    with_reducible refine c_region ?_
    refine stepD rfl F rfl (o_lssF (F.ev rfl) (F.ev rfl) (by omega) ?_); clear F; clear a; intro a F
    with_reducible refine l_nil ?_
    with_reducible refine q_then ?_
    with_reducible refine c_seq ?_
    refine c_false F rfl rfl ?_
    with_reducible refine c_exit ?_
    with_reducible refine q_thenX ?_
    with_reducible refine q_thenX ?_
    with_reducible refine q_inBX ?_
    with_reducible refine q_then ?_
    with_reducible refine c_seq ?_
    with_reducible refine c_region ?_
    refine stepD rfl F rfl (o_assign (F.ev rfl) ?_); clear F; clear a; intro a F
    with_reducible refine l_nil ?_
    with_reducible refine q_then ?_
    with_reducible refine c_ret ?_
    refine p_ret F rfl (.cons (.tmp (F.ev rfl)) .nil) ?_
    exact ⟨rfl, M.ext⟩

set_option maxHeartbeats 2000000 in
theorem equalCi_c (ps : List CInf) (hps : ∀ p ∈ ps, IsCi p) (hlen : ps.length ≤ 1000) (u v : Value) (W : World) (hu : SlAt W 20 u ps.length (cisC ps)) (hv : SlAt W 20 v ps.length (cisC ps)) :
    Cal Try.prog 67 [u, v].toArray W fun r w' => r = .bool true ∧ Ext [] W w' := by
  obtain ⟨q1, cap1, rfl, hc1, hn1, hl1, hm1⟩ := hu
  obtain ⟨q2, cap2, rfl, hc2, hn2, hl2, hm2⟩ := hv
  refine fn_ofM (n := 26) [] Try.func67 rfl rfl rfl ?_
  intro a w F M hwW
  with_reducible refine c_seq ?_
  with_reducible refine c_region ?_
  refine stepD rfl F rfl (o_assign (F.ev rfl) ?_); clear F; clear a; intro a F
  with_reducible refine l_nil ?_
  with_reducible refine q_then ?_
  with_reducible refine c_seq ?_
  with_reducible refine c_seq ?_
  with_reducible refine c_region ?_
  refine stepD rfl F rfl (o_move (F.ev rfl) ?_); clear F; clear a; intro a F
  refine stepD rfl F rfl (o_lenSl (F.ev rfl) ?_); clear F; clear a; intro a F
  refine stepD rfl F rfl (o_move (F.ev rfl) ?_); clear F; clear a; intro a F
  refine stepD rfl F rfl (o_lenSl (F.ev rfl) ?_); clear F; clear a; intro a F
  refine stepD rfl F rfl (o_neqF (F.ev rfl) (F.ev rfl) (by omega) ?_); clear F; clear a; intro a F
  with_reducible refine l_nil ?_
  with_reducible refine q_then ?_
  refine c_false F rfl rfl ?_
  with_reducible refine c_skip ?_
  with_reducible refine q_then ?_
  with_reducible refine c_seq ?_
  with_reducible refine c_seq ?_
  with_reducible refine c_region ?_
  refine stepD rfl F rfl (o_move (F.ev rfl) ?_); clear F; clear a; intro a F
  refine stepD rfl F rfl (o_lenSl (F.ev rfl) ?_); clear F; clear a; intro a F
  refine stepD rfl F rfl (o_move (F.ev rfl) ?_); clear F; clear a; intro a F
  with_reducible refine l_nil ?_
  with_reducible refine q_then ?_
  with_reducible refine c_block ?_
  refine c_loop (fun m a w => ∃ i : Nat, m = ps.length - i ∧ i ≤ ps.length ∧ Frm a 26 [] [(13, .int .i64 i), (12, .int .i64 ps.length), (0, .slice q1 ps.length cap1), (1, .slice q2 ps.length cap2)] ∧ Mem [] W w []) ps.length ⟨0, rfl, by omega, F.only [13, 12, 0, 1] rfl, M⟩ ?_
  clear F M
  rintro m a w ⟨i, hm', hi, F, M⟩
  by_cases hlt : i < ps.length
  · obtain ⟨b, o, cs, t, fz, rfl, hb, hs⟩ := hm1 (by omega)
    obtain ⟨b', o', cs', t', fz', rfl, hb', hs'⟩ := hm2 (by omega)
    obtain ⟨p, hp0⟩ : ∃ p, p = ps[i] := ⟨_, rfl⟩
    have hpi : IsCi p := by rw [hp0]; exact hps _ (List.getElem_mem hlt)
    have f1 : seg cs (o + (i : Int).toNat * 20) 20 = some (ciC p) := by rw [hp0]; exact seg_el (cis_len hps) hs hlt (by omega)
    have f2 : seg cs' (o' + (i : Int).toNat * 20) 20 = some (ciC p) := by rw [hp0]; exact seg_el (cis_len hps) hs' hlt (by omega)
    have f3 := ci_fits hpi
    have f4 : eqVs (ciC p) (ciC p) = true := by rw [ci_eq hpi hpi]; simp
    with_reducible refine c_seq ?_
    with_reducible refine c_region ?_
    refine stepD rfl F rfl (o_lssT (F.ev rfl) (F.ev rfl) (by omega) ?_); clear F; clear a; intro a F
    with_reducible refine l_nil ?_
    with_reducible refine q_then ?_
    with_reducible refine c_seq ?_
    refine c_true F rfl rfl ?_
    with_reducible refine c_skip ?_
    with_reducible refine q_then ?_
    with_reducible refine c_seq ?_
    with_reducible refine c_block ?_
    with_reducible refine c_seq ?_
    with_reducible refine c_region ?_
    refine stepD rfl F rfl (o_move (F.ev rfl) ?_); clear F; clear a; intro a F
    refine stepD rfl F rfl (o_assign (F.ev rfl) ?_); clear F; clear a; intro a F
    with_reducible refine l_nil ?_
    with_reducible refine q_then ?_
    with_reducible refine c_seq ?_
    replace F := F.only [13, 12, 0, 1, 5] rfl
    refine c_draw 8 F (by kernel_rfl) ?_
    intro w1 hE hok
    have M1 := M.later hE
    refine mK hok rfl rfl (fun a' w' F' E' => o_move (F'.ev rfl) ⟨Ext.refl _ _, rfl⟩) ?_
    refine mK hok rfl rfl (fun a' w' F' E' => o_move (F'.ev rfl) ⟨Ext.refl _ _, rfl⟩) ?_
    refine mK hok rfl rfl (fun a' w' F' E' => o_indexSl (F'.ev rfl) (F'.ev rfl) (by omega) (by omega) ⟨Ext.refl _ _, rfl⟩) ?_
    refine mK hok rfl rfl (fun a' w' F' E' => o_loadWA (M1.later E') (F'.ev rfl) (by assumption) (by first | assumption | rfl) ⟨Ext.refl _ _, rfl⟩) ?_
    refine mK hok rfl rfl (fun a' w' F' E' => o_move (F'.ev rfl) ⟨Ext.refl _ _, rfl⟩) ?_
    refine mK hok rfl rfl (fun a' w' F' E' => o_move (F'.ev rfl) ⟨Ext.refl _ _, rfl⟩) ?_
    refine mK hok rfl rfl (fun a' w' F' E' => o_indexSl (F'.ev rfl) (F'.ev rfl) (by omega) (by omega) ⟨Ext.refl _ _, rfl⟩) ?_
    refine mK hok rfl rfl (fun a' w' F' E' => o_loadWA (M1.later E') (F'.ev rfl) (by assumption) (by first | assumption | rfl) ⟨Ext.refl _ _, rfl⟩) ?_
    (refine mDone rfl rfl ?_; clear F; clear M; intro a w F hE2 hX hTT hDD hPP; have M := M1.later hE2; clear M1; clear hX; clear hE2; clear hok; clear hE; clear hTT; clear hDD; clear hPP; (try dsimp only at F))
    refine stepD rfl F rfl (o_neqAF (F.ev rfl) (F.ev rfl) (by first | assumption | rfl) (by first | assumption | rfl) (by assumption) ?_); clear F; clear a; intro a F
    with_reducible refine l_nil ?_
    with_reducible refine q_then ?_
    refine c_false F rfl rfl ?_
    with_reducible refine c_skip ?_
    with_reducible refine q_inB ?_
    with_reducible refine q_then ?_
    with_reducible refine c_region ?_
    refine stepD rfl F rfl (o_add (F.ev rfl) (F.ev rfl) (w_i64 (by omega) (by omega)) ?_); clear F; clear a; intro a F
    refine stepD rfl F rfl (o_move (F.ev rfl) ?_); clear F; clear a; intro a F
    with_reducible refine l_nil ?_
    with_reducible refine q_then ?_
    exact ⟨_, by omega, i + 1, rfl, by omega, F.only [13, 12, 0, 1] rfl, M⟩
  · obtain rfl : i = ps.length := by omega
    with_reducible refine c_seq ?_
    with_reducible refine c_region ?_
    refine stepD rfl F rfl (o_lssF (F.ev rfl) (F.ev rfl) (by omega) ?_); clear F; clear a; intro a F
    with_reducible refine l_nil ?_
    with_reducible refine q_then ?_
    with_reducible refine c_seq ?_
    refine c_false F rfl rfl ?_
    with_reducible refine c_exit ?_
    with_reducible refine q_thenX ?_
    with_reducible refine q_thenX ?_
    with_reducible refine q_inBX ?_
    with_reducible refine q_then ?_
    with_reducible refine c_seq ?_
    with_reducible refine c_region ?_
    refine stepD rfl F rfl (o_assign (F.ev rfl) ?_); clear F; clear a; intro a F
    with_reducible refine l_nil ?_
    with_reducible refine q_then ?_
    with_reducible refine c_ret ?_
    refine p_ret F rfl (.cons (.tmp (F.ev rfl)) .nil) ?_
    exact ⟨rfl, M.ext⟩

set_option maxHeartbeats 2000000 in
theorem sameOffer_c (x y : OV) (hx : IsOff x.o) (he : x.o = y.o) (h1 : x.o.ps.length ≤ 1000) (h2 : x.o.cs.length ≤ 1000) (W : World) (hA : OffAt W x) (hB : OffAt W y) :
    Cal Try.prog 33 [.agg (ovC x).toArray, .agg (ovC y).toArray].toArray W fun r w' => r = .bool true ∧ Ext [] W w' := by
  obtain ⟨o, u, v⟩ := x
  obtain ⟨o', u', v'⟩ := y
  dsimp only at he hx h1 h2
  subst he
  have e1 : seg (ovC ⟨o, u, v⟩) 0 16 = some (ipC o.h.rt) := of_rt hx.1 _ _
  have e2 : nth (ovC ⟨o, u, v⟩) 16 = some (.int .i64 o.h.ver) := of_ver hx.1 _ _
  have e3 : nth (ovC ⟨o, u, v⟩) 17 = some (.int .i64 o.h.til) := of_til hx.1 _ _
  have e4 : nth (ovC ⟨o, u, v⟩) 18 = some u := of_ps hx.1 _ _
  have e5 : nth (ovC ⟨o, u, v⟩) 19 = some v := of_cs hx.1 _ _
  have g1 : seg (ovC ⟨o, u', v'⟩) 0 16 = some (ipC o.h.rt) := of_rt hx.1 _ _
  have g2 : nth (ovC ⟨o, u', v'⟩) 16 = some (.int .i64 o.h.ver) := of_ver hx.1 _ _
  have g3 : nth (ovC ⟨o, u', v'⟩) 17 = some (.int .i64 o.h.til) := of_til hx.1 _ _
  have g4 : nth (ovC ⟨o, u', v'⟩) 18 = some u' := of_ps hx.1 _ _
  have g5 : nth (ovC ⟨o, u', v'⟩) 19 = some v' := of_cs hx.1 _ _
  have f1 := fits_ipS hx.1.len
  have f2 := eqVs_ipS o.h.rt
  refine fn_ofM (n := 38) [] Try.func33 rfl rfl rfl ?_
  intro a w F M hwW
  refine c_seq ?_
  refine c_region ?_
  (refine stepD rfl F rfl (o_box M (F.ev rfl) rfl ?_); clear F; clear M; intro b2 w M a F)
  (refine stepD rfl F rfl (o_box M (F.ev rfl) rfl ?_); clear F; clear M; intro b3 w M a F)
  refine stepD rfl F rfl (o_assign (F.ev rfl) ?_); clear F; clear a; intro a F
  with_reducible refine l_nil ?_
  with_reducible refine q_then ?_
  with_reducible refine c_seq ?_
  with_reducible refine c_region ?_
  refine stepD rfl F rfl (o_fieldAddr (F.ev rfl) ?_); clear F; clear a; intro a F
  refine stepD rfl F rfl (o_loadA M (F.ev rfl) (by repeat (first | exact .here | apply Has.there)) (by first | assumption | rfl) ?_); clear F; clear a; intro a F
  refine stepD rfl F rfl (o_fieldAddr (F.ev rfl) ?_); clear F; clear a; intro a F
  refine stepD rfl F rfl (o_loadA M (F.ev rfl) (by repeat (first | exact .here | apply Has.there)) (by first | assumption | rfl) ?_); clear F; clear a; intro a F
  refine stepD rfl F rfl (o_eqlAT (F.ev rfl) (F.ev rfl) (by first | assumption | rfl) (by first | assumption | rfl) (by assumption) ?_); clear F; clear a; intro a F
  refine stepD rfl F rfl (o_move (F.ev rfl) ?_); clear F; clear a; intro a F
  refine stepG rfl F rfl rfl rfl (o_fieldAddr (F.ev rfl) ?_); clear F; clear a; intro a F
  refine stepG rfl F rfl rfl rfl (o_load1 M (F.ev rfl) (by repeat (first | exact .here | apply Has.there)) (by first | assumption | rfl) ?_); clear F; clear a; intro a F
  refine stepG rfl F rfl rfl rfl (o_fieldAddr (F.ev rfl) ?_); clear F; clear a; intro a F
  refine stepG rfl F rfl rfl rfl (o_load1 M (F.ev rfl) (by repeat (first | exact .here | apply Has.there)) (by first | assumption | rfl) ?_); clear F; clear a; intro a F
  refine stepG rfl F rfl rfl rfl (o_eqlT (F.ev rfl) (F.ev rfl) (by omega) ?_); clear F; clear a; intro a F
  refine stepD rfl F rfl (o_pickT (F.ev rfl) (F.ev rfl) ?_); clear F; clear a; intro a F
  refine stepD rfl F rfl (o_move (F.ev rfl) ?_); clear F; clear a; intro a F
  refine stepG rfl F rfl rfl rfl (o_fieldAddr (F.ev rfl) ?_); clear F; clear a; intro a F
  refine stepG rfl F rfl rfl rfl (o_load1 M (F.ev rfl) (by repeat (first | exact .here | apply Has.there)) (by first | assumption | rfl) ?_); clear F; clear a; intro a F
  refine stepG rfl F rfl rfl rfl (o_fieldAddr (F.ev rfl) ?_); clear F; clear a; intro a F
  refine stepG rfl F rfl rfl rfl (o_load1 M (F.ev rfl) (by repeat (first | exact .here | apply Has.there)) (by first | assumption | rfl) ?_); clear F; clear a; intro a F
  refine stepG rfl F rfl rfl rfl (o_eqlT (F.ev rfl) (F.ev rfl) (by omega) ?_); clear F; clear a; intro a F
  refine stepD rfl F rfl (o_pickT (F.ev rfl) (F.ev rfl) ?_); clear F; clear a; intro a F
  refine stepD rfl F rfl (o_move (F.ev rfl) ?_); clear F; clear a; intro a F
  refine stepG rfl F rfl rfl rfl (o_fieldAddr (F.ev rfl) ?_); clear F; clear a; intro a F
  refine stepG rfl F rfl rfl rfl (o_load1 M (F.ev rfl) (by repeat (first | exact .here | apply Has.there)) (by first | assumption | rfl) ?_); clear F; clear a; intro a F
  refine stepG rfl F rfl rfl rfl (o_fieldAddr (F.ev rfl) ?_); clear F; clear a; intro a F
  refine stepG rfl F rfl rfl rfl (o_load1 M (F.ev rfl) (by repeat (first | exact .here | apply Has.there)) (by first | assumption | rfl) ?_); clear F; clear a; intro a F
  (refine stepG rfl F rfl rfl rfl (o_call (F.ev rfl) (F.evs rfl) (Cal.mono (equalPi_c o.ps hx.2.1 h1 _ _ _ (hA.1.later M.ext) (hB.1.later M.ext)) ?_)); clear F; clear a; rintro _ w ⟨rfl, hE⟩ a F; replace M := M.later hE; clear hE)
  refine stepD rfl F rfl (o_pickT (F.ev rfl) (F.ev rfl) ?_); clear F; clear a; intro a F
  refine stepD rfl F rfl (o_move (F.ev rfl) ?_); clear F; clear a; intro a F
  refine stepG rfl F rfl rfl rfl (o_fieldAddr (F.ev rfl) ?_); clear F; clear a; intro a F
  refine stepG rfl F rfl rfl rfl (o_load1 M (F.ev rfl) (by repeat (first | exact .here | apply Has.there)) (by first | assumption | rfl) ?_); clear F; clear a; intro a F
  refine stepG rfl F rfl rfl rfl (o_fieldAddr (F.ev rfl) ?_); clear F; clear a; intro a F
  refine stepG rfl F rfl rfl rfl (o_load1 M (F.ev rfl) (by repeat (first | exact .here | apply Has.there)) (by first | assumption | rfl) ?_); clear F; clear a; intro a F
  (refine stepG rfl F rfl rfl rfl (o_call (F.ev rfl) (F.evs rfl) (Cal.mono (equalCi_c o.cs hx.2.2 h2 _ _ _ (hA.2.later M.ext) (hB.2.later M.ext)) ?_)); clear F; clear a; rintro _ w ⟨rfl, hE⟩ a F; replace M := M.later hE; clear hE)
  refine stepD rfl F rfl (o_pickT (F.ev rfl) (F.ev rfl) ?_); clear F; clear a; intro a F
  refine stepD rfl F rfl (o_assign (F.ev rfl) ?_); clear F; clear a; intro a F
  with_reducible refine l_nil ?_
  with_reducible refine q_then ?_
  with_reducible refine c_ret ?_
  refine p_ret F rfl (.cons (.tmp (F.ev rfl)) .nil) ?_
  exact ⟨rfl, M.ext⟩

set_option maxHeartbeats 4000000 in
theorem equalF_c (xs ys : List OV) (hx : ∀ x ∈ xs, IsOff x.o) (he : xs.map (·.o) = ys.map (·.o)) (hb1 : ∀ x ∈ xs, x.o.ps.length ≤ 1000) (hb2 : ∀ x ∈ xs, x.o.cs.length ≤ 1000) (hlen : xs.length ≤ 1000) (u v : Value) (W : World) (hu : SlAt W 20 u xs.length (encL ovC xs)) (hv : SlAt W 20 v ys.length (encL ovC ys)) (hA : ∀ x ∈ xs, OffAt W x) (hB : ∀ x ∈ ys, OffAt W x) :
    Cal Try.prog 92 [u, v, .func (.func 33) #[] #[]].toArray W fun r w' => r = .bool true ∧ Ext [] W w' := by
  have hyl : ys.length = xs.length := by simpa using (congrArg List.length he).symm
  rw [hyl] at hv
  have heq : ∀ i (h : i < xs.length), xs[i].o = (ys[i]'(by omega)).o := fun i h => by
    have := congrArg (fun l => l[i]?) he
    simpa [List.getElem?_eq_getElem h, List.getElem?_eq_getElem (show i < ys.length by omega)] using this
  have hy : ∀ y ∈ ys, IsOff y.o := fun y hy => by
    obtain ⟨i, hi, rfl⟩ := List.mem_iff_getElem.1 hy
    rw [← heq i (by omega)]; exact hx _ (List.getElem_mem _)
  have hlx : ∀ z ∈ xs, (ovC z).length = 20 := fun z h => ov_len (hx z h)
  have hly : ∀ z ∈ ys, (ovC z).length = 20 := fun z h => ov_len (hy z h)
  obtain ⟨q1, cap1, rfl, hc1, hn1, hl1, hm1⟩ := hu
  obtain ⟨q2, cap2, rfl, hc2, hn2, hl2, hm2⟩ := hv
  refine fn_ofM (n := 32) [] Try.func92 rfl rfl rfl ?_
  intro a w F M hwW
  with_reducible refine c_seq ?_
  with_reducible refine c_region ?_
  refine stepD rfl F rfl (o_assign (F.ev rfl) ?_); clear F; clear a; intro a F
  with_reducible refine l_nil ?_
  with_reducible refine q_then ?_
  with_reducible refine c_seq ?_
  with_reducible refine c_seq ?_
  with_reducible refine c_region ?_
  refine stepD rfl F rfl (o_move (F.ev rfl) ?_); clear F; clear a; intro a F
  refine stepD rfl F rfl (o_lenSl (F.ev rfl) ?_); clear F; clear a; intro a F
  refine stepD rfl F rfl (o_move (F.ev rfl) ?_); clear F; clear a; intro a F
  refine stepD rfl F rfl (o_lenSl (F.ev rfl) ?_); clear F; clear a; intro a F
  refine stepD rfl F rfl (o_neqF (F.ev rfl) (F.ev rfl) (by omega) ?_); clear F; clear a; intro a F
  with_reducible refine l_nil ?_
  with_reducible refine q_then ?_
  refine c_false F rfl rfl ?_
  with_reducible refine c_skip ?_
  with_reducible refine q_then ?_
  with_reducible refine c_seq ?_
  with_reducible refine c_seq ?_
  with_reducible refine c_region ?_
  refine stepD rfl F rfl (o_move (F.ev rfl) ?_); clear F; clear a; intro a F
  refine stepD rfl F rfl (o_lenSl (F.ev rfl) ?_); clear F; clear a; intro a F
  refine stepD rfl F rfl (o_move (F.ev rfl) ?_); clear F; clear a; intro a F
  with_reducible refine l_nil ?_
  with_reducible refine q_then ?_
  with_reducible refine c_block ?_
  refine c_loop (fun m a w => ∃ i : Nat, m = xs.length - i ∧ i ≤ xs.length ∧ Frm a 32 [] [(17, .int .i64 i), (16, .int .i64 xs.length), (15, .slice q1 xs.length cap1), (1, .slice q2 xs.length cap2), (2, .func (.func 33) #[] #[])] ∧ Mem [] W w []) xs.length ⟨0, rfl, by omega, F.only [17, 16, 15, 1, 2] rfl, M⟩ ?_
  clear F M
  rintro m a w ⟨i, hm', hi, F, M⟩
  by_cases hlt : i < xs.length
  · obtain ⟨b, o, cs, t, fz, rfl, hb, hs⟩ := hm1 (by omega)
    obtain ⟨b', o', cs', t', fz', rfl, hb', hs'⟩ := hm2 (by omega)
    obtain ⟨x, hx0⟩ : ∃ x, x = xs[i] := ⟨_, rfl⟩
    obtain ⟨y, hy0⟩ : ∃ y, y = ys[i]'(by omega) := ⟨_, rfl⟩
    have hxm : x ∈ xs := by rw [hx0]; exact List.getElem_mem _
    have hym : y ∈ ys := by rw [hy0]; exact List.getElem_mem _
    have hxy : x.o = y.o := by rw [hx0, hy0]; exact heq i hlt
    have f1 : seg cs (o + (i : Int).toNat * 20) 20 = some (ovC x) := by rw [hx0]; exact seg_el hlx hs hlt (by omega)
    have f2 : seg cs' (o' + (i : Int).toNat * 20) 20 = some (ovC y) := by rw [hy0]; exact seg_el hly hs' (by omega) (by omega)
    have f3 : seg (ovC x) 0 20 = some (ovC x) := of_all (hx x hxm).1 _ _
    have f4 : seg (ovC y) 0 20 = some (ovC y) := of_all (hy y hym).1 _ _
    have l1 := hlx x hxm
    have l2 := hly y hym
    with_reducible refine c_seq ?_
    with_reducible refine c_region ?_
    refine stepD rfl F rfl (o_lssT (F.ev rfl) (F.ev rfl) (by omega) ?_); clear F; clear a; intro a F
    with_reducible refine l_nil ?_
    with_reducible refine q_then ?_
    with_reducible refine c_seq ?_
    refine c_true F rfl rfl ?_
    with_reducible refine c_skip ?_
    with_reducible refine q_then ?_
    with_reducible refine c_seq ?_
    with_reducible refine c_block ?_
    with_reducible refine c_seq ?_
    with_reducible refine c_region ?_
    refine stepD rfl F rfl (o_move (F.ev rfl) ?_); clear F; clear a; intro a F
    refine stepD rfl F rfl (o_indexSl (F.ev rfl) (F.ev rfl) (by omega) (by omega) ?_); clear F; clear a; intro a F
    refine stepD rfl F rfl (o_loadWA M (F.ev rfl) (by assumption) (by first | assumption | rfl) ?_); clear F; clear a; intro a F
    (refine stepD rfl F rfl (o_alloc M ?_); clear F; clear M; intro b8 w M a F)
    refine stepD rfl F rfl (o_assign (F.ev rfl) ?_); clear F; clear a; intro a F
    (refine stepN rfl F (o_storeA M (F.ev rfl) (F.ev rfl) (l1) (ov_one (hA x hxm))  (by repeat (first | exact .here | apply Has.there))  (put_all (by rw [l1]; rfl)) (by repeat (first | exact .here | apply Upd.there)) ?_); clear F; clear M; intro w M a F)
    with_reducible refine l_nil ?_
    with_reducible refine q_then ?_
    with_reducible refine c_seq ?_
    with_reducible refine c_region ?_
    refine stepD rfl F rfl (o_move (F.ev rfl) ?_); clear F; clear a; intro a F
    refine stepD rfl F rfl (o_move (F.ev rfl) ?_); clear F; clear a; intro a F
    refine stepD rfl F rfl (o_indexSl (F.ev rfl) (F.ev rfl) (by omega) (by omega) ?_); clear F; clear a; intro a F
    refine stepD rfl F rfl (o_loadWA M (F.ev rfl) (by assumption) (by first | assumption | rfl) ?_); clear F; clear a; intro a F
    (refine stepD rfl F rfl (o_alloc M ?_); clear F; clear M; intro b9 w M a F)
    (refine stepN rfl F (o_storeA M (F.ev rfl) (F.ev rfl) (l2) (ov_one (hB y hym))  (by repeat (first | exact .here | apply Has.there))  (put_all (by rw [l2]; rfl)) (by repeat (first | exact .here | apply Upd.there)) ?_); clear F; clear M; intro w M a F)
    with_reducible refine l_nil ?_
    with_reducible refine q_then ?_
    with_reducible refine c_seq ?_
    with_reducible refine c_region ?_
    refine stepD rfl F rfl (o_move (F.ev rfl) ?_); clear F; clear a; intro a F
    refine stepD rfl F rfl (o_loadA M (F.ev rfl) (by repeat (first | exact .here | apply Has.there)) (by first | assumption | rfl) ?_); clear F; clear a; intro a F
    refine stepD rfl F rfl (o_loadA M (F.ev rfl) (by repeat (first | exact .here | apply Has.there)) (by first | assumption | rfl) ?_); clear F; clear a; intro a F
    (refine stepD rfl F rfl (o_call (F.ev rfl) (F.evs rfl) (Cal.mono (sameOffer_c x y (hx x hxm) hxy (hb1 x hxm) (hb2 x hxm) _ ((hA x hxm).later M.ext) ((hB y hym).later M.ext)) ?_)); clear F; clear a; rintro _ w ⟨rfl, hE⟩ a F; replace M := M.later hE; clear hE)
    refine stepD rfl F rfl (o_not (F.ev rfl) ?_); clear F; clear a; intro a F
    with_reducible refine l_nil ?_
    with_reducible refine q_then ?_
    refine c_false F rfl rfl ?_
    with_reducible refine c_skip ?_
    with_reducible refine q_inB ?_
    with_reducible refine q_then ?_
    with_reducible refine c_region ?_
    refine stepD rfl F rfl (o_add (F.ev rfl) (F.ev rfl) (w_i64 (by omega) (by omega)) ?_); clear F; clear a; intro a F
    refine stepD rfl F rfl (o_move (F.ev rfl) ?_); clear F; clear a; intro a F
    with_reducible refine l_nil ?_
    with_reducible refine q_then ?_
    exact ⟨_, by omega, i + 1, rfl, by omega, F.only [17, 16, 15, 1, 2] rfl, M.sub (.cons _ (.cons _ (.refl _)))⟩
  · obtain rfl : i = xs.length := by omega
    with_reducible refine c_seq ?_
    with_reducible refine c_region ?_
    refine stepD rfl F rfl (o_lssF (F.ev rfl) (F.ev rfl) (by omega) ?_); clear F; clear a; intro a F
    with_reducible refine l_nil ?_
    with_reducible refine q_then ?_
    with_reducible refine c_seq ?_
    refine c_false F rfl rfl ?_
    with_reducible refine c_exit ?_
    with_reducible refine q_thenX ?_
    with_reducible refine q_thenX ?_
    with_reducible refine q_inBX ?_
    with_reducible refine q_then ?_
    with_reducible refine c_seq ?_
    with_reducible refine c_region ?_
    refine stepD rfl F rfl (o_assign (F.ev rfl) ?_); clear F; clear a; intro a F
    with_reducible refine l_nil ?_
    with_reducible refine q_then ?_
    with_reducible refine c_ret ?_
    refine p_ret F rfl (.cons (.tmp (F.ev rfl)) .nil) ?_
    exact ⟨rfl, M.ext⟩
theorem sameOffers_c (xs ys : List OV) (hx : ∀ x ∈ xs, IsOff x.o) (he : xs.map (·.o) = ys.map (·.o)) (hb1 : ∀ x ∈ xs, x.o.ps.length ≤ 1000) (hb2 : ∀ x ∈ xs, x.o.cs.length ≤ 1000) (hlen : xs.length ≤ 1000) (u v : Value) (W : World) (hu : SlAt W 20 u xs.length (encL ovC xs)) (hv : SlAt W 20 v ys.length (encL ovC ys)) (hA : ∀ x ∈ xs, OffAt W x) (hB : ∀ x ∈ ys, OffAt W x) :
    Cal Try.prog 62 [u, v].toArray W fun r w' => r = .bool true ∧ Ext [] W w' := by
  refine fn_ofM (n := 8) [] Try.func62 rfl rfl rfl ?_
  intro a w F M hwW
  with_reducible refine c_seq ?_
  with_reducible refine c_region ?_
  refine stepD rfl F rfl (o_assign (F.ev rfl) ?_); clear F; clear a; intro a F
  with_reducible refine l_nil ?_
  with_reducible refine q_then ?_
  with_reducible refine c_seq ?_
  with_reducible refine c_region ?_
  refine stepD rfl F rfl (o_move (F.ev rfl) ?_); clear F; clear a; intro a F
  refine stepD rfl F rfl (o_move (F.ev rfl) ?_); clear F; clear a; intro a F
  (refine stepD rfl F rfl (o_call (F.ev rfl) (F.evs rfl) (Cal.mono (equalF_c xs ys hx he hb1 hb2 hlen _ _ _ (hu.later M.ext) (hv.later M.ext) (fun z hz => (hA z hz).later M.ext) (fun z hz => (hB z hz).later M.ext)) ?_)); clear F; clear a; rintro _ w ⟨rfl, hE⟩ a F; replace M := M.later hE; clear hE)
  refine stepD rfl F rfl (o_assign (F.ev rfl) ?_); clear F; clear a; intro a F
  with_reducible refine l_nil ?_
  with_reducible refine q_then ?_
  with_reducible refine c_ret ?_
  refine p_ret F rfl (.cons (.tmp (F.ev rfl)) .nil) ?_
  exact ⟨rfl, M.ext⟩
end Go.Proofs.Ytainnefmobfcjaa

/-! FD -/
/-
  multihoplaw23.accepts: it answers true.
-/
namespace Go.Proofs.Ytainnefmobfcjaa
set_option linter.unusedVariables false
set_option linter.unusedSimpArgs false
open Go.RowKit
attribute [local irreducible] OpTo wpListIn Code.wpIn MW Cal

theorem cmpL_gt {a b : List Int} (h : 0 < cmpL a b) : cmpL b a < 0 := by rw [cmpL_anti]; omega
theorem insO_mem {o : Off} : ∀ {ys r : List Off}, insO o ys = some r → ∀ z ∈ r, z = o ∨ z ∈ ys ∨ ∃ y ∈ ys, cmpL y.h.rt o.h.rt = 0 ∧ z = later2 y o
  | [], r, h, z, hz => by
    simp only [insO, Option.some.injEq] at h
    subst h
    simp at hz
    exact .inl hz
  | y :: ys, r, h, z, hz => by
    simp only [insO] at h
    split at h
    · cases hi : insO o ys with
      | none => rw [hi] at h; cases h
      | some r' =>
        rw [hi] at h
        simp only [Option.map_some, Option.some.injEq] at h
        subst h
        rcases List.mem_cons.1 hz with h1 | h1
        · exact .inr (.inl (by simp [h1]))
        · rcases insO_mem hi z h1 with h2 | h2 | ⟨y', h2, h3⟩
          · exact .inl h2
          · exact .inr (.inl (by simp [h2]))
          · exact .inr (.inr ⟨y', by simp [h2], h3⟩)
    · split at h
      · rename_i hk
        split at h
        · cases h
        · split at h
          · simp only [Option.some.injEq] at h
            subst h
            rcases List.mem_cons.1 hz with h1 | h1
            · exact .inr (.inr ⟨y, by simp, hk, h1⟩)
            · exact .inr (.inl (by simp [h1]))
          · simp only [Option.some.injEq] at h
            subst h
            rcases List.mem_cons.1 hz with h1 | h1
            · exact .inl h1
            · exact .inr (.inl (by simp [h1]))
      · simp only [Option.some.injEq] at h
        subst h
        rcases List.mem_cons.1 hz with h1 | h1
        · exact .inl h1
        · exact .inr (.inl h1)
theorem insO_asc {o : Off} : ∀ {ys r : List Off}, insO o ys = some r → Asc ys → Asc r
  | [], r, h, _ => by
    simp only [insO, Option.some.injEq] at h
    subst h
    simp [Asc]
  | y :: ys, r, h, ha => by
    have hm := insO_mem h
    have ha' := List.pairwise_cons.1 ha
    simp only [insO] at h
    split at h
    · rename_i hk
      cases hi : insO o ys with
      | none => rw [hi] at h; cases h
      | some r' =>
        rw [hi] at h
        simp only [Option.map_some, Option.some.injEq] at h
        subst h
        refine List.pairwise_cons.2 ⟨fun z hz => ?_, insO_asc hi ha'.2⟩
        rcases insO_mem hi z hz with h2 | h2 | ⟨y', h2, _, h4⟩
        · rw [h2]; exact hk
        · exact ha'.1 z h2
        · rw [h4]; exact ha'.1 y' h2
    · split at h
      · rename_i hk
        have hrt := cmpL_zero hk
        split at h
        · cases h
        · split at h
          · simp only [Option.some.injEq] at h
            subst h
            exact List.pairwise_cons.2 ⟨fun z hz => ha'.1 z hz, ha'.2⟩
          · simp only [Option.some.injEq] at h
            subst h
            exact List.pairwise_cons.2 ⟨fun z hz => by rw [← hrt]; exact ha'.1 z hz, ha'.2⟩
      · rename_i h1 h2
        simp only [Option.some.injEq] at h
        subst h
        have h3 : cmpL o.h.rt y.h.rt < 0 := cmpL_gt (by omega)
        refine List.pairwise_cons.2 ⟨fun z hz => ?_, ha⟩
        rcases List.mem_cons.1 hz with h4 | h4
        · rw [h4]; exact h3
        · exact cmpL_lt_trans h3 (ha'.1 z h4)
theorem later2_valid {y o : Off} (hy : validO y = true) (ho : validO o = true) : validO (later2 y o) = true := by
  unfold validO hdO later2 at *
  simp only [Bool.and_eq_true, decide_eq_true_eq] at *
  refine ⟨⟨⟨⟨⟨⟨hy.1.1.1.1.1.1, hy.1.1.1.1.1.2⟩, ?_⟩, hy.1.1.1.2⟩, hy.1.1.2⟩, hy.1.2⟩, hy.2⟩
  split
  · exact ho.1.1.1.1.2
  · exact hy.1.1.1.1.2
theorem validL_mk {r : List Off} (h1 : r.length ≤ 8) (h2 : ∀ z ∈ r, validO z = true) (h3 : Asc r) : validL r = true := by
  unfold validL
  rw [decide_eq_true h1, Bool.true_and]
  refine allI_t fun i hi => ?_
  unfold valid1
  rw [List.getElem?_eq_getElem hi]
  simp only [Bool.and_eq_true, Bool.or_eq_true, decide_eq_true_eq]
  refine ⟨h2 _ (List.getElem_mem _), ?_⟩
  rcases Nat.eq_zero_or_pos i with h0 | h0
  · exact .inl h0
  · right
    rw [dif_pos (by omega)]
    exact decide_eq_true ((List.pairwise_iff_getElem.1 h3) (i - 1) i (by omega) hi (by omega))
/-- what holds of what Accept answers -/
theorem acceptV_cases (os : List Off) (now : Int) (o : Off) : ((acceptV os now o).1 = [] ∧ (acceptV os now o).2 ≠ 0) ∨ (validL os = true ∧ validO o = true ∧ (acceptV os now o).2 = 0 ∧ validL (acceptV os now o).1 = true ∧ ∀ z ∈ (acceptV os now o).1, z = o ∨ z ∈ os ∨ ∃ y ∈ os, cmpL y.h.rt o.h.rt = 0 ∧ z = later2 y o) := by
  unfold acceptV
  cases hv : validL os
  · left; simp
  cases ho : validO o
  · left; simp
  cases ht : isTime now
  · left; simp
  simp only [Bool.and_self, if_true]
  by_cases c1 : o.h.til ≤ now
  · left; rw [if_pos c1]; simp
  rw [if_neg c1]
  cases hi : insO o (curO os now) with
  | none => left; simp
  | some r =>
    simp only
    by_cases c2 : 8 < r.length
    · left; rw [if_pos c2]; simp
    · right
      rw [if_neg c2]
      have hm := insO_mem hi
      have hsub : ∀ z ∈ curO os now, z ∈ os := fun z hz => (List.mem_filter.1 hz).1
      refine ⟨trivial, trivial, rfl, validL_mk (show r.length ≤ 8 by omega) (fun z hz => ?_) (insO_asc hi ((validL_asc hv).filter _)), fun z hz => ?_⟩
      · rcases hm z hz with h | h | ⟨y, h, _, h2⟩
        · rw [h]; exact ho
        · exact validL_each hv (hsub z h)
        · rw [h2]; exact later2_valid (validL_each hv (hsub y h)) ho
      · rcases hm z hz with h | h | ⟨y, h, h2⟩
        · exact .inl h
        · exact .inr (.inl (hsub z h))
        · exact .inr (.inr ⟨y, hsub y h, h2⟩)
theorem acceptV_is {os : List Off} {now : Int} {o : Off} (hos : ∀ z ∈ os, IsOff z) (ho : IsOff o) : ∀ z ∈ (acceptV os now o).1, IsOff z ∧ z.ps.length ≤ 16 ∧ z.cs.length ≤ 16 := by
  intro z hz
  rcases acceptV_cases os now o with ⟨h, _⟩ | ⟨_, _, _, hv, hm⟩
  · rw [h] at hz; cases hz
  · have h1 := validO_len (validL_each hv hz)
    refine ⟨?_, h1⟩
    rcases hm z hz with h | h | ⟨y, h, _, h2⟩
    · rw [h]; exact ho
    · exact hos z h
    · rw [h2]; exact ⟨(hos y h).1, (hos y h).2⟩
theorem acceptV_len (os : List Off) (now : Int) (o : Off) : (acceptV os now o).1.length ≤ 8 := by
  rcases acceptV_cases os now o with ⟨h, _⟩ | ⟨_, _, _, hv, _⟩
  · rw [h]; simp
  · exact validL_len hv

set_option maxHeartbeats 4000000 in
theorem accepts_c (xs : List OV) (hx : ∀ x ∈ xs, IsOff x.o) (v : Value) (now : Int) (x : OV) (hxo : IsOff x.o) (W : World) (hS : SlAt W 20 v xs.length (encL ovC xs)) (hA : ∀ x ∈ xs, OffAt W x) (hxa : OffAt W x) :
    Cal Try.prog 27 [v, .int .i64 now, .agg (ovC x).toArray].toArray W fun r w' => r = .bool true ∧ Ext [] W w' := by
  have e2 : seg (ovC x) 0 20 = some (ovC x) := of_all hxo.1 _ _
  have hos : ∀ z ∈ xs.map (·.o), IsOff z := fun z hz => by
    obtain ⟨y, h1, rfl⟩ := List.mem_map.1 hz
    exact hx y h1
  have hres := acceptV_is (now := now) hos hxo
  have hrl := acceptV_len (xs.map (·.o)) now x.o
  have hcs := acceptV_cases (xs.map (·.o)) now x.o
  refine fn_ofM (n := 41) [] Try.func27 rfl rfl rfl ?_
  intro a w F M hwW
  refine c_seq ?_
  refine c_region ?_
  (refine stepD rfl F rfl (o_box M (F.ev rfl) rfl ?_); clear F; clear M; intro b5 w M a F)
  refine stepD rfl F rfl (o_assign (F.ev rfl) ?_); clear F; clear a; intro a F
  with_reducible refine l_nil ?_
  with_reducible refine q_then ?_
  with_reducible refine c_seq ?_
  with_reducible refine c_region ?_
  refine stepD rfl F rfl (o_move (F.ev rfl) ?_); clear F; clear a; intro a F
  refine stepD rfl F rfl (o_move (F.ev rfl) ?_); clear F; clear a; intro a F
  refine stepD rfl F rfl (o_loadA M (F.ev rfl) (by repeat (first | exact .here | apply Has.there)) (by first | assumption | rfl) ?_); clear F; clear a; intro a F
  (refine stepD rfl F rfl (o_call (F.ev rfl) (F.evs rfl) (Cal.mono (accept_c xs hx v now x hxo _ (hS.later M.ext) (fun z hz => (hA z hz).later M.ext) (hxa.later M.ext)) ?_)); clear F; clear a; rintro _ w ⟨s1, rfl, hof1, hE⟩ a F; replace hof1 := hof1.at; replace M := M.later hE; clear hE)
  refine stepD rfl F rfl (o_move (F.ev rfl) ?_); clear F; clear a; intro a F
  refine stepD rfl F rfl (o_extract (F.ev rfl) rfl ?_); clear F; clear a; intro a F
  refine stepD rfl F rfl (o_extract (F.ev rfl) rfl ?_); clear F; clear a; intro a F
  refine stepD rfl F rfl (o_assign (F.ev rfl) ?_); clear F; clear a; intro a F
  refine stepD rfl F rfl (o_assign (F.ev rfl) ?_); clear F; clear a; intro a F
  with_reducible refine l_nil ?_
  with_reducible refine q_then ?_
  with_reducible refine c_seq ?_
  with_reducible refine c_region ?_
  refine stepD rfl F rfl (o_move (F.ev rfl) ?_); clear F; clear a; intro a F
  refine stepD rfl F rfl (o_move (F.ev rfl) ?_); clear F; clear a; intro a F
  refine stepD rfl F rfl (o_loadA M (F.ev rfl) (by repeat (first | exact .here | apply Has.there)) (by first | assumption | rfl) ?_); clear F; clear a; intro a F
  (refine stepD rfl F rfl (o_call (F.ev rfl) (F.evs rfl) (Cal.mono (raccept_c xs hx v now x hxo _ (hS.later M.ext) (fun z hz => (hA z hz).later M.ext) (hxa.later M.ext)) ?_)); clear F; clear a; rintro _ w ⟨s2, rfl, hof2, hE⟩ a F; replace hof2 := hof2.at; replace M := M.later hE; replace hof1 := hof1.later hE; clear hE)
  generalize (acceptV (xs.map (·.o)) now x.o) = R at *
  obtain ⟨r, e⟩ := R
  dsimp only at *
  obtain ⟨zs1, hz1, hS1, hA1⟩ := hof1
  obtain ⟨zs2, hz2, hS2, hA2⟩ := hof2
  have hzo : ∀ z ∈ zs1, IsOff z.o ∧ z.o.ps.length ≤ 16 ∧ z.o.cs.length ≤ 16 := fun z hz => hres z.o (by rw [← hz1]; exact List.mem_map_of_mem hz)
  have hzl : zs1.length ≤ 8 := by rw [← hz1, List.length_map] at hrl; exact hrl
  refine stepD rfl F rfl (o_move (F.ev rfl) ?_); clear F; clear a; intro a F
  refine stepD rfl F rfl (o_extract (F.ev rfl) rfl ?_); clear F; clear a; intro a F
  refine stepD rfl F rfl (o_extract (F.ev rfl) rfl ?_); clear F; clear a; intro a F
  refine stepD rfl F rfl (o_assign (F.ev rfl) ?_); clear F; clear a; intro a F
  refine stepD rfl F rfl (o_assign (F.ev rfl) ?_); clear F; clear a; intro a F
  with_reducible refine l_nil ?_
  with_reducible refine q_then ?_
  with_reducible refine c_seq ?_
  with_reducible refine c_region ?_
  refine stepD rfl F rfl (o_move (F.ev rfl) ?_); clear F; clear a; intro a F
  refine stepD rfl F rfl (o_move (F.ev rfl) ?_); clear F; clear a; intro a F
  refine stepD rfl F rfl (o_eqlT (F.ev rfl) (F.ev rfl) (by omega) ?_); clear F; clear a; intro a F
  refine stepD rfl F rfl (o_move (F.ev rfl) ?_); clear F; clear a; intro a F
  refine stepG rfl F rfl rfl rfl (o_move (F.ev rfl) ?_); clear F; clear a; intro a F
  refine stepG rfl F rfl rfl rfl (o_move (F.ev rfl) ?_); clear F; clear a; intro a F
  (refine stepG rfl F rfl rfl rfl (o_call (F.ev rfl) (F.evs rfl) (Cal.mono (sameOffers_c zs1 zs2 (fun z hz => (hzo z hz).1) (by rw [hz1, hz2]) (fun z hz => by have := (hzo z hz).2.1; omega) (fun z hz => by have := (hzo z hz).2.2; omega) (by omega) _ _ _ hS1 hS2 hA1 hA2) ?_)); clear F; clear a; rintro _ w ⟨rfl, hE⟩ a F; replace M := M.later hE; replace hS1 := hS1.later hE; replace hA1 := fun z hz => (hA1 z hz).later hE; clear hE)
  by_cases he : e = 0
  · have hval : validL r = true := by
      rcases hcs with ⟨_, h⟩ | ⟨_, _, _, h, _⟩
      · exact absurd he h
      · exact h
    refine stepD rfl F rfl (o_pickT (F.ev rfl) (F.ev rfl) ?_); clear F; clear a; intro a F
    refine stepD rfl F rfl (o_move (F.ev rfl) ?_); clear F; clear a; intro a F
    refine stepG rfl F rfl rfl rfl (o_move (F.ev rfl) ?_); clear F; clear a; intro a F
    refine stepG rfl F rfl rfl rfl (o_neqF (F.ev rfl) (F.ev rfl) (by omega) ?_); clear F; clear a; intro a F
    refine stepG rfl F rfl rfl rfl (o_move (F.ev rfl) ?_); clear F; clear a; intro a F
    refine stepG rfl F rfl rfl rfl (o_move (F.ev rfl) ?_); clear F; clear a; intro a F
    (refine stepG rfl F rfl rfl rfl (o_call (F.ev rfl) (F.evs rfl) (Cal.mono (validL_c zs1 (fun z hz => (hzo z hz).1) _ _ hS1 hA1) ?_)); clear F; clear a; rintro _ w ⟨rfl, hE⟩ a F; replace M := M.later hE; clear hE)
    rw [hz1, hval] at F
    refine stepG rfl F rfl rfl rfl (o_pickF (F.ev rfl) (F.ev rfl) ?_); clear F; clear a; intro a F
    refine stepD rfl F rfl (o_pickT (F.ev rfl) (F.ev rfl) ?_); clear F; clear a; intro a F
    refine stepD rfl F rfl (o_assign (F.ev rfl) ?_); clear F; clear a; intro a F
    with_reducible refine l_nil ?_
    with_reducible refine q_then ?_
    with_reducible refine c_ret ?_
    refine p_ret F rfl (.cons (.tmp (F.ev rfl)) .nil) ?_
    exact ⟨rfl, M.ext⟩
  · refine stepD rfl F rfl (o_pickT (F.ev rfl) (F.ev rfl) ?_); clear F; clear a; intro a F
    refine stepD rfl F rfl (o_move (F.ev rfl) ?_); clear F; clear a; intro a F
    refine stepG rfl F rfl rfl rfl (o_move (F.ev rfl) ?_); clear F; clear a; intro a F
    refine stepG rfl F rfl rfl rfl (o_neqT (F.ev rfl) (F.ev rfl) (by omega) ?_); clear F; clear a; intro a F
    refine stepG rfl F rfl rfl rfl (o_move (F.ev rfl) ?_); clear F; clear a; intro a F
    refine stepOff F rfl rfl rfl rfl ?_; clear F; clear a; intro a F
    refine stepOff F rfl rfl rfl rfl ?_; clear F; clear a; intro a F
    refine stepG rfl F rfl rfl rfl (o_pickT (F.ev rfl) (F.ev rfl) ?_); clear F; clear a; intro a F
    refine stepD rfl F rfl (o_pickT (F.ev rfl) (F.ev rfl) ?_); clear F; clear a; intro a F
    refine stepD rfl F rfl (o_assign (F.ev rfl) ?_); clear F; clear a; intro a F
    with_reducible refine l_nil ?_
    with_reducible refine q_then ?_
    with_reducible refine c_ret ?_
    refine p_ret F rfl (.cons (.tmp (F.ev rfl)) .nil) ?_
    exact ⟨rfl, M.ext⟩
end Go.Proofs.Ytainnefmobfcjaa

/-! FE -/
/-
  multihopworld: Base, Time, Prefix; multihoplaw23.small.
-/
namespace Go.Proofs.Ytainnefmobfcjaa
set_option linter.unusedVariables false
set_option linter.unusedSimpArgs false
open Go.RowKit
attribute [local irreducible] OpTo wpListIn Code.wpIn MW Cal

theorem base_c {bt : Nat} {p : Option Addr} {len cap k : Nat} {xs : List Int} (W : World) (hT : TapeS W bt p len xs) (hb : W.heap[bt]? = some (tobj p len cap k)) :
    Cal Try.prog 24 [.pointer (some ⟨bt, 0, none⟩)].toArray W fun v w' => ∃ x k', v = .int .i64 x ∧ (0 ≤ x ∧ x ≤ 1099511627776) ∧ Mem [bt] W w' [(bt, tobj p len cap k')] := by
  refine fn_ofM (n := 16) [bt] Try.func24 rfl rfl rfl ?_
  intro a w F M hwW
  replace M := M.came hwW hb (by simp) (by simp)
  with_reducible refine c_seq ?_
  with_reducible refine c_region ?_
  refine stepD rfl F rfl (o_assign (F.ev rfl) ?_); clear F; clear a; intro a F
  with_reducible refine l_nil ?_
  with_reducible refine q_then ?_
  with_reducible refine c_seq ?_
  with_reducible refine c_seq ?_
  with_reducible refine c_region ?_
  refine stepD rfl F rfl (o_move (F.ev rfl) ?_); clear F; clear a; intro a F
  (refine stepD rfl F rfl (o_call (F.ev rfl) (F.evs rfl) (Cal.mono (nextE_c 6 (by omega) (by omega) _ (hT.later M.ext) (M.heap .here) ) ?_)); clear F; clear a; have M0 := M; clear M; rintro _ w ⟨x, k', rfl, hx, N⟩ a F)
  replace M := M0.turn1 N .here
  clear M0
  by_cases c1 : x = 0
  · with_reducible refine l_nil ?_
    with_reducible refine q_then ?_
    with_reducible refine c_block ?_
    with_reducible refine c_seq ?_
    with_reducible refine c_region ?_
    refine stepD rfl F rfl (o_eqlT (F.ev rfl) (F.ev rfl) (by omega) ?_); clear F; clear a; intro a F
    refine stepD rfl F rfl (o_assign (F.ev rfl) ?_); clear F; clear a; intro a F
    with_reducible refine l_nil ?_
    with_reducible refine q_then ?_
    refine c_true F rfl rfl ?_
    with_reducible refine c_seq ?_
    with_reducible refine c_region ?_
    refine stepD rfl F rfl (o_move (F.ev rfl) ?_); clear F; clear a; intro a F
    (refine stepD rfl F rfl (o_call (F.ev rfl) (F.evs rfl) (Cal.mono (nextE_c 5 (by omega) (by omega) _ (hT.later M.ext) (M.heap .here) ) ?_)); clear F; clear a; have M0 := M; clear M; rintro _ w ⟨x2, k2, rfl, hx2, N⟩ a F)
    replace M := M0.turn1 N .here
    refine stepD rfl F rfl (o_assign (F.ev rfl) ?_); clear F; clear a; intro a F
    with_reducible refine l_nil ?_
    with_reducible refine q_then ?_
    with_reducible refine c_ret ?_
    with_reducible refine q_inBR ?_
    with_reducible refine q_thenR ?_
    refine p_ret F rfl (.cons (.tmp (F.ev rfl)) .nil) ?_
    exact ⟨_, k2, rfl, by omega, M⟩
  by_cases c2 : x = 1
  · with_reducible refine l_nil ?_
    with_reducible refine q_then ?_
    with_reducible refine c_block ?_
    with_reducible refine c_seq ?_
    with_reducible refine c_region ?_
    refine stepD rfl F rfl (o_eqlF (F.ev rfl) (F.ev rfl) (by omega) ?_); clear F; clear a; intro a F
    refine stepD rfl F rfl (o_assign (F.ev rfl) ?_); clear F; clear a; intro a F
    with_reducible refine l_nil ?_
    with_reducible refine q_then ?_
    refine c_false F rfl rfl ?_
    with_reducible refine c_seq ?_
    with_reducible refine c_region ?_
    refine stepD rfl F rfl (o_eqlT (F.ev rfl) (F.ev rfl) (by omega) ?_); clear F; clear a; intro a F
    refine stepD rfl F rfl (o_assign (F.ev rfl) ?_); clear F; clear a; intro a F
    with_reducible refine l_nil ?_
    with_reducible refine q_then ?_
    refine c_true F rfl rfl ?_
    with_reducible refine c_seq ?_
    with_reducible refine c_region ?_
    refine stepD rfl F rfl (o_move (F.ev rfl) ?_); clear F; clear a; intro a F
    (refine stepD rfl F rfl (o_call (F.ev rfl) (F.evs rfl) (Cal.mono (nextE_c 40 (by omega) (by omega) _ (hT.later M.ext) (M.heap .here) ) ?_)); clear F; clear a; have M0 := M; clear M; rintro _ w ⟨x2, k2, rfl, hx2, N⟩ a F)
    replace M := M0.turn1 N .here
    refine stepD rfl F rfl (o_sub (F.ev rfl) (F.ev rfl) (w_i64 (by omega) (by omega)) ?_); clear F; clear a; intro a F
    refine stepD rfl F rfl (o_assign (F.ev rfl) ?_); clear F; clear a; intro a F
    with_reducible refine l_nil ?_
    with_reducible refine q_then ?_
    with_reducible refine c_ret ?_
    with_reducible refine q_inBR ?_
    with_reducible refine q_thenR ?_
    refine p_ret F rfl (.cons (.tmp (F.ev rfl)) .nil) ?_
    exact ⟨_, k2, rfl, by omega, M⟩
  · with_reducible refine l_nil ?_
    with_reducible refine q_then ?_
    with_reducible refine c_block ?_
    with_reducible refine c_seq ?_
    with_reducible refine c_region ?_
    refine stepD rfl F rfl (o_eqlF (F.ev rfl) (F.ev rfl) (by omega) ?_); clear F; clear a; intro a F
    refine stepD rfl F rfl (o_assign (F.ev rfl) ?_); clear F; clear a; intro a F
    with_reducible refine l_nil ?_
    with_reducible refine q_then ?_
    refine c_false F rfl rfl ?_
    with_reducible refine c_seq ?_
    with_reducible refine c_region ?_
    refine stepD rfl F rfl (o_eqlF (F.ev rfl) (F.ev rfl) (by omega) ?_); clear F; clear a; intro a F
    refine stepD rfl F rfl (o_assign (F.ev rfl) ?_); clear F; clear a; intro a F
    with_reducible refine l_nil ?_
    with_reducible refine q_then ?_
    refine c_false F rfl rfl ?_
    with_reducible refine c_skip ?_
    with_reducible refine q_inB ?_
    with_reducible refine q_then ?_
    with_reducible refine c_seq ?_
    with_reducible refine c_region ?_
    refine stepD rfl F rfl (o_move (F.ev rfl) ?_); clear F; clear a; intro a F
    (refine stepD rfl F rfl (o_call (F.ev rfl) (F.evs rfl) (Cal.mono (nextE_c 1000 (by omega) (by omega) _ (hT.later M.ext) (M.heap .here) ) ?_)); clear F; clear a; have M0 := M; clear M; rintro _ w ⟨x2, k2, rfl, hx2, N⟩ a F)
    replace M := M0.turn1 N .here
    refine stepD rfl F rfl (o_assign (F.ev rfl) ?_); clear F; clear a; intro a F
    with_reducible refine l_nil ?_
    with_reducible refine q_then ?_
    with_reducible refine c_ret ?_
    refine p_ret F rfl (.cons (.tmp (F.ev rfl)) .nil) ?_
    exact ⟨_, k2, rfl, by omega, M⟩
theorem time_c {bt : Nat} {p : Option Addr} {len cap k : Nat} {xs : List Int} (base : Int) (h0 : 0 ≤ base) (h1 : base ≤ 1099511627776) (W : World) (hT : TapeS W bt p len xs) (hb : W.heap[bt]? = some (tobj p len cap k)) :
    Cal Try.prog 28 [.pointer (some ⟨bt, 0, none⟩), .int .i64 base].toArray W fun v w' => ∃ x k', v = .int .i64 x ∧ (0 ≤ x ∧ x ≤ 1099511627776) ∧ Mem [bt] W w' [(bt, tobj p len cap k')] := by
  refine fn_ofM (n := 12) [bt] Try.func28 rfl rfl rfl ?_
  intro a w F M hwW
  replace M := M.came hwW hb (by simp) (by simp)
  with_reducible refine c_seq ?_
  with_reducible refine c_region ?_
  refine stepD rfl F rfl (o_assign (F.ev rfl) ?_); clear F; clear a; intro a F
  with_reducible refine l_nil ?_
  with_reducible refine q_then ?_
  with_reducible refine c_seq ?_
  with_reducible refine c_region ?_
  refine stepD rfl F rfl (o_move (F.ev rfl) ?_); clear F; clear a; intro a F
  refine stepD rfl F rfl (o_move (F.ev rfl) ?_); clear F; clear a; intro a F
  (refine stepD rfl F rfl (o_call (F.ev rfl) (F.evs rfl) (Cal.mono (nextE_c 60 (by omega) (by omega) _ (hT.later M.ext) (M.heap .here) ) ?_)); clear F; clear a; have M0 := M; clear M; rintro _ w ⟨x, k', rfl, hx, N⟩ a F)
  replace M := M0.turn1 N .here
  clear M0
  refine stepD rfl F rfl (o_add (F.ev rfl) (F.ev rfl) (w_i64 (by omega) (by omega)) ?_); clear F; clear a; intro a F
  refine stepD rfl F rfl (o_sub (F.ev rfl) (F.ev rfl) (w_i64 (by omega) (by omega)) ?_); clear F; clear a; intro a F
  refine stepD rfl F rfl (o_min (F.ev rfl) (F.ev rfl) ?_); clear F; clear a; intro a F
  refine stepD rfl F rfl (o_max (F.ev rfl) (F.ev rfl) ?_); clear F; clear a; intro a F
  refine stepD rfl F rfl (o_assign (F.ev rfl) ?_); clear F; clear a; intro a F
  with_reducible refine l_nil ?_
  with_reducible refine q_then ?_
  with_reducible refine c_ret ?_
  refine p_ret F rfl (.cons (.tmp (F.ev rfl)) .nil) ?_
  exact ⟨_, k', rfl, by constructor <;> (repeat' split) <;> omega, M⟩
theorem small_c (x : OV) (hx : IsOff x.o) (W : World) (hA : OffAt W x) :
    Cal Try.prog 23 [.agg (ovC x).toArray].toArray W fun r w' => r = .bool (decide (x.o.ps.length ≤ 20) && decide (x.o.cs.length ≤ 20)) ∧ Ext [] W w' := by
  obtain ⟨q1, cap1, hu, _⟩ := hA.1
  obtain ⟨q2, cap2, hv, _⟩ := hA.2
  have e4 : nth (ovC x) 18 = some (.slice q1 x.o.ps.length cap1) := by rw [← hu]; exact of_ps hx.1 _ _
  have e5 : nth (ovC x) 19 = some (.slice q2 x.o.cs.length cap2) := by rw [← hv]; exact of_cs hx.1 _ _
  by_cases c1 : x.o.ps.length ≤ 20
  · rw [decide_eq_true c1, Bool.true_and]
    by_cases c2 : x.o.cs.length ≤ 20
    · rw [decide_eq_true c2]
      refine fn_ofM (n := 13) [] Try.func23 rfl rfl rfl ?_
      intro a w F M hwW
      refine c_seq ?_
      refine c_region ?_
      (refine stepD rfl F rfl (o_box M (F.ev rfl) rfl ?_); clear F; clear M; intro b1 w M a F)
      refine stepD rfl F rfl (o_assign (F.ev rfl) ?_); clear F; clear a; intro a F
      with_reducible refine l_nil ?_
      with_reducible refine q_then ?_
      with_reducible refine c_seq ?_
      with_reducible refine c_region ?_
      refine stepD rfl F rfl (o_fieldAddr (F.ev rfl) ?_); clear F; clear a; intro a F
      refine stepD rfl F rfl (o_load1 M (F.ev rfl) (by repeat (first | exact .here | apply Has.there)) (by first | assumption | rfl) ?_); clear F; clear a; intro a F
      refine stepD rfl F rfl (o_lenSl (F.ev rfl) ?_); clear F; clear a; intro a F
      refine stepD rfl F rfl (o_leqT (F.ev rfl) (F.ev rfl) (by omega) ?_); clear F; clear a; intro a F
      refine stepD rfl F rfl (o_move (F.ev rfl) ?_); clear F; clear a; intro a F
      refine stepG rfl F rfl rfl rfl (o_fieldAddr (F.ev rfl) ?_); clear F; clear a; intro a F
      refine stepG rfl F rfl rfl rfl (o_load1 M (F.ev rfl) (by repeat (first | exact .here | apply Has.there)) (by first | assumption | rfl) ?_); clear F; clear a; intro a F
      refine stepG rfl F rfl rfl rfl (o_lenSl (F.ev rfl) ?_); clear F; clear a; intro a F
      refine stepG rfl F rfl rfl rfl (o_leqT (F.ev rfl) (F.ev rfl) (by omega) ?_); clear F; clear a; intro a F
      refine stepD rfl F rfl (o_pickT (F.ev rfl) (F.ev rfl) ?_); clear F; clear a; intro a F
      refine stepD rfl F rfl (o_assign (F.ev rfl) ?_); clear F; clear a; intro a F
      with_reducible refine l_nil ?_
      with_reducible refine q_then ?_
      with_reducible refine c_ret ?_
      refine p_ret F rfl (.cons (.tmp (F.ev rfl)) .nil) ?_
      exact ⟨rfl, M.ext⟩
    · rw [decide_eq_false c2]
      refine fn_ofM (n := 13) [] Try.func23 rfl rfl rfl ?_
      intro a w F M hwW
      refine c_seq ?_
      refine c_region ?_
      (refine stepD rfl F rfl (o_box M (F.ev rfl) rfl ?_); clear F; clear M; intro b1 w M a F)
      refine stepD rfl F rfl (o_assign (F.ev rfl) ?_); clear F; clear a; intro a F
      with_reducible refine l_nil ?_
      with_reducible refine q_then ?_
      with_reducible refine c_seq ?_
      with_reducible refine c_region ?_
      refine stepD rfl F rfl (o_fieldAddr (F.ev rfl) ?_); clear F; clear a; intro a F
      refine stepD rfl F rfl (o_load1 M (F.ev rfl) (by repeat (first | exact .here | apply Has.there)) (by first | assumption | rfl) ?_); clear F; clear a; intro a F
      refine stepD rfl F rfl (o_lenSl (F.ev rfl) ?_); clear F; clear a; intro a F
      refine stepD rfl F rfl (o_leqT (F.ev rfl) (F.ev rfl) (by omega) ?_); clear F; clear a; intro a F
      refine stepD rfl F rfl (o_move (F.ev rfl) ?_); clear F; clear a; intro a F
      refine stepG rfl F rfl rfl rfl (o_fieldAddr (F.ev rfl) ?_); clear F; clear a; intro a F
      refine stepG rfl F rfl rfl rfl (o_load1 M (F.ev rfl) (by repeat (first | exact .here | apply Has.there)) (by first | assumption | rfl) ?_); clear F; clear a; intro a F
      refine stepG rfl F rfl rfl rfl (o_lenSl (F.ev rfl) ?_); clear F; clear a; intro a F
      refine stepG rfl F rfl rfl rfl (o_leqF (F.ev rfl) (F.ev rfl) (by omega) ?_); clear F; clear a; intro a F
      refine stepD rfl F rfl (o_pickT (F.ev rfl) (F.ev rfl) ?_); clear F; clear a; intro a F
      refine stepD rfl F rfl (o_assign (F.ev rfl) ?_); clear F; clear a; intro a F
      with_reducible refine l_nil ?_
      with_reducible refine q_then ?_
      with_reducible refine c_ret ?_
      refine p_ret F rfl (.cons (.tmp (F.ev rfl)) .nil) ?_
      exact ⟨rfl, M.ext⟩
  · rw [decide_eq_false c1, Bool.false_and]
    refine fn_ofM (n := 13) [] Try.func23 rfl rfl rfl ?_
    intro a w F M hwW
    refine c_seq ?_
    refine c_region ?_
    (refine stepD rfl F rfl (o_box M (F.ev rfl) rfl ?_); clear F; clear M; intro b1 w M a F)
    refine stepD rfl F rfl (o_assign (F.ev rfl) ?_); clear F; clear a; intro a F
    with_reducible refine l_nil ?_
    with_reducible refine q_then ?_
    with_reducible refine c_seq ?_
    with_reducible refine c_region ?_
    refine stepD rfl F rfl (o_fieldAddr (F.ev rfl) ?_); clear F; clear a; intro a F
    refine stepD rfl F rfl (o_load1 M (F.ev rfl) (by repeat (first | exact .here | apply Has.there)) (by first | assumption | rfl) ?_); clear F; clear a; intro a F
    refine stepD rfl F rfl (o_lenSl (F.ev rfl) ?_); clear F; clear a; intro a F
    refine stepD rfl F rfl (o_leqF (F.ev rfl) (F.ev rfl) (by omega) ?_); clear F; clear a; intro a F
    refine stepD rfl F rfl (o_move (F.ev rfl) ?_); clear F; clear a; intro a F
    refine stepOff F rfl rfl rfl rfl ?_; clear F; clear a; intro a F
    refine stepOff F rfl rfl rfl rfl ?_; clear F; clear a; intro a F
    refine stepOff F rfl rfl rfl rfl ?_; clear F; clear a; intro a F
    refine stepOff F rfl rfl rfl rfl ?_; clear F; clear a; intro a F
    refine stepD rfl F rfl (o_pickF (F.ev rfl) (F.ev rfl) ?_); clear F; clear a; intro a F
    refine stepD rfl F rfl (o_assign (F.ev rfl) ?_); clear F; clear a; intro a F
    with_reducible refine l_nil ?_
    with_reducible refine q_then ?_
    with_reducible refine c_ret ?_
    refine p_ret F rfl (.cons (.tmp (F.ev rfl)) .nil) ?_
    exact ⟨rfl, M.ext⟩
end Go.Proofs.Ytainnefmobfcjaa

/-! FF -/
/-
  multihopworld.IP: its value by the tape.
-/
namespace Go.Proofs.Ytainnefmobfcjaa
set_option linter.unusedVariables false
set_option linter.unusedSimpArgs false
open Go.RowKit
attribute [local irreducible] OpTo wpListIn Code.wpIn MW Cal

def wip0 (xs : List Int) (k : Nat) : List Int := [32, 1, 13, 184, 0, nxV xs k 2, nxV xs (nxK xs k) 2, 0, 0, 0, 0, 0, 0, 0, 0, nxV xs (nxK xs (nxK xs k)) 6]
def wip4 (xs : List Int) (k : Nat) : Nat := nxK xs (nxK xs (nxK xs (nxK xs k)))
def wipV (xs : List Int) (k : Nat) : List Int := if boolV xs (nxK xs (nxK xs (nxK xs k))) 9 then (wip0 xs k).set (nxV xs (wip4 xs k) 16).toNat (bitsOf .xor .u8 ((wip0 xs k).getD (nxV xs (wip4 xs k) 16).toNat 0) (IntKind.u8.wrap (1 * 2 ^ min (nxV xs (nxK xs (wip4 xs k)) 8).toNat IntKind.u8.bits))) else wip0 xs k
def wipK (xs : List Int) (k : Nat) : Nat := if boolV xs (nxK xs (nxK xs (nxK xs k))) 9 then nxK xs (nxK xs (wip4 xs k)) else wip4 xs k
theorem wip0_is (xs : List Int) (k : Nat) : IsIP (wip0 xs k) := by
  have h1 := nxV_bd xs k (n := 2) (by omega)
  have h2 := nxV_bd xs (nxK xs k) (n := 2) (by omega)
  have h3 := nxV_bd xs (nxK xs (nxK xs k)) (n := 6) (by omega)
  exact ⟨rfl, by intro x hx; simp [wip0] at hx; omega⟩
theorem wipV_is (xs : List Int) (k : Nat) : IsIP (wipV xs k) := by
  unfold wipV
  split
  · exact (wip0_is xs k).set _ (xor8_bd _ _).1 (xor8_bd _ _).2
  · exact wip0_is xs k
set_option maxHeartbeats 1000000 in
theorem wipD_c {bt : Nat} {p : Option Addr} {len cap k : Nat} {xs : List Int} (W : World) (hT : TapeS W bt p len xs) (hb : W.heap[bt]? = some (tobj p len cap k)) :
    Cal Try.prog 10 [.pointer (some ⟨bt, 0, none⟩)].toArray W fun v w' => v = .agg (ipC (wipV xs k)).toArray ∧ Mem [bt] W w' [(bt, tobj p len cap (wipK xs k))] := by
  refine fn_ofM (n := 28) [bt] Try.func10 rfl rfl rfl ?_
  intro a w F M hwW
  replace M := M.came hwW hb (by simp) (by simp)
  refine c_seq ?_
  refine c_region ?_
  (refine stepD rfl F rfl (o_alloc M ?_); clear F; clear M; intro b2 w M a F)
  with_reducible refine l_nil ?_
  with_reducible refine q_then ?_
  with_reducible refine c_seq ?_
  with_reducible refine c_region ?_
  refine stepD rfl F rfl (o_move (F.ev rfl) ?_); clear F; clear a; intro a F
  (refine stepD rfl F rfl (o_call (F.ev rfl) (F.evs rfl) (Cal.mono (next_c 2 (by omega) (by omega) _ (hT.later M.ext) (M.heap (.there .here)) ) ?_)); clear F; clear a; have M0 := M; clear M; rintro _ w ⟨rfl, N⟩ a F)
  have hx1 := nxV_bd xs k (n := 2) (by omega)
  replace M := M0.turn1 N (.there .here)
  refine stepD rfl F rfl (o_conv (F.ev rfl) (w_u8 (by omega) (by omega)) ?_); clear F; clear a; intro a F
  refine stepD rfl F rfl (o_move (F.ev rfl) ?_); clear F; clear a; intro a F
  (refine stepD rfl F rfl (o_call (F.ev rfl) (F.evs rfl) (Cal.mono (next_c 2 (by omega) (by omega) _ (hT.later M.ext) (M.heap (.there .here)) ) ?_)); clear F; clear a; have M0 := M; clear M; rintro _ w ⟨rfl, N⟩ a F)
  have hx2 := nxV_bd xs (nxK xs k) (n := 2) (by omega)
  replace M := M0.turn1 N (.there .here)
  refine stepD rfl F rfl (o_conv (F.ev rfl) (w_u8 (by omega) (by omega)) ?_); clear F; clear a; intro a F
  refine stepD rfl F rfl (o_build F rfl rfl ?_); clear F; clear a; intro a F
  (refine stepD rfl F rfl (o_alloc M ?_); clear F; clear M; intro b3 w M a F)
  (refine stepN rfl F (o_storeA M (F.ev rfl) (F.ev rfl) (by rfl) (by rfl) (by repeat (first | exact .here | apply Has.there)) (by rfl) (by repeat (first | exact .here | apply Upd.there)) ?_); clear F; clear M; intro w M a F)
  with_reducible refine l_nil ?_
  with_reducible refine q_then ?_
  with_reducible refine c_seq ?_
  with_reducible refine c_region ?_
  refine stepD rfl F rfl (o_move (F.ev rfl) ?_); clear F; clear a; intro a F
  (refine stepD rfl F rfl (o_call (F.ev rfl) (F.evs rfl) (Cal.mono (next_c 6 (by omega) (by omega) _ (hT.later M.ext) (M.heap (.there (.there .here))) ) ?_)); clear F; clear a; have M0 := M; clear M; rintro _ w ⟨rfl, N⟩ a F)
  have hx3 := nxV_bd xs (nxK xs (nxK xs k)) (n := 6) (by omega)
  replace M := M0.turn1 N (.there (.there .here))
  refine stepD rfl F rfl (o_conv (F.ev rfl) (w_u8 (by omega) (by omega)) ?_); clear F; clear a; intro a F
  refine stepD rfl F rfl (o_indexArr (F.ev rfl) (F.ev rfl) (by omega) (by omega) ?_); clear F; clear a; intro a F
  (refine stepN rfl F (o_store1 M (F.ev rfl) (F.ev rfl) rfl (by repeat (first | exact .here | apply Has.there)) (by rfl) (by repeat (first | exact .here | apply Upd.there)) ?_); clear F; clear M; intro w M a F)
  with_reducible refine l_nil ?_
  with_reducible refine q_then ?_
  with_reducible refine c_seq ?_
  with_reducible refine c_seq ?_
  with_reducible refine c_region ?_
  refine stepD rfl F rfl (o_move (F.ev rfl) ?_); clear F; clear a; intro a F
  obtain ⟨ip, hipd, hip, M⟩ : ∃ ip, ip = wip0 xs k ∧ IsIP ip ∧ Mem [bt] W w [(bt, tobj p len cap (nxK xs (nxK xs (nxK xs k)))), (b3, .cells (ipC ip).toArray 26 (0, 0)), (b2, .cells (ipC [0, 0, 0, 0, 0, 0, 0, 0, 0, 0, 0, 0, 0, 0, 0, 0]).toArray 26 (0, 0))] :=
    ⟨wip0 xs k, rfl, ⟨rfl, by intro x hx; simp [wip0] at hx; omega⟩, M.perm ((List.Perm.refl _).trans (List.perm_append_comm (l₁ := [_, _]) (l₂ := [_])))⟩
  (refine stepD rfl F rfl (o_call (F.ev rfl) (F.evs rfl) (Cal.mono (bool_c 9 (by omega) (by omega) _ (hT.later M.ext) (M.heap .here) ) ?_)); clear F; clear a; have M0 := M; clear M; rintro _ w ⟨rfl, N⟩ a F)
  replace M := M0.turn1 N .here
  clear M0
  have e0 : seg (ipC ip) 0 16 = some (ipC ip) := seg_all (ipC_len hip.len)
  rw [show nxK xs (nxK xs (nxK xs (nxK xs k))) = wip4 xs k from rfl] at M
  obtain ⟨k4, hk4⟩ : ∃ k4, k4 = wip4 xs k := ⟨_, rfl⟩
  rw [← hk4] at M
  cases hc : boolV xs (nxK xs (nxK xs (nxK xs k))) 9
  all_goals rw [hc] at F
  · with_reducible refine l_nil ?_
    with_reducible refine q_then ?_
    refine c_false F rfl rfl ?_
    with_reducible refine c_skip ?_
    with_reducible refine q_then ?_
    with_reducible refine c_seq ?_
    with_reducible refine c_region ?_
    refine stepD rfl F rfl (o_loadA M (F.ev rfl) (by repeat (first | exact .here | apply Has.there)) (by first | assumption | rfl) ?_); clear F; clear a; intro a F
    (refine stepN rfl F (o_storeA M (F.ev rfl) (F.ev rfl) (ipC_len hip.len) (one_ip _)  (by repeat (first | exact .here | apply Has.there))  (put_all (by rw [ipC_len hip.len]; rfl)) (by repeat (first | exact .here | apply Upd.there)) ?_); clear F; clear M; intro w M a F)
    with_reducible refine l_nil ?_
    with_reducible refine q_then ?_
    with_reducible refine c_ret ?_
    exact p_ret F rfl (.cons (.cell (F.ev rfl) (run_loadVar_agg TAgg.h (M.heap (.there (.there .here))) e0)) .nil) ⟨by rw [show wipV xs k = ip by rw [hipd]; unfold wipV; rw [if_neg (by simp [hc])]]; rfl, by rw [show wipK xs k = k4 by rw [hk4]; unfold wipK; rw [if_neg (by simp [hc])]]; exact M.sub (.cons_cons _ (.cons _ (.cons _ (.refl _))))⟩
  · replace F := F.only [0, 2, 3, 16] rfl
    have v1 := nxV_bd xs k4 (n := 16) (by omega)
    have v2 := nxV_bd xs (nxK xs k4) (n := 8) (by omega)
    have hib := hip.at_ (nxV xs k4 16).toNat
    have h1 : nth (ipC ip) (0 + (nxV xs k4 16).toNat * 1) = some (.int .u8 (ip.getD (nxV xs k4 16).toNat 0)) := nth_ip2 hip (by omega) (by omega)
    with_reducible refine l_nil ?_
    with_reducible refine q_then ?_
    refine c_true F rfl rfl ?_
    refine c_drawB (l0 := [(bt, tobj p len cap k4)]) [bt] [1, 5] M 9 F (by kernel_rfl) ?_
    intro w1 M1 hok hef
    have hB : ∀ k ∈ [bt], k ∈ ([(bt, tobj p len cap k4)] : List (Nat × Obj)).map (·.1) := by simp
    have hTw : ∀ w', Ext [bt] w1 w' → TapeS w' bt p len xs := fun w' E => hT.later (M1.ext.trans (E.mono (by simp)))
    refine mK hok rfl rfl (fun a' w' F' E' => o_move (F'.ev rfl) ⟨Ext.refl _ _, rfl⟩) ?_
    refine mE (T' := fun _ w => Mem _ _ w ([(bt, tobj p len cap (nxK xs k4))] ++ _)) hok rfl rfl (fun _ _ _ h k => h.later k) (fun a' w' σ' F' E' T' => o_call (F'.ev rfl) (F'.evs rfl) (Cal.mono (next_c 16 (by omega) (by omega) _ (hTw _ E') (T'.heap .here)) fun _ _ hh => ⟨hh.2.ext, hh.1, Mem.turn1 T' hh.2 .here⟩)) ?_
    refine mK hok rfl rfl (fun a' w' F' E' => o_indexArr (F'.ev rfl) (F'.ev rfl) (by omega) (by omega) ⟨Ext.refl _ _, rfl⟩) ?_
    refine mK hok rfl rfl (fun a' w' F' E' => o_load1 (M1.laterBut E' hB) (F'.ev rfl) (by repeat (first | exact .here | apply Has.there)) (by first | assumption | rfl) ⟨Ext.refl _ _, rfl⟩) ?_
    refine mK hok rfl rfl (fun a' w' F' E' => o_move (F'.ev rfl) ⟨Ext.refl _ _, rfl⟩) ?_
    refine mE (T' := fun _ w => Mem _ _ w ([(bt, tobj p len cap (nxK xs (nxK xs k4)))] ++ _)) hok rfl rfl (fun _ _ _ h k => h.later k) (fun a' w' σ' F' E' T' => o_call (F'.ev rfl) (F'.evs rfl) (Cal.mono (next_c 8 (by omega) (by omega) _ (hTw _ E') (T'.heap .here)) fun _ _ hh => ⟨hh.2.ext, hh.1, Mem.turn1 T' hh.2 .here⟩)) ?_
    refine mK hok rfl rfl (fun a' w' F' E' => o_conv (F'.ev rfl) (w_u64 (by omega) (by omega)) ⟨Ext.refl _ _, rfl⟩) ?_
    refine mK hok rfl rfl (fun a' w' F' E' => o_shl (F'.ev rfl) (F'.ev rfl) (by omega) rfl ⟨Ext.refl _ _, rfl⟩) ?_
    refine mK hok rfl rfl (fun a' w' F' E' => o_xor (F'.ev rfl) (F'.ev rfl) rfl ⟨Ext.refl _ _, rfl⟩) ?_
    clear hTw
    (refine mDone rfl hef ?_; clear F; clear M; intro a w F hE2 hX M hDD hPP; clear M1; clear hX; clear hE2; clear hok; clear hef; clear hB; clear hDD; clear hPP; (try dsimp only at F); (try simp only [List.cons_append, List.nil_append] at M))
    have hbd := xor8_bd (ip.getD (nxV xs k4 16).toNat 0) (IntKind.u8.wrap (1 * 2 ^ min (nxV xs (nxK xs k4) 8).toNat IntKind.u8.bits))
    obtain ⟨z, hz⟩ : ∃ z, z = bitsOf BinOp.xor IntKind.u8 (ip.getD (nxV xs k4 16).toNat 0) (IntKind.u8.wrap (1 * 2 ^ min (nxV xs (nxK xs k4) 8).toNat IntKind.u8.bits)) := ⟨_, rfl⟩
    rw [← hz] at F hbd
    refine stepD rfl F rfl (o_indexArr (F.ev rfl) (F.ev rfl) (by omega) (by omega) ?_); clear F; clear a; intro a F
    (refine stepN rfl F (o_store1 M (F.ev rfl) (F.ev rfl) rfl (by repeat (first | exact .here | apply Has.there)) (put1 (q := (nxV xs k4 16).toNat) _ (by omega) (by rw [ipC_len hip.len]; omega)) (by repeat (first | exact .here | apply Upd.there)) ?_); clear F; clear M; intro w M a F)
    rw [← ipC_set] at M
    have hip2 := hip.set (nxV xs k4 16).toNat hbd.1 hbd.2
    obtain ⟨ip2, hi2⟩ : ∃ ip2, ip2 = ip.set (nxV xs k4 16).toNat z := ⟨_, rfl⟩
    rw [← hi2] at M hip2
    have e2 : seg (ipC ip2) 0 16 = some (ipC ip2) := seg_all (ipC_len hip2.len)
    with_reducible refine l_nil ?_
    with_reducible refine q_then ?_
    with_reducible refine c_seq ?_
    with_reducible refine c_region ?_
    refine stepD rfl F rfl (o_loadA M (F.ev rfl) (by repeat (first | exact .here | apply Has.there)) (by first | assumption | rfl) ?_); clear F; clear a; intro a F
    (refine stepN rfl F (o_storeA M (F.ev rfl) (F.ev rfl) (ipC_len hip2.len) (one_ip _)  (by repeat (first | exact .here | apply Has.there))  (put_all (by rw [ipC_len hip2.len]; rfl)) (by repeat (first | exact .here | apply Upd.there)) ?_); clear F; clear M; intro w M a F)
    with_reducible refine l_nil ?_
    with_reducible refine q_then ?_
    with_reducible refine c_ret ?_
    exact p_ret F rfl (.cons (.cell (F.ev rfl) (run_loadVar_agg TAgg.h (M.heap (.there (.there .here))) e2)) .nil) ⟨by rw [show wipV xs k = ip2 by rw [hi2, hz, hipd, hk4]; unfold wipV; rw [if_pos hc]]; rfl, by rw [show wipK xs k = nxK xs (nxK xs k4) by rw [hk4]; unfold wipK; rw [if_pos hc]]; exact M.sub (.cons_cons _ (.cons _ (.cons _ (.refl _))))⟩

end Go.Proofs.Ytainnefmobfcjaa

/-! FG -/
/-
  multihopworld: Time, Prefix, their values by the tape.
-/
namespace Go.Proofs.Ytainnefmobfcjaa
set_option linter.unusedVariables false
set_option linter.unusedSimpArgs false
open Go.RowKit
attribute [local irreducible] OpTo wpListIn Code.wpIn MW Cal

def wtV (xs : List Int) (k : Nat) (base : Int) : Int := if 0 < (if base + nxV xs k 60 - 30 < 1099511627776 then base + nxV xs k 60 - 30 else 1099511627776) then (if base + nxV xs k 60 - 30 < 1099511627776 then base + nxV xs k 60 - 30 else 1099511627776) else 0
theorem wtV_bd (xs : List Int) (k : Nat) (base : Int) : 0 ≤ wtV xs k base ∧ wtV xs k base ≤ 1099511627776 := by
  unfold wtV
  constructor <;> (repeat' split) <;> omega
theorem wtime_c {bt : Nat} {p : Option Addr} {len cap k : Nat} {xs : List Int} (base : Int) (h0 : 0 ≤ base) (h1 : base ≤ 1099511627776) (W : World) (hT : TapeS W bt p len xs) (hb : W.heap[bt]? = some (tobj p len cap k)) :
    Cal Try.prog 28 [.pointer (some ⟨bt, 0, none⟩), .int .i64 base].toArray W fun v w' => v = .int .i64 (wtV xs k base) ∧ Mem [bt] W w' [(bt, tobj p len cap (nxK xs k))] := by
  refine fn_ofM (n := 12) [bt] Try.func28 rfl rfl rfl ?_
  intro a w F M hwW
  replace M := M.came hwW hb (by simp) (by simp)
  have hx := nxV_bd xs k (n := 60) (by omega)
  with_reducible refine c_seq ?_
  with_reducible refine c_region ?_
  refine stepD rfl F rfl (o_assign (F.ev rfl) ?_); clear F; clear a; intro a F
  with_reducible refine l_nil ?_
  with_reducible refine q_then ?_
  with_reducible refine c_seq ?_
  with_reducible refine c_region ?_
  refine stepD rfl F rfl (o_move (F.ev rfl) ?_); clear F; clear a; intro a F
  refine stepD rfl F rfl (o_move (F.ev rfl) ?_); clear F; clear a; intro a F
  (refine stepD rfl F rfl (o_call (F.ev rfl) (F.evs rfl) (Cal.mono (next_c 60 (by omega) (by omega) _ (hT.later M.ext) (M.heap .here) ) ?_)); clear F; clear a; have M0 := M; clear M; rintro _ w ⟨rfl, N⟩ a F)
  replace M := M0.turn1 N .here
  clear M0
  refine stepD rfl F rfl (o_add (F.ev rfl) (F.ev rfl) (w_i64 (by omega) (by omega)) ?_); clear F; clear a; intro a F
  refine stepD rfl F rfl (o_sub (F.ev rfl) (F.ev rfl) (w_i64 (by omega) (by omega)) ?_); clear F; clear a; intro a F
  refine stepD rfl F rfl (o_min (F.ev rfl) (F.ev rfl) ?_); clear F; clear a; intro a F
  refine stepD rfl F rfl (o_max (F.ev rfl) (F.ev rfl) ?_); clear F; clear a; intro a F
  refine stepD rfl F rfl (o_assign (F.ev rfl) ?_); clear F; clear a; intro a F
  with_reducible refine l_nil ?_
  with_reducible refine q_then ?_
  with_reducible refine c_ret ?_
  refine p_ret F rfl (.cons (.tmp (F.ev rfl)) .nil) ?_
  exact ⟨rfl, M⟩

theorem nth_tab {k : IntKind} {xs : List Int} {i : Int} (h0 : 0 ≤ i) (h1 : i < xs.length) : nth (xs.map (Value.int k)) (0 + i.toNat * 1) = some (.int k (xs.getD i.toNat 0)) := by
  have h : i.toNat < xs.length := by omega
  rw [nth_spec, show 0 + i.toNat * 1 = i.toNat by omega]
  simp [h]
def tab10 : List Int := [128, 128, 64, 56, 48, 32, 0, 127, 3, 60]
theorem tab10_bd (i : Nat) : 0 ≤ tab10.getD i 0 ∧ tab10.getD i 0 ≤ 128 := by
  rcases Nat.lt_or_ge i 10 with h | h
  · have : ∀ i : Fin 10, 0 ≤ tab10.getD i.val 0 ∧ tab10.getD i.val 0 ≤ 128 := by decide
    exact this ⟨i, h⟩
  · rw [List.getD_eq_getElem?_getD, List.getElem?_eq_none (by simpa [tab10] using h)]
    simp
/-- a prefix off the tape -/
def wpN (xs : List Int) (k : Nat) : Int := if boolV xs (nxK xs k) 7 then nxV xs (nxK xs (nxK xs k)) 129 else tab10.getD (nxV xs k 10).toNat 0
def wpK0 (xs : List Int) (k : Nat) : Nat := if boolV xs (nxK xs k) 7 then nxK xs (nxK xs (nxK xs k)) else nxK xs (nxK xs k)
def wpA (xs : List Int) (k : Nat) : List Int := wipV xs (wpK0 xs k)
def wpK (xs : List Int) (k : Nat) : Nat := wipK xs (wpK0 xs k)
theorem wpN_bd (xs : List Int) (k : Nat) : 0 ≤ wpN xs k ∧ wpN xs k ≤ 128 := by
  have h1 := nxV_bd xs (nxK xs (nxK xs k)) (n := 129) (by omega)
  unfold wpN
  split
  · omega
  · exact tab10_bd _
theorem wpA_is (xs : List Int) (k : Nat) : IsIP (maskI (wpA xs k) (wpN xs k)) := mask_isIP (wipV_is _ _) _
set_option maxHeartbeats 1000000 in
theorem wprefix_c {bt : Nat} {p : Option Addr} {len cap k : Nat} {xs : List Int} (W : World) (hT : TapeS W bt p len xs) (hb : W.heap[bt]? = some (tobj p len cap k)) :
    Cal Try.prog 61 [.pointer (some ⟨bt, 0, none⟩)].toArray W fun v w' => v = .agg (pfC (maskI (wpA xs k) (wpN xs k)) (wpN xs k)).toArray ∧ Mem [bt] W w' [(bt, tobj p len cap (wpK xs k))] := by
  have v1 := nxV_bd xs k (n := 10) (by omega)
  have v3 := nxV_bd xs (nxK xs (nxK xs k)) (n := 129) (by omega)
  have n1 := nth_tab (k := .i64) (xs := tab10) v1.1 (by simpa [tab10] using v1.2)
  have hbd := wpN_bd xs k
  have hcl : clampB (wpN xs k) = wpN xs k := clamp_in hbd.1 hbd.2
  have s3 := seg_pf (maskI_len (wpA xs k) (wpN xs k)) (wpN xs k)
  refine fn_ofM (n := 17) [bt] Try.func61 rfl rfl rfl ?_
  intro a w F M hwW
  replace M := M.came hwW hb (by simp) (by simp)
  refine c_seq ?_
  refine c_region ?_
  (refine stepD rfl F rfl (o_alloc M ?_); clear F; clear M; intro b2 w M a F)
  with_reducible refine l_nil ?_
  with_reducible refine q_then ?_
  with_reducible refine c_seq ?_
  with_reducible refine c_region ?_
  (refine stepD rfl F rfl (o_buildSlice F M rfl rfl rfl rfl ?_); clear F; clear M; intro b4 w M a F)
  refine stepD rfl F rfl (o_move (F.ev rfl) ?_); clear F; clear a; intro a F
  (refine stepD rfl F rfl (o_call (F.ev rfl) (F.evs rfl) (Cal.mono (next_c 10 (by omega) (by omega) _ (hT.later M.ext) (M.heap (.there (.there .here))) ) ?_)); clear F; clear a; have M0 := M; clear M; rintro _ w ⟨rfl, N⟩ a F)
  replace M := M0.turn1 N (.there (.there .here))
  (refine stepD rfl F rfl (o_indexSl (F.ev rfl) (F.ev rfl) (by omega) (by omega) ?_); clear F; clear a; intro a F)
  (refine stepD rfl F rfl (o_load1 M (F.ev rfl) (by repeat (first | exact .here | apply Has.there)) (n1) ?_); clear F; clear a; intro a F)
  refine stepD rfl F rfl (o_assign (F.ev rfl) ?_); clear F; clear a; intro a F
  with_reducible refine l_nil ?_
  with_reducible refine q_then ?_
  with_reducible refine c_seq ?_
  with_reducible refine c_seq ?_
  with_reducible refine c_region ?_
  refine stepD rfl F rfl (o_move (F.ev rfl) ?_); clear F; clear a; intro a F
  (refine stepD rfl F rfl (o_call (F.ev rfl) (F.evs rfl) (Cal.mono (bool_c 7 (by omega) (by omega) _ (hT.later M.ext) (M.heap (.there (.there .here))) ) ?_)); clear F; clear a; have M0 := M; clear M; rintro _ w ⟨rfl, N⟩ a F)
  replace M := M0.turn1 N (.there (.there .here))
  cases hc : boolV xs (nxK xs k) 7
  · rw [hc] at F
    have hN : wpN xs k = tab10.getD (nxV xs k 10).toNat 0 := by unfold wpN; rw [hc]; rfl
    have hK : wpK0 xs k = nxK xs (nxK xs k) := by unfold wpK0; rw [hc]; rfl
    rw [← hK] at M
    rw [← hN] at F
    with_reducible refine l_nil ?_
    with_reducible refine q_then ?_
    refine c_false F rfl rfl ?_
    with_reducible refine c_skip ?_
    with_reducible refine q_then ?_
    with_reducible refine c_seq ?_
    with_reducible refine c_region ?_
    refine stepD rfl F rfl (o_move (F.ev rfl) ?_); clear F; clear a; intro a F
    (refine stepD rfl F rfl (o_call (F.ev rfl) (F.evs rfl) (Cal.mono (wipD_c _ (hT.later M.ext) (M.heap (.there (.there .here))) ) ?_)); clear F; clear a; have M0 := M; clear M; rintro _ w ⟨rfl, N⟩ a F)
    replace M := M0.turn1 N (.there (.there .here))
    refine stepD rfl F rfl (o_move (F.ev rfl) ?_); clear F; clear a; intro a F
    (refine stepD rfl F rfl (o_call (F.ev rfl) (F.evs rfl) (Cal.mono (Cal.to (rmask_c (wpA xs k) (wipV_is _ _) (wpN xs k) _) (by rw [hcl])) ?_)); clear F; clear a; rintro _ w ⟨rfl, hE⟩ a F; replace M := M.later hE; clear hE)
    (refine stepN rfl F (o_storeA M (F.ev rfl) (F.ev rfl) (pfC_len (maskI_len _ _) _) (one_pf _ _)  (by repeat (first | exact .here | apply Has.there))  (put_all (by rw [pfC_len (maskI_len (wpA xs k) (wpN xs k)) (wpN xs k)]; rfl)) (by repeat (first | exact .here | apply Upd.there)) ?_); clear F; clear M; intro w M a F)
    with_reducible refine l_nil ?_
    with_reducible refine q_then ?_
    with_reducible refine c_ret ?_
    refine p_ret F rfl (.cons (.cell (F.ev rfl) (run_loadVar_agg TAgg.h (M.heap (by repeat (first | exact .here | apply Has.there))) s3)) .nil) ⟨rfl, M.sub (by repeat (first | exact List.Sublist.refl _ | apply List.Sublist.cons))⟩
  · rw [hc] at F
    have hN : wpN xs k = nxV xs (nxK xs (nxK xs k)) 129 := by unfold wpN; rw [hc]; rfl
    have hK : wpK0 xs k = nxK xs (nxK xs (nxK xs k)) := by unfold wpK0; rw [hc]; rfl
    with_reducible refine l_nil ?_
    with_reducible refine q_then ?_
    refine c_true F rfl rfl ?_
    with_reducible refine c_region ?_
    refine stepD rfl F rfl (o_move (F.ev rfl) ?_); clear F; clear a; intro a F
    (refine stepD rfl F rfl (o_call (F.ev rfl) (F.evs rfl) (Cal.mono (next_c 129 (by omega) (by omega) _ (hT.later M.ext) (M.heap (.there (.there .here))) ) ?_)); clear F; clear a; have M0 := M; clear M; rintro _ w ⟨rfl, N⟩ a F)
    replace M := M0.turn1 N (.there (.there .here))
    rw [← hK] at M
    rw [← hN] at F
    refine stepD rfl F rfl (o_assign (F.ev rfl) ?_); clear F; clear a; intro a F
    with_reducible refine l_nil ?_
    with_reducible refine q_then ?_
    with_reducible refine c_seq ?_
    with_reducible refine c_region ?_
    refine stepD rfl F rfl (o_move (F.ev rfl) ?_); clear F; clear a; intro a F
    (refine stepD rfl F rfl (o_call (F.ev rfl) (F.evs rfl) (Cal.mono (wipD_c _ (hT.later M.ext) (M.heap (.there (.there .here))) ) ?_)); clear F; clear a; have M0 := M; clear M; rintro _ w ⟨rfl, N⟩ a F)
    replace M := M0.turn1 N (.there (.there .here))
    refine stepD rfl F rfl (o_move (F.ev rfl) ?_); clear F; clear a; intro a F
    (refine stepD rfl F rfl (o_call (F.ev rfl) (F.evs rfl) (Cal.mono (Cal.to (rmask_c (wpA xs k) (wipV_is _ _) (wpN xs k) _) (by rw [hcl])) ?_)); clear F; clear a; rintro _ w ⟨rfl, hE⟩ a F; replace M := M.later hE; clear hE)
    (refine stepN rfl F (o_storeA M (F.ev rfl) (F.ev rfl) (pfC_len (maskI_len _ _) _) (one_pf _ _)  (by repeat (first | exact .here | apply Has.there))  (put_all (by rw [pfC_len (maskI_len (wpA xs k) (wpN xs k)) (wpN xs k)]; rfl)) (by repeat (first | exact .here | apply Upd.there)) ?_); clear F; clear M; intro w M a F)
    with_reducible refine l_nil ?_
    with_reducible refine q_then ?_
    with_reducible refine c_ret ?_
    refine p_ret F rfl (.cons (.cell (F.ev rfl) (run_loadVar_agg TAgg.h (M.heap (by repeat (first | exact .here | apply Has.there))) s3)) .nil) ⟨rfl, M.sub (by repeat (first | exact List.Sublist.refl _ | apply List.Sublist.cons))⟩
end Go.Proofs.Ytainnefmobfcjaa

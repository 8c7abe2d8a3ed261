/-
  The calculus, part G: a range over a function: the iterator's contract (Iter), the caller's rule (c_range).
-/
import Derived.Test.YtadnpidadcgdcaaDoorLibF
namespace Go.Proofs.YtadnpidadcgdcaaDoor
set_option linter.unusedVariables false
set_option linter.unusedSimpArgs false
open Go.RowKit

theorem Cal.mono' {P : Program} {f : FuncId} {args : Array Value} {w : World} {R : Value → World → Prop} {R' : Ending → World → Prop} (h : Cal P f args w R) (hr : ∀ e w', (∃ v, e = Ending.returned v ∧ R v w') → R' e w') : CallsIn (FW none) (0 - 1) P f args w R' := CallsIn.mono h hr

/-- A call of yield. -/
def Yields1 (P : Program) (L : Nat) (args : Array Value) (W : World) (R : Value → World → Prop) : Prop :=
  YieldAt (FW none) 0 P L args W fun e w' => ∃ v, e = .returned v ∧ R v w'

theorem Yields1.mono {P : Program} {L : Nat} {args : Array Value} {W : World} {R R' : Value → World → Prop} (h : Yields1 P L args W R) (hr : ∀ v w', R v w' → R' v w') : Yields1 P L args W R' := by
  obtain ⟨fn, tmps, assign, body, hy, hq⟩ := h
  exact ⟨fn, tmps, assign, body, hy, RoundIn.mono hq fun _ _ ⟨v, he, r⟩ => ⟨v, he, hr _ _ r⟩⟩

theorem o_yield {P : Program} {ρ : Operand → Value} {w : World} {R : Value → World → Prop} {d : Option Tmp} {ty : TypeId} {pos : String} {af : Array Edge} {g : Option (Nat × Bool)} {c : Operand} {L : Nat} {xs : Array Operand} {ts : Array TypeId} {vs : Array Value}
    (hc : ρ c = .func (.yield L) #[] #[]) (ha : xs.map ρ = vs) (h : Yields1 P L vs w R) : OpTo P ⟨d, .call ⟨.value c, xs, ts⟩, ty, pos, af, g⟩ ρ w R := by
  obtain ⟨fn, tmps, assign, body, hy, hr⟩ := h
  unfold OpTo
  have : (execOp ρ ⟨d, .call ⟨.value c, xs, ts⟩, ty, pos, af, g⟩).run P w = .ok (.round L fn tmps assign body) w := by
    simp [execOp, resolve, invoke, Deferred.ofValue, hc, ha, hy]
  rw [this]
  exact hr

/-- **An iterator's contract**: whatever the loop's body does, as long as it keeps to its own blocks. 'Ok pre x': pre having come, x may come; 'p0': the iterator's own blocks; 'Fin xs': all have come. -/
def Iter {α : Type} (P : Program) (gf : FuncId) (lb : List Value) (encs : α → List Value) (Ok : List α → α → Prop) (p0 : List (Nat × Obj)) (Fin : List α → Prop) : Prop :=
  ∀ (L : Nat) (S : List Nat) (W0 w : World) (Inv InvX : List α → List (Nat × Obj) → Prop) (l : List (Nat × Obj)),
    (∀ pre x l W p, Ok pre x → Inv pre l → Mem S W0 W (l ++ p) → Yields1 P L (encs x).toArray W fun v W' => ∃ l', Mem S W0 W' (l' ++ p) ∧ ((v = .bool true ∧ Inv (pre ++ [x]) l') ∨ (v = .bool false ∧ InvX (pre ++ [x]) l'))) →
    Inv [] l → Mem S W0 w (l ++ p0) →
    Cal P gf (.func (.yield L) #[] #[] :: lb).toArray w fun _ W' => ∃ l' p', Mem S W0 W' (l' ++ p') ∧ ((∃ xs, Fin xs ∧ Inv xs l') ∨ (∃ pre, InvX pre l'))

def zipFr : List Nat → List Value → List (Nat × Value) → List (Nat × Value)
  | t :: ts, v :: vs, fr => zipFr ts vs ((t, v) :: fr)
  | _, _, fr => fr

/-- How the body of a round may be left. -/
def RPost {α : Type} (S : List Nat) (W0 : World) (p : List (Nat × Obj)) (Inv : List α → List (Nat × Obj) → Prop) (InvX : Code → List α → List (Nat × Obj) → Prop) (pre : List α) : Exit → Act → World → Prop
  | .normal, _, W => ∃ l, Inv pre l ∧ Mem S W0 W (l ++ p)
  | .ret, _, W => ∃ l, InvX .ret pre l ∧ Mem S W0 W (l ++ p)
  | .exit id, _, W => ∃ l, InvX (.exit id) pre l ∧ Mem S W0 W (l ++ p)
  | _, _, _ => False

theorem Upd.append {l l' : List (Nat × Obj)} {b : Nat} {o o' : Obj} (h : Upd l b o o' l') : ∀ q : List (Nat × Obj), Upd (q ++ l) b o o' (q ++ l')
  | [] => h
  | _ :: q => .there (h.append q)

theorem Mem.perm {S : List Nat} {W0 w : World} {l l' : List (Nat × Obj)} (M : Mem S W0 w l) (h : l.Perm l') : Mem S W0 w l' :=
  ⟨M.ext, fun q hq => M.at_ q (h.mem_iff.2 hq), ((h.map (·.1)).nodup_iff).1 M.nd, fun q hq => M.own q (h.mem_iff.2 hq)⟩
theorem perm3 {α : Type} (a b c : List α) : (a ++ b ++ c).Perm (b ++ (a ++ c)) := by
  rw [← List.append_assoc]
  exact (List.perm_append_comm).append_right c

theorem frm_zip {a : Act} {n : Nat} {df : List Deferred} : ∀ (ps : List Nat) (vs : List Value) (fr : List (Nat × Value)) (tm : Array Value), Frm { a with tmps := tm } n df fr → vs.length = ps.length → (ps.all fun p => Nat.blt p n) = true →
    Frm { a with tmps := (ps.zip vs).foldl (fun (t : Array Value) (x : Nat × Value) => t.setIfInBounds x.1 x.2) tm } n df (zipFr ps vs fr)
  | [], [], fr, tm, F, _, _ => F
  | p :: ps, v :: vs, fr, tm, F, hl, hn => by
    simp only [List.all_cons, Bool.and_eq_true] at hn
    have F' := F.put v hn.1
    exact frm_zip ps vs _ _ F' (by simpa using hl) hn.2
  | [], _ :: _, _, _, _, hl, _ => by simp at hl
  | _ :: _, [], _, _, _, hl, _ => by simp at hl

theorem c_range {α : Type} {P : Program} {Q : Exit → Act → World → Prop} {a : Act} {w W0 : World} {S : List Nat} {n : Nat} {df : List Deferred} {fr : List (Nat × Value)} {g : Operand} {ps : List Tmp} {assign body : Code} {gf : FuncId} {lb : List Value} {encs : α → List Value} {Ok : List α → α → Prop} {p0 l : List (Nat × Obj)} {Fin : List α → Prop}
    (F : Frm a n df fr) (M : Mem S W0 w (l ++ p0)) (hg : Ev fr g = some (.func (.func gf) #[] lb.toArray)) [hb : TBody P gf] (hit : Iter P gf lb encs Ok p0 Fin) (hps : ∀ x, (encs x).length = ps.length) (hpn : (ps.all fun p => Nat.blt p n) = true)
    (Inv : List α → List (Nat × Obj) → Prop) (InvX : Code → List α → List (Nat × Obj) → Prop) (h0 : Inv [] l)
    (hround : ∀ (L : Nat) (pre : List α) (x : α) (l : List (Nat × Obj)) (W : World) (p : List (Nat × Obj)) (a' : Act), Ok pre x → Inv pre l → Mem S W0 W (l ++ p) → Frm a' n [] (zipFr ps (encs x) fr) →
      Wp (some L) P assign (Exit.then (fun a1 W1 => ∃ l1, Mem S W0 W1 (l1 ++ p) ∧ ∀ W2 p2, Mem S W0 W2 (l1 ++ p2) → Wp (some L) P body (RPost S W0 p2 Inv InvX (pre ++ [x])) a1 W2) (fun _ _ _ => False)) a' W)
    (hdone : ∀ (D : Nat) (xs : List α) (l' p' : List (Nat × Obj)) (W : World) (a' : Act), Fin xs → Inv xs l' → Mem S W0 W ((D, .deferred (some [])) :: (l' ++ p')) → Frm a' n (markOf D :: df) fr → Q .normal a' W)
    (hstop : ∀ (D : Nat) (c : Code) (pre : List α) (l' p' : List (Nat × Obj)) (W : World) (a' : Act), InvX c pre l' → Mem S W0 W ((D, .deferred (some [])) :: (l' ++ p')) → Frm a' n (markOf D :: df) fr → Wp none P c Q a' W) :
    Wp none P (.rangeFunc g ps.toArray assign body) Q a w := by
  refine wpIn_rangeFunc ?_
  intro fn _
  obtain ⟨rec, hrec⟩ : ∃ rec : LoopState → Option Code → Loop, rec = fun st pe => { state := st, pending := pe, fn, tmps := a.tmps, params := ps.toArray, assign, body, defers := w.heap.size } := ⟨_, rfl⟩
  have hg' := F.ev hg
  have MD := M.alloc (.deferred (some []))
  have ML := MD.alloc (.loop (rec .ready none))
  rw [World.size_alloc] at ML
  obtain ⟨W1, hW1⟩ : ∃ W1, W1 = (w.alloc (.deferred (some []))).alloc (.loop (rec .ready none)) := ⟨_, rfl⟩
  rw [← hW1] at ML
  refine ⟨w.heap.size + 1, [markOf w.heap.size], W1, { target := .fn (.func gf) lb.toArray, args := #[.func (.yield (w.heap.size + 1)) #[] #[]] }, W1, gf,
    (.func (.yield (w.heap.size + 1)) #[] #[] :: lb).toArray, W1, ?_, ?_, fun _ _ => trivial, ?_, fun hd => by simp [FW] at hd, ?_⟩
  · rw [hW1, hrec]; exact run_enterLoop_outer _ _ _ _ _
  · simp only [resolve, hg']
    simp [go_sem]
  · simp [invoke, run_callFunc hb.h]
  · -- the iterator runs
    let Bk : LoopState → Option Code → List (Nat × Obj) := fun st pe => [(w.heap.size + 1, .loop (rec st pe)), (w.heap.size, .deferred (some []))]
    refine (hit (w.heap.size + 1) S W0 _ (fun pre l' => ∃ l, Inv pre l ∧ l' = Bk .ready none ++ l) (fun pre l' => ∃ c l, InvX c pre l ∧ l' = Bk .done (some c) ++ l) (Bk .ready none ++ l) ?_ ⟨l, h0, rfl⟩ ML).mono' ?_
    · -- one round
      rintro pre x _ W p hok ⟨l, hI, rfl⟩ MW
      have hl := MW.heap (b := w.heap.size + 1) (o := .loop (rec .ready none)) .here
      have hy := run_yield (P := P) (args := (encs x).toArray) hl (by rw [hrec]; simpa using hps x)
      rw [hrec] at hy
      refine ⟨fn, _, assign, body, hy, roundIn_of_wpIn (F := FW none) trivial ?_⟩
      have hzip : (ps.toArray.zip (encs x).toArray).foldl (fun (t : Array Value) (y : Nat × Value) => t.setIfInBounds y.1 y.2) a.tmps = (ps.zip (encs x)).foldl (fun (t : Array Value) (y : Nat × Value) => t.setIfInBounds y.1 y.2) a.tmps := by
        simp
      have Fz : Frm { tmps := (ps.zip (encs x)).foldl (fun (t : Array Value) (y : Nat × Value) => t.setIfInBounds y.1 y.2) a.tmps, defers := [] } n [] (zipFr ps (encs x) fr) :=
        frm_zip (a := { tmps := a.tmps, defers := [] }) ps (encs x) fr a.tmps ⟨F.size, rfl, F.at_⟩ (hps x) hpn
      have MW' : Mem S W0 W (l ++ (Bk .ready none ++ p)) := MW.perm (perm3 _ _ _)
      have h1 := hround (w.heap.size + 1) pre x l W (Bk .ready none ++ p) _ hok hI MW' Fz
      have hup : ∀ (l1 : List (Nat × Obj)) (st st' : LoopState) (pe pe' : Option Code), Upd (l1 ++ (Bk st pe ++ p)) (w.heap.size + 1) (.loop (rec st pe)) (.loop (rec st' pe')) (l1 ++ (Bk st' pe' ++ p)) := fun l1 _ _ _ _ => (Upd.here).append l1
      have hput : ∀ (l1 : List (Nat × Obj)) (st st' : LoopState) (pe pe' : Option Code) (W1 : World), Mem S W0 W1 (l1 ++ (Bk st pe ++ p)) → Mem S W0 (W1.putObj (w.heap.size + 1) (.loop (rec st' pe'))) (l1 ++ (Bk st' pe' ++ p)) := fun l1 st st' pe pe' W1 M1 =>
        M1.turned (hup l1 st st' pe pe') (Ext.putObj _ _ _) (World.putObj_heap_same (Array.getElem?_eq_some_iff.1 (M1.heap (hup l1 st st' pe pe').has)).1)
      show assign.wpIn (FW (some (w.heap.size + 1))) 0 P _ _ W
      rw [hzip]
      refine wpIn_mono h1 ?_
      rintro e a1 W1 hq
      cases e with
      | normal =>
        obtain ⟨l1, M1, hbody⟩ := hq
        have hl1 := M1.heap (hup l1 .ready .busy none none).has
        refine ⟨_, run_beginRound hl1 (by rw [hrec]), ?_⟩
        have M2 := hput l1 .ready .busy none none W1 M1
        have e2 : ({ rec .ready none with state := .busy } : Loop) = rec .busy none := by rw [hrec]
        rw [e2]
        show body.wpIn (FW (some (w.heap.size + 1))) 0 P _ _ _
        refine wpIn_mono (hbody _ _ M2) ?_
        rintro e a3 W3 hp
        have fin : ∀ (jump : Option Code) (l' : List (Nat × Obj)), Mem S W0 W3 (l' ++ (Bk .busy none ++ p)) → (Instr.endRound (w.heap.size + 1) jump).run P W3 = .ok (.bool jump.isNone) (W3.putObj (w.heap.size + 1) (.loop (rec (if jump.isNone then .ready else .done) jump))) ∧
            Mem S W0 (W3.putObj (w.heap.size + 1) (.loop (rec (if jump.isNone then .ready else .done) jump))) (Bk (if jump.isNone then .ready else .done) jump ++ l' ++ p) := fun jump l' M3 => by
          have hl3 := M3.heap (hup l' .busy .busy none none).has
          have hr := run_endRound (P := P) jump hl3
          have e3 : ({ rec .busy none with state := if jump.isNone then .ready else .done, pending := jump } : Loop) = rec (if jump.isNone then .ready else .done) jump := by rw [hrec]
          rw [e3] at hr
          exact ⟨hr, (hput l' .busy _ none jump W3 M3).perm (perm3 _ _ _).symm⟩
        cases e with
        | normal =>
          obtain ⟨l', hI', M3⟩ := hp
          obtain ⟨hr, M4⟩ := fin none l' M3
          exact ⟨_, _, hr, _, rfl, _, M4, .inl ⟨rfl, l', hI', rfl⟩⟩
        | ret =>
          obtain ⟨l', hI', M3⟩ := hp
          obtain ⟨hr, M4⟩ := fin (some .ret) l' M3
          exact ⟨_, _, hr, _, rfl, _, M4, .inr ⟨rfl, .ret, l', hI', rfl⟩⟩
        | exit id =>
          obtain ⟨l', hI', M3⟩ := hp
          obtain ⟨hr, M4⟩ := fin (some (.exit id)) l' M3
          exact ⟨_, _, hr, _, rfl, _, M4, .inr ⟨rfl, .exit id, l', hI', rfl⟩⟩
        | goto t => exact hp.elim
        | panic ch => exact hp.elim
        | outgrown => exact hp.elim
      | exit id => exact hq.elim
      | goto t => exact hq.elim
      | ret => exact hq.elim
      | panic ch => exact hq.elim
      | outgrown => exact hq.elim
    · -- behind the iterator
      have Fm : Frm { a with defers := [markOf w.heap.size] ++ a.defers } n (markOf w.heap.size :: df) fr := ⟨F.size, by simp [F.defers], F.at_⟩
      have endL : ∀ (st : LoopState) (pe : Option Code) (l' p' : List (Nat × Obj)) (W2 : World), st ≠ .busy → Mem S W0 W2 (Bk st pe ++ l' ++ p') → (Instr.endLoop (w.heap.size + 1)).run P W2 = .ok pe (W2.putObj (w.heap.size + 1) (.loop (rec .exhausted pe))) ∧
          Mem S W0 (W2.putObj (w.heap.size + 1) (.loop (rec .exhausted pe))) ((w.heap.size, .deferred (some [])) :: (l' ++ p')) := fun st pe l' p' W2 hst M2 => by
        have hup : Upd (Bk st pe ++ l' ++ p') (w.heap.size + 1) (.loop (rec st pe)) (.loop (rec .exhausted pe)) (Bk .exhausted pe ++ l' ++ p') := Upd.here
        have hl2 := M2.heap hup.has
        have hr := run_endLoop (P := P) hl2 (by rw [hrec]; exact hst)
        have e3 : ({ rec st pe with state := .exhausted } : Loop) = rec .exhausted pe := by rw [hrec]
        have e4 : (rec st pe).pending = pe := by rw [hrec]
        rw [e3, e4] at hr
        have M3 := M2.turned hup (Ext.putObj _ _ (.loop (rec .exhausted pe))) (World.putObj_heap_same (Array.getElem?_eq_some_iff.1 hl2).1)
        exact ⟨hr, M3.sub (List.sublist_cons_self _ _)⟩
      rintro e W2 ⟨v, rfl, l', p', M2, (⟨xs, hF, l2, hI, rfl⟩ | ⟨pre, c, l2, hI, rfl⟩)⟩
      · obtain ⟨hr, M3⟩ := endL _ _ _ _ W2 (by simp) M2
        exact ⟨none, _, hr, hdone _ xs l2 p' _ _ hF hI M3 Fm⟩
      · obtain ⟨hr, M3⟩ := endL _ _ _ _ W2 (by simp) M2
        exact ⟨some c, _, hr, hstop _ c pre l2 p' _ _ hI M3 Fm⟩
end Go.Proofs.YtadnpidadcgdcaaDoor

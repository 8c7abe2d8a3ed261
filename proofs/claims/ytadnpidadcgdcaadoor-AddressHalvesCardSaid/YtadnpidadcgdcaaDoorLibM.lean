/-
  The closing, part M: from what a row says of the arguments to our contracts' forms, and back: a law that answers true and turns nothing that there was.
-/
import Derived.Test.YtadnpidadcgdcaaDoorBits
import Derived.ProofKit
import Derived.OpenShut
import Derived.WideKeyArgs
import Derived.Deep.DeepHandedRow
import Derived.Lib.LaidTab
import Derived.Deep.Slices
import Derived.Shelf.Vars
namespace Go.Proofs.YtadnpidadcgdcaaDoor
set_option linter.unusedVariables false
set_option linter.unusedSimpArgs false
open Go.RowKit

section
variable {H : Type} {enc : TypeId × Value → H} {P : Program}

theorem Ext.grown {W W' : World} (h : Ext [] W W') (may : MemPlace → Prop) : W.keptBut W' may := by
  refine ⟨h.os, h.output, fun i hi => ?_⟩
  rw [h.block i hi (by simp)]
  cases hb : W.heap[i]? with
  | none => rfl
  | some o => cases o <;> simp

theorem Ext.sameAt {W W' : World} (h : Ext [] W W') {p : MemPlace} (hp : p.block < W.heap.size) : W.sameAt W' p := by
  cases p with
  | cell b o => exact World.cell?_of_block (h.block b hp (by simp))
  | map b => exact h.block b hp (by simp)

theorem trodAll_stays (hl : laidOutB P = true) {W W' : World} (hE : Ext [] W W') {sp : Nat → Bool} : ∀ {ts : List TypeId} {vs : List Value} {ds : List (DataW H)} {ps : List MemPlace}, (∀ t ∈ ts, P.readableRec t = true ∧ t < P.types.size) →
    DataW.TrodAll enc P W 0 (fun _ => true) true ts vs ds ps → (∀ p ∈ ps, p.block < W.heap.size ∧ sp p.block = true) → DataW.TrodAll enc P W' 0 sp true ts vs ds ps
  | [], [], [], ps, _, h, _ => h
  | t :: ts, v :: vs, d :: ds, ps, ht, h, hp => by
    obtain ⟨p, q, h1, h2, rfl⟩ := h
    refine ⟨p, q, WideElems.Trod_stays hl (ht t (by simp)).1 (ht t (by simp)).2 h1 (fun x hx => hE.sameAt (hp x (by simp [hx])).1) (fun x hx => (hp x (by simp [hx])).2), ?_, rfl⟩
    exact trodAll_stays hl hE (fun t ht' => ht t (by simp [ht'])) h2 (fun x hx => hp x (by simp [hx]))
  | [], _ :: _, _, _, _, h, _ => by simp [DataW.TrodAll] at h
  | [], [], _ :: _, _, _, h, _ => by simp [DataW.TrodAll] at h
  | _ :: _, [], _, _, _, h, _ => by simp [DataW.TrodAll] at h
  | _ :: _, _ :: _, [], _, _, h, _ => by simp [DataW.TrodAll] at h
theorem trodAll_len {W : World} {base : Nat} {sp : Nat → Bool} {hd : Bool} : ∀ {ts : List TypeId} {vs : List Value} {ds : List (DataW H)} {ps : List MemPlace}, DataW.TrodAll enc P W base sp hd ts vs ds ps → ds.length = ts.length
  | [], [], [], _, _ => rfl
  | _ :: _, _ :: _, _ :: _, _, h => by
    obtain ⟨p, q, _, h2, _⟩ := h
    simp [trodAll_len h2]
  | [], _ :: _, _, _, h => by simp [DataW.TrodAll] at h
  | [], [], _ :: _, _, h => by simp [DataW.TrodAll] at h
  | _ :: _, [], _, _, h => by simp [DataW.TrodAll] at h
  | _ :: _, _ :: _, [], _, h => by simp [DataW.TrodAll] at h

/-- by program: these types can be read -/
def readOk (P : Program) (ts : List TypeId) : Bool := ts.all fun u => P.readableRec u && decide (u < P.types.size)
/-- A law that answers true. -/
theorem law_post {f : Func} {s : ChangeSpec} {W W' : World} {args : Array Value} {ds gs : List (DataW H)} {before : List MemPlace} {tb : TypeId} (hl : laidOutB P = true) (hto : readOk P f.params.toList = true) (hv : s.vars = []) (hr : f.resultTypes = #[tb]) (hb : P.underlying tb = some .bool)
    (hfn : ∀ xs : List (DataW H), xs.length = f.params.toList.length → s.fn H xs = { results := [.lit (.bool true)], args := xs }) (hW : DataW.Whole enc P f.params.toList s.vars false W args.toList ds gs before) (hE : Ext [] W W') :
    s.post enc P f false true false false W args (.bool true) W' := by
  have hts : ∀ t ∈ f.params.toList, P.readableRec t = true ∧ t < P.types.size := fun t ht => by simpa using List.all_eq_true.1 hto t ht
  have hW' := hW
  have hlt := hW.lt
  obtain ⟨p, q, hA, hV, rfl, _, _⟩ := hW
  rw [hv] at hV
  obtain ⟨rfl, rfl⟩ : gs = [] ∧ q = [] := by
    cases gs with
    | nil => exact ⟨rfl, hV⟩
    | cons g gs => exact hV.elim
  have hlen := trodAll_len hA
  refine ⟨ds, [], p ++ [], [], p, [], hW', ?_, ?_, ?_, hE.grown _, fun h => by cases h⟩
  · rw [List.append_nil, hfn ds hlen, hr]
    exact ⟨[], [], shut_bool hb true, rfl, rfl⟩
  · rw [List.append_nil, hfn ds hlen]
    exact trodAll_stays hl hE hts hA fun x hx => by
      have := hlt x (by simpa using hx)
      exact ⟨this, by simpa using this⟩
  · rw [List.append_nil, hfn ds hlen, hv]
    exact rfl

/-! ### types whose parts are integers and bools -/
def wfV : LK → Value → Bool
  | .i k, .int k' n => decide (k = k') && (Lit.int k n).wf
  | .b, .bool _ => true
  | _, _ => false
def wfK : List LK → List Value → Bool
  | [], [] => true
  | k :: ks, x :: xs => wfV k x && wfK ks xs
  | _, _ => false
theorem wfK_fits : ∀ {ks : List LK} {xs : List Value}, wfK ks xs = true → fitsK ks xs = true
  | [], [], _ => rfl
  | k :: ks, x :: xs, h => by
    simp only [wfK, Bool.and_eq_true] at h
    simp only [fitsK, Bool.and_eq_true]
    refine ⟨?_, wfK_fits h.2⟩
    have h1 := h.1
    cases k <;> cases x <;> simp [wfV, fitK] at h1 ⊢
    exact h1.1
  | [], _ :: _, h => by cases h
  | _ :: _, [], h => by cases h
theorem wfK_append : ∀ {ks ks' : List LK} {xs xs' : List Value}, wfK ks xs = true → wfK ks' xs' = true → wfK (ks ++ ks') (xs ++ xs') = true
  | [], ks', [], xs', _, h => h
  | k :: ks, ks', x :: xs, xs', h, h' => by
    simp only [wfK, Bool.and_eq_true] at h
    simp only [List.cons_append, wfK, Bool.and_eq_true]
    exact ⟨h.1, wfK_append h.2 h'⟩
  | [], _, _ :: _, _, h, _ => by cases h
  | _ :: _, _, [], _, h, _ => by cases h
theorem flat_wf {ks : List LK} : ∀ (n : Nat) (xs : List Value), xs.length = n * ks.length → (∀ i, i < n → wfK ks ((xs.drop (i * ks.length)).take ks.length) = true) → wfK (List.replicate n ks).flatten xs = true
  | 0, xs, hl, _ => by
    have : xs = [] := List.length_eq_zero_iff.1 (by simpa using hl)
    subst this; rfl
  | n + 1, xs, hl, h => by
    have h0 := h 0 (by omega)
    simp only [Nat.zero_mul, List.drop_zero] at h0
    have hr := flat_wf (ks := ks) n (xs.drop ks.length) (by rw [List.length_drop, hl, Nat.add_mul]; omega) fun i hi => by
      have := h (i + 1) (by omega)
      rw [List.drop_drop]
      rwa [show (i + 1) * ks.length = ks.length + i * ks.length by rw [Nat.add_mul]; omega] at this
    have := wfK_append h0 hr
    rw [List.take_append_drop] at this
    simpa [List.replicate_succ] using this

theorem open_leaf {w : World} {base : Nat} {sp : Nat → Bool} {held : Bool} : ∀ (d : Nat) (t : TypeId) (ks : List LK), leafK P d t = some ks → ∀ (fuel : Nat) (cs : List Value) (x : DataW H × List MemPlace), DataW.trod enc P w base sp held fuel t cs = some x → (P.cellsOf t = ks.length ∨ isAggT P t = false) → wfK ks cs = true
  | 0, _, _, h => by simp [leafK] at h
  | d + 1, t, ks, hk => by
    intro fuel cs x hx hC
    unfold leafK at hk
    cases hu : P.underlying t with
    | none => simp [hu] at hk
    | some dsc =>
      rw [hu] at hk
      cases dsc with
      | int k =>
        simp at hk; subst hk
        obtain ⟨n, rfl, _, hw⟩ := DataW.trod_int hu hx
        simp [wfK, wfV, hw]
      | bool =>
        simp at hk; subst hk
        obtain ⟨b, rfl, _⟩ := DataW.trod_bool hu hx
        simp [wfK, wfV]
      | array n e =>
        simp only at hk
        cases hke : leafK P d e with
        | none => simp [hke] at hk
        | some ke =>
          rw [hke] at hk
          simp only at hk
          split at hk
          · rename_i hc
            simp only [Option.some.injEq] at hk
            subst hk
            obtain ⟨xs, m, rfl, rfl, hl, hn, hat⟩ := DataW.trod_array hu hx
            have hC' : P.cellsOf t = n * ke.length := by
              rcases hC with h | h
              · rw [h]; simp
              · simp [isAggT, hu] at h
            refine flat_wf n cs (by rw [hl, hC']) fun i hi => ?_
            have h1 := hat i hi
            rw [List.getElem?_eq_getElem (by omega)] at h1
            have := open_leaf d e ke hke m _ _ h1 (.inl hc.1)
            rwa [hc.1] at this
          · cases hk
      | struct fs =>
        simp only at hk
        split at hk
        · cases hk
        · obtain ⟨xs, m, rfl, rfl, hl, hn, hat⟩ := DataW.trod_struct hu hx
          have key : ∀ (l : List Field) (off j : Nat) (ks : List LK), fs.toList.drop j = l → leafF P (leafK P d) l off = some ks → cs.length = off + ks.length → wfK ks (cs.drop off) = true := by
            intro l
            induction l with
            | nil =>
              intro off j ks _ hf hlen
              simp only [leafF, Option.some.injEq] at hf
              subst hf
              have : cs.drop off = [] := List.drop_eq_nil_of_le (by simp at hlen; omega)
              rw [this]; rfl
            | cons f l ih =>
              intro off j ks hd hf hlen
              simp only [leafF] at hf
              split at hf
              · cases hf
              · rename_i hno
                have hoff : f.offset = off := Classical.byContradiction fun h => hno (.inr h)
                cases hkf : leafK P d f.type with
                | none => simp [hkf] at hf
                | some kf =>
                  rw [hkf] at hf
                  simp only at hf
                  split at hf
                  · rename_i hc
                    cases hr : leafF P (leafK P d) l (off + kf.length) with
                    | none => simp [hr] at hf
                    | some kr =>
                      simp only [hr, Option.map_some, Option.some.injEq] at hf
                      subst hf
                      have hj : fs[j]? = some f := by
                        have : (fs.toList.drop j)[0]? = some f := by rw [hd]; rfl
                        rw [List.getElem?_drop] at this
                        simpa using this
                      have hjs : j < fs.size := (Array.getElem?_eq_some_iff.1 hj).1
                      have h1 := hat j f hj
                      rw [List.getElem?_eq_getElem (by omega), hoff] at h1
                      have w1 := open_leaf d f.type kf hkf m _ _ h1 (.inl hc)
                      rw [hc] at w1
                      have hd' : fs.toList.drop (j + 1) = l := by
                        have : fs.toList.drop (j + 1) = (fs.toList.drop j).drop 1 := by rw [List.drop_drop]
                        rw [this, hd]; rfl
                      have w2 := ih (off + kf.length) (j + 1) kr hd' hr (by rw [hlen]; simp; omega)
                      rw [← List.drop_drop] at w2
                      have := wfK_append w1 w2
                      rwa [List.take_append_drop] at this
                  · cases hf
          have hC' : P.cellsOf t = ks.length := by
            rcases hC with h | h
            · exact h
            · simp [isAggT, hu] at h
          have := key fs.toList 0 0 ks rfl hk (by rw [hl, hC']; simp)
          simpa using this
      | _ => simp at hk

/-- An argument of such a type. -/
theorem open_lf {w : World} {r : Reach} {b0 base : Nat} {sp : Nat → Bool} {held : Bool} {t : TypeId} {ks : List LK} {v : Value} {d : DataW H} {p : List MemPlace} (hk : (decide (leafK P 8 t = some ks) && isAggT P t && decide (P.cellsOf t = ks.length)) = true) (hval : Value.okWide P w r b0 t v) (h : DataW.Trod enc P w base sp held t v d p) :
    ∃ xs : List Value, v = .agg xs.toArray ∧ wfK ks xs = true := by
  simp only [Bool.and_eq_true, decide_eq_true_eq] at hk
  obtain ⟨fuel, hf⟩ := h
  have hag : ∃ cs, v = .agg cs := by
    have := hk.1.2
    unfold isAggT at this
    unfold Value.okWide at hval
    split at this
    · rename_i hu; rw [hu] at hval; obtain ⟨cs, h, _⟩ := hval; exact ⟨cs, h⟩
    · rename_i hu; rw [hu] at hval; obtain ⟨cs, h, _⟩ := hval; exact ⟨cs, h⟩
    · cases this
  obtain ⟨cs, rfl⟩ := hag
  exact ⟨cs.toList, by simp, open_leaf 8 t ks hk.1.1 fuel _ _ hf (.inl hk.2)⟩
theorem wf_bd {k : IntKind} {n : Int} (h : (Lit.int k n).wf = true) : k.min ≤ n ∧ n ≤ k.max := by
  simpa [Lit.wf] using h
end
end Go.Proofs.YtadnpidadcgdcaaDoor

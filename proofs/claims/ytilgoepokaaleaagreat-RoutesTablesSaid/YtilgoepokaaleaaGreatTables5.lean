/-
  Texts joined: LibU, Y7, Y8, Y9, YD, YE, LibY, YL, Z0, Z9, ZA, ZB, ZE, ZC, ZD, ZG, ZK, ZH, ZL.
-/
import Derived.Test.YtilgoepokaaleaaGreatTables4
import Derived.Shelf.SlSortCmp.WholeK
import Derived.Shelf.SlSortCmp.NoneTotal
import Derived.Test.YtilgoepokaaleaaGreatProg
/-! LibU -/
namespace Go.Proofs.YtilgoepokaaleaaGreat
set_option linter.unusedVariables false
set_option linter.unusedSimpArgs false
open Go.RowKit Go.Sort Go.Shelf
theorem ext_grow {w w' : World} (h : Ext [] w w') : ∃ q os', w' = grow (w.drewN q) os' := by
  refine ⟨w'.drawn - w.drawn, w'.heap.extract w.heap.size w'.heap.size, ?_⟩
  obtain ⟨hp, tp, dr, os, ou⟩ := w'
  obtain ⟨h1, h2, h3, h4, h5, h6⟩ := h
  simp only at h1 h2 h3 h4 h5 h6
  subst h1 h2 h3
  simp only [grow, World.drewN]
  congr 1
  · apply Array.ext'
    apply List.ext_getElem?
    intro i
    simp only [Array.getElem?_toList]
    rcases Nat.lt_or_ge i w.heap.size with h | h
    · rw [Array.getElem?_append_left h]
      exact h6 i h (by simp)
    · rw [Array.getElem?_append_right h, Array.getElem?_extract]
      split
      · rename_i h7
        congr 1
        omega
      · rename_i h7
        exact Array.getElem?_eq_none (by omega)
  · omega
theorem encL_get {α : Type} {enc : α → List Value} {k : Nat} (hk : ∀ x, (enc x).length = k) (h0 : 0 < k) : ∀ (ls : List α) (j : Nat), j < ls.length * k → (encL enc ls)[j]? = (ls[j / k]?).bind fun x => (enc x)[j % k]?
  | [], j, h => by simp at h
  | x :: xs, j, h => by
    rw [encL_cons]
    rcases Nat.lt_or_ge j k with hj | hj
    · rw [List.getElem?_append_left (by rw [hk]; exact hj), Nat.div_eq_of_lt hj, Nat.mod_eq_of_lt hj]
      rfl
    · have e1 : j / k = (j - k) / k + 1 := by
        rw [show j = (j - k) + k by omega, Nat.add_div_right _ h0]
        simp
      have e2 : j % k = (j - k) % k := by
        rw [show j = (j - k) + k by omega, Nat.add_mod_right]
        simp
      rw [List.getElem?_append_right (by rw [hk]; exact hj), hk, e1, e2, encL_get hk h0 xs (j - k) (by simp only [List.length_cons, Nat.add_mul] at h; omega)]
      simp
theorem flat_enc {α : Type} [Inhabited α] {enc : α → List Value} {k : Nat} (hk : ∀ x, (enc x).length = k) (h0 : 0 < k) (d : Array α) : (flatK enc k d).toList = encL enc d.toList := by
  have hl : (encL enc d.toList).length = d.size * k := by rw [encL_len (fun x _ => hk x)]; simp
  apply List.ext_getElem?
  intro j
  rcases Nat.lt_or_ge j (d.size * k) with h | h
  · have hd : j / k < d.size := Nat.div_lt_of_lt_mul (by rwa [Nat.mul_comm] at h)
    have hm : j % k < k := Nat.mod_lt _ h0
    rw [encL_get hk h0 _ _ (by simpa using h)]
    simp only [flatK, Array.toList_map, Array.toList_range]
    rw [List.getElem?_map, List.getElem?_range h]
    simp only [Option.map_some, Array.getElem?_toList]
    rw [Array.getElem?_eq_getElem hd]
    simp only [Option.bind_some]
    rw [getElem!_pos d (j / k) hd, getElem!_pos (enc d[j / k]) (j % k) (by rw [hk]; exact hm), List.getElem?_eq_getElem (by rw [hk]; exact hm)]
  · rw [List.getElem?_eq_none (by simpa using h), List.getElem?_eq_none (by omega)]
section
variable {α : Type} [Inhabited α] {P : Program} {ρ : Ren} {enc : α → List Value} {k : Nat}
theorem cmp_lays {g : Nat} {cf : α → α → Int} {blk off size : Nat} {w : World} (h : ∀ (W : World) (x y : α), Cal P g [.agg (enc x).toArray, .agg (enc y).toArray].toArray W fun v w' => v = .int .i64 (cf x y) ∧ Ext [] W w') : CmpLays P g #[] enc k cf blk off size w := by
  intro m os dk _ x y
  refine ((h (sortWorldK enc k w blk off m dk os) x y).calls).mono ?_
  rintro e w' ⟨v, rfl, rfl, hE⟩
  exact ⟨rfl, ext_grow hE⟩
/-- The sort over a slice of the call's own. -/
theorem sort_own (L : SlLaysF0.n6 P ρ) (hk : ∀ x, (enc x).length = k) (h0 : 0 < k) (h1 : ∀ x, (enc x).all (·.oneCell') = true) (haE : aggTy P (ρ.t 24) k = true) (cf : α → α → Int) (hO : SWO (ltOf cf)) (hT : ∀ x y, ltOf cf x y = false → ltOf cf y x = false → x = y) {g : Nat} (hg : hasBody P g = true)
    (hcmp : ∀ (W : World) (x y : α), Cal P g [.agg (enc x).toArray, .agg (enc y).toArray].toArray W fun v w' => v = .int .i64 (cf x y) ∧ Ext [] W w')
    {S : List Nat} {W0 w : World} {l : List (Nat × Obj)} {f : List (Nat × Obj) → List (Nat × Obj)} {e : TypeId} {v : Value} (ls : List α) {ent : List (Nat × Obj)} (M : Mem S W0 w l) (hOw : OwnS e k v ls.length (encL enc ls) ent) (hl : TailAt ent l f) (hsz : ls.length < 4611686018427387904) :
    Cal P (ρ.f 6) [v, .func (.func g) #[] #[]].toArray w fun _ w' => ∃ ent', OwnS e k v ls.length (encL enc (ls.mergeSort fun x y => !(ltOf cf) y x)) ent' ∧ Mem S W0 w' (f ent') := by
  obtain ⟨lr, rfl, hf⟩ := hl.spec
  rcases hOw with ⟨rfl, hn, _, rfl⟩ | ⟨b, cap, junk, rfl, rfl, hxl, hjl, hnc⟩
  · have hls : ls = [] := List.length_eq_zero_iff.1 hn
    subst hls
    refine Cal.of_calls (AnyF.slices_SortFunc_none L none 0 (.func (.func g) #[] #[]) w) ?_
    rintro e' w' ⟨rfl, rfl⟩
    exact ⟨_, rfl, [], by simpa [encL] using OwnS.nil e k, by rw [hf]; exact M⟩
  · have hb : w.heap[b]? = some (.cells (encL enc ls ++ junk).toArray e (0, 0)) := M.at_ (b, _) (by simp)
    have hlt : b < w.heap.size := (Array.getElem?_eq_some_iff.1 hb).1
    have hH : HoldsK enc k w b 0 ls.toArray := by
      intro j hj
      rw [size_flatK] at hj
      simp only [List.size_toArray] at hj
      have hfl := flat_enc hk h0 ls.toArray
      have hjf : j < (flatK enc k ls.toArray).size := by rw [size_flatK]; simpa using hj
      refine ⟨?_, by simp [World.frozen?, hb]⟩
      rw [getElem!_pos _ j hjf]
      simp only [World.cell?, hb, id]
      rw [if_neg (by simp), Nat.zero_add, List.getElem?_toArray, List.getElem?_append_left (by rw [hxl]; exact hj)]
      have h2 : (flatK enc k ls.toArray).toList[j]? = (encL enc ls)[j]? := by rw [hfl]
      rw [← h2, Array.getElem?_toList, Array.getElem?_eq_getElem hjf]
    have hagg : ∀ w, (isAgg (ρ.t 24)).run P w = .ok true w := fun w => run_isAgg_agg haE
    have hszo : ∀ w, (sizeOf (ρ.t 24)).run P w = .ok k w := fun w => run_sizeOf_agg haE
    have hcon := AnyQ.slices_SortFunc_total L k hagg hszo enc hk (fun x v hv => List.all_eq_true.1 (h1 x) v hv) cf hO g #[] b 0 cap ls.toArray w (fun args w => run_callFunc hg args w) (cmp_lays hcmp) hH hlt (by simpa using hsz) hT
    simp only [List.size_toArray] at hcon
    refine Cal.of_calls hcon ?_
    rintro e' w' ⟨rfl, n, os, rfl⟩
    refine ⟨_, rfl, [(b, .cells (encL enc (ls.mergeSort fun x y => !(ltOf cf) y x) ++ junk).toArray e (0, 0))], .inr ⟨b, cap, junk, rfl, rfl, by rw [encL_len (fun x _ => hk x)]; simp, hjl, hnc⟩, ?_⟩
    rw [hf]
    obtain ⟨ds, hds⟩ : ∃ ds, ds = ls.mergeSort fun x y => !(ltOf cf) y x := ⟨_, rfl⟩
    rw [← hds]
    have hdl : ds.length = ls.length := by rw [hds]; simp
    clear hcon hH
    have hcells : putCells id 0 (flatK enc k ds.toArray) (encL enc ls ++ junk).toArray = (encL enc ds ++ junk).toArray := by
      have hfl := flat_enc hk h0 ds.toArray
      have hfs : (flatK enc k ds.toArray).size = ls.length * k := by rw [size_flatK]; simp [hdl]
      have hel : (encL enc ds).length = ls.length * k := by rw [encL_len (fun x _ => hk x), hdl]
      apply Array.ext'
      apply List.ext_getElem?
      intro i
      simp only [putCells, Array.getElem?_toList, Array.getElem?_mapIdx, List.getElem?_toArray]
      rcases Nat.lt_or_ge i (ls.length * k) with hi | hi
      · rw [List.getElem?_append_left (by omega), List.getElem?_append_left (by omega), List.getElem?_eq_getElem (show i < (encL enc ls).length by omega)]
        simp only [Option.map_some]
        rw [if_pos ⟨Nat.zero_le _, by omega⟩, Nat.sub_zero, getElem!_pos _ i (by omega)]
        have h2 : (flatK enc k ds.toArray).toList[i]? = (encL enc ds)[i]? := by rw [hfl]
        rw [← h2, Array.getElem?_toList, Array.getElem?_eq_getElem (by omega)]
        rfl
      · rw [List.getElem?_append_right (by omega), List.getElem?_append_right (by omega), hxl, hel]
        cases hjv : junk[i - ls.length * k]? with
        | none => rfl
        | some z =>
          simp only [Option.map_some]
          rw [if_neg (by omega)]
    have hnew : (sortWorldK enc k w b 0 n ds.toArray os).heap[b]? = some (.cells (encL enc ds ++ junk).toArray e (0, 0)) := by
      have hs : b < (putRowK enc k (Go.Sort.ahead w n) b 0 ds.toArray).heap.size := by simpa [putRowK, Go.Sort.ahead] using hlt
      simp only [sortWorldK, grow]
      rw [Array.getElem?_append_left hs]
      simp only [putRowK, putRow, mapBlock, Go.Sort.ahead]
      rw [Array.getElem?_modify]
      simp only [if_true, hb, Option.map_some, onCells, hcells]
    have hext : Ext [b] w (sortWorldK enc k w b 0 n ds.toArray os) := by
      refine ⟨rfl, rfl, rfl, ?_, ?_, fun j hj hne => ?_⟩
      · simp [sortWorldK, grow, putRowK, putRow, mapBlock, Go.Sort.ahead]
      · simp [sortWorldK, grow, putRowK, putRow, mapBlock, Go.Sort.ahead]
      · have hs : j < (putRowK enc k (Go.Sort.ahead w n) b 0 ds.toArray).heap.size := by simpa [putRowK, Go.Sort.ahead] using hj
        simp only [sortWorldK, grow]
        rw [Array.getElem?_append_left hs]
        simp only [putRowK, putRow, mapBlock, Go.Sort.ahead]
        rw [Array.getElem?_modify, if_neg (by intro h; exact hne (by simp [h]))]
    exact M.turned ((Upd.here (l := [])).append lr) hext hnew
end
end Go.Proofs.YtilgoepokaaleaaGreat
/-! Y7 -/
namespace Go.Proofs.YtilgoepokaaleaaGreat
set_option linter.unusedVariables false
set_option linter.unusedSimpArgs false
open Go.RowKit Go.Sort
attribute [local irreducible] OpTo wpListIn Code.wpIn MW Cal
/-! the sort -/
abbrev ADst := {d : DstV // IsDv d}
def z16 : List Int := [0, 0, 0, 0, 0, 0, 0, 0, 0, 0, 0, 0, 0, 0, 0, 0]
theorem z16_is : IsIP z16 := ⟨rfl, by intro x hx; simp [z16] at hx; omega⟩
instance : Inhabited ADst := ⟨⟨⟨z16, 0, z16, 0, 0⟩, z16_is, z16_is⟩⟩
def cfD (x y : ADst) : Int := cmpD x.1 y.1
theorem ltD (x y : ADst) : ltOf cfD x y = true ↔ cmpD x.1 y.1 < 0 := decide_eq_true_iff
theorem ltD_f (x y : ADst) : ltOf cfD x y = false ↔ ¬ cmpD x.1 y.1 < 0 := decide_eq_false_iff_not
theorem swoD : SWO (ltOf cfD) where
  irrefl x := by rw [ltD_f, cmpD_self]; omega
  trans x y z h1 h2 := by rw [ltD] at *; exact cmpD_trans h1 h2
  ntrans x y z h1 h2 := by
    rw [ltD_f] at *
    intro h
    have h3 := cmpD_anti x.1 y.1
    rcases Int.lt_trichotomy (cmpD y.1 x.1) 0 with h4 | h4 | h4
    · exact h2 (cmpD_trans h4 h)
    · rw [cmpD_zero y.2 x.2 h4] at h2
      exact h2 h
    · omega
theorem totD (x y : ADst) (h1 : ltOf cfD x y = false) (h2 : ltOf cfD y x = false) : x = y := by
  rw [ltD_f] at *
  have h3 := cmpD_anti x.1 y.1
  exact Subtype.ext (cmpD_zero x.2 y.2 (by omega))
end Go.Proofs.YtilgoepokaaleaaGreat
/-! Y8 -/
namespace Go.Proofs.YtilgoepokaaleaaGreat
set_option linter.unusedVariables false
set_option linter.unusedSimpArgs false
open Go.RowKit
attribute [local irreducible] OpTo wpListIn Code.wpIn MW Cal
/-! the reference's steps through both lists -/
def x0 : AdvV := ⟨⟨[], 0, [], 0, 0⟩, ⟨0, 0⟩⟩
def LoK (T l : List AdvV) (i k : Nat) : Prop := ∀ j (hj : j < T.length) i' (hi : i' < l.length), j < k → i ≤ i' → cmpD T[j].to l[i'].to < 0
theorem asc_at {l : List AdvV} (h : AscA l) {i j : Nat} (hi : i < l.length) (hj : j < l.length) (hij : i < j) : cmpD l[i].to l[j].to < 0 := List.pairwise_iff_getElem.1 h i j hi hj hij
theorem LoK.next {T l : List AdvV} {i k : Nat} (h : LoK T l i k) : LoK T l (i + 1) k := fun j hj i' hi h1 h2 => h j hj i' hi h1 (by omega)
theorem LoK.skip {T l : List AdvV} {i k : Nat} (h : LoK T l i k) (hl : AscA l) (hk : k < T.length) (hlt : ∀ hi : i < l.length, cmpD T[k].to l[i].to < 0) : LoK T l i (k + 1) := fun j hj i' hi' h1 h2 => by
  rcases Nat.lt_or_ge j k with h3 | h3
  · exact h j hj i' hi' h3 h2
  · obtain rfl : j = k := by omega
    rcases Nat.lt_or_ge i i' with h4 | h4
    · exact cmpD_trans (hlt (by omega)) (asc_at hl (by omega) hi' h4)
    · obtain rfl : i = i' := by omega
      exact hlt hi'
theorem Mem.empty (w : World) : Mem [] w w [] := ⟨Ext.refl _ _, fun p hp => (by cases hp), by simp, fun p hp => (by cases hp)⟩
end Go.Proofs.YtilgoepokaaleaaGreat
/-! Y9 -/
namespace Go.Proofs.YtilgoepokaaleaaGreat
set_option linter.unusedVariables false
set_option linter.unusedSimpArgs false
open Go.RowKit
attribute [local irreducible] OpTo wpListIn Code.wpIn MW Cal
theorem MapIn.mk {κ : Type} {w : World} {kv : κ → Value} {b : Nat} {o : Obj} {m : List (κ × Value)} (h : w.heap[b]? = some o) (hA : MapAt kv m o) : MapIn w kv (.map (some b)) m := ⟨b, o, rfl, h, hA⟩
end Go.Proofs.YtilgoepokaaleaaGreat
/-! YD -/
namespace Go.Proofs.YtilgoepokaaleaaGreat
set_option linter.unusedVariables false
set_option linter.unusedSimpArgs false
open Go.RowKit
attribute [local irreducible] OpTo wpListIn Code.wpIn MW Cal
/-! Vary -/
def VarI (l s m : List AdvV) : Prop := (m.map AdvV.to).Sublist (s.map AdvV.to) ∧ ∀ y ∈ m, IsAv y ∧ (validM y.own.met = true ∨ ∃ z ∈ l, z.own = y.own)
theorem VarI.add {l s m : List AdvV} {x y : AdvV} (h : VarI l s m) (e : y.to = x.to) (hy : IsAv y ∧ (validM y.own.met = true ∨ ∃ z ∈ l, z.own = y.own)) : VarI l (s ++ [x]) (m ++ [y]) := by
  refine ⟨?_, fun z hz => ?_⟩
  · rw [List.map_append, List.map_append, List.map_singleton, List.map_singleton, e]
    exact h.1.append (List.Sublist.refl _)
  · rcases List.mem_append.1 hz with h1 | h1
    · exact h.2 z h1
    · simp only [List.mem_singleton] at h1
      rw [h1]; exact hy
theorem VarI.skip {l s m : List AdvV} {x : AdvV} (h : VarI l s m) : VarI l (s ++ [x]) m := ⟨by rw [List.map_append]; exact h.1.trans (List.sublist_append_left _ _), h.2⟩
end Go.Proofs.YtilgoepokaaleaaGreat
/-! YE -/
namespace Go.Proofs.YtilgoepokaaleaaGreat
set_option linter.unusedVariables false
set_option linter.unusedSimpArgs false
open Go.RowKit
attribute [local irreducible] OpTo wpListIn Code.wpIn MW Cal
def SlV (n : Nat) (cs : List Value) : Pred := fun v w => SlAt w 37 v n cs
theorem SlV.stays (n : Nat) (cs : List Value) : Stays keepAll (SlV n cs) := fun _ _ _ h E => SlAt.later h E
/-! alike -/
end Go.Proofs.YtilgoepokaaleaaGreat
/-! LibY -/
namespace Go.Proofs.YtilgoepokaaleaaGreat
set_option linter.unusedVariables false
set_option linter.unusedSimpArgs false
open Go.RowKit
theorem b_split {a : Act} {n : Nat} {df : List Deferred} {fr : List (Nat × Value)} {b : Bool} {p : Prop} (F : Frm a n df fr) (t : Nat) (h : look fr t = some (.bool b)) (ht : b = true → p) (hf : b = false → p) : p := by
  cases b
  · exact hf rfl
  · exact ht rfl
theorem ne_of_bne {x y : Int} (h : (x != y) = true) : x ≠ y := bne_iff_ne.1 h
theorem eq_of_bne_false {x y : Int} (h : (x != y) = false) : x = y := by simpa using h
theorem false_of_not {b : Bool} (h : (!b) = true) : b = false := by cases b <;> simp_all
theorem true_of_not {b : Bool} (h : (!b) = false) : b = true := by cases b <;> simp_all
section
variable {P : Program} {ρ : Operand → Value} {w W0 : World} {S : List Nat} {l l' : List (Nat × Obj)} {R : Value → World → Prop} {d : Option Tmp} {ty : TypeId} {pos : String} {af : Array Edge} {g : Option (Nat × Bool)}
theorem o_append1 {α : Type} {enc : α → List Value} {out : List α} {x0 : α} {st xt e : TypeId} {x y : Operand} {sz by_ : Nat} {v xv : Value} {ent : List (Nat × Obj)} {f : List (Nat × Obj) → List (Nat × Obj)} [hst : TU P st (.slice e)] [hel : TEl P e sz by_] [hxt : TNI P xt] (hO : OwnS e sz v out.length (encL enc out) ent) (M : Mem S W0 w l) (hl : TailAt ent l f)
    (hx : ρ x = v) (hy : ρ y = xv) (hX : SrcOf P w xv 1 sz (enc x0)) (hbd : (out.length + 1) * by_ ≤ 140737488355328)
    (h : ∀ v' ent' w', OwnS e sz v' (out ++ [x0]).length (encL enc (out ++ [x0])) ent' → Mem S W0 w' (f ent') → R v' w') (hln : out.length + 1 ≤ 9223372036854775807 := by first | omega | (simp only [List.length_append, List.length_singleton]; omega)) : OpTo P ⟨d, .call ⟨.builtin .append, #[x, y], #[st, xt]⟩, ty, pos, af, g⟩ ρ w R := by
  refine o_append hO M hl hx hy hX hbd hln fun v' ent' w' hO' M' => h v' ent' w' ?_ M'
  rw [encL_app, encL_one, List.length_append, List.length_singleton]
  exact hO'
theorem o_eqlAE {t t' : TypeId} {x y : Operand} {ks : List LK} {xs ys : List Value} {b : Bool} [ht : TEq P t ks] (hx : ρ x = .agg xs.toArray) (hy : ρ y = .agg ys.toArray) (fx : fitsK ks xs = true) (fy : fitsK ks ys = true) (he : eqVs xs ys = b) (h : R (.bool b) w) : OpTo P ⟨d, .binOp .eql t x y t', ty, pos, af, g⟩ ρ w R := o_eqlA hx hy fx fy (by rw [he]; exact h)
theorem o_lenOwn {x : Operand} {t e e' : TypeId} {v : Value} {sz n : Nat} {xs : List Value} {ent : List (Nat × Obj)} (hx : ρ x = v) (hO : OwnS e' sz v n xs ent) [ht : TU P t (.slice e)] (h : R (.int .i64 n) w) : OpTo P ⟨d, .call ⟨.builtin .len, #[x], #[t]⟩, ty, pos, af, g⟩ ρ w R := by
  obtain ⟨p, c, rfl⟩ := hO.slice
  exact o_lenSl hx h
end
theorem SlAt.memB {W : World} {sz : Nat} {q : Option Addr} {n cap : Nat} {cs : List Value} (h : SlAt W sz (.slice q n cap) n cs) (S : List Nat) (hn : ∀ b o s, q = some ⟨b, o, s⟩ → b ∉ S) : 0 < n → ∃ b o xs t fz, q = some ⟨b, o, none⟩ ∧ (∀ w', Ext S W w' → w'.heap[b]? = some (.cells (List.toArray xs) t fz)) ∧ seg xs o (n * sz) = some cs := by
  obtain ⟨p, cap', e, _, _, _, h5⟩ := h
  cases e
  intro h0
  obtain ⟨b, o, xs, t, fz, rfl, hb, hs⟩ := h5 h0
  refine ⟨b, o, xs, t, fz, rfl, fun w' E => ?_, hs⟩
  rw [E.block b (Array.getElem?_eq_some_iff.1 hb).1 (hn b o none rfl)]
  exact hb
/-! one element merged into an ascending list: c tells how each stands to it -/
section
variable {α : Type} (c : α → Int) (x : α)
def mergeG : Bool → List α → List α
  | done, [] => if done then [] else [x]
  | done, y :: l => (if decide (0 ≤ c y) && !done then [x] else []) ++ ((if c y = 0 then [] else [y]) ++ mergeG (done || decide (0 ≤ c y)) l)
theorem mergeG_cons {y : α} {l : List α} {done : Bool} : mergeG c x done (y :: l) = (if decide (0 ≤ c y) && !done then [x] else []) ++ ((if c y = 0 then [] else [y]) ++ mergeG c x (done || decide (0 ≤ c y)) l) := by
  conv => lhs; unfold mergeG
theorem mergeG_nil {done : Bool} : mergeG c x done [] = if done then [] else [x] := rfl
theorem mergeG_len : ∀ {done : Bool} {l : List α}, (mergeG c x done l).length ≤ l.length + (if done then 0 else 1)
  | done, [] => by
    rw [mergeG_nil]
    cases done <;> simp
  | done, y :: l => by
    rw [mergeG_cons]
    have := mergeG_len (done := done || decide (0 ≤ c y)) (l := l)
    generalize decide (0 ≤ c y) = g at *
    have h1 : (if c y = 0 then [] else [y]).length ≤ 1 := by split <;> simp
    generalize (if c y = 0 then [] else [y]) = ys at *
    rw [List.length_append, List.length_append, List.length_cons]
    cases done <;> cases g <;> simp at this ⊢ <;> omega
theorem mergeG_is {l : List α} (ha : l.Pairwise fun a b => 0 ≤ c a → 0 < c b) {done : Bool} : mergeG c x done l = l.filter (fun y => decide (c y < 0)) ++ ((if done then [] else [x]) ++ l.filter (fun y => decide (0 < c y))) := by
  induction l generalizing done with
  | nil => rw [mergeG_nil]; simp
  | cons y l ih =>
    obtain ⟨h1, h2⟩ := List.pairwise_cons.1 ha
    rw [mergeG_cons, ih h2]
    rcases Int.lt_trichotomy (c y) 0 with hc | hc | hc
    · rw [decide_eq_false (show ¬ 0 ≤ c y by omega), if_neg (show ¬ c y = 0 by omega), List.filter_cons_of_pos (by simpa using hc), List.filter_cons_of_neg (by simp; omega)]
      simp
    · have hl : l.filter (fun y => decide (c y < 0)) = [] := by
        rw [List.filter_eq_nil_iff]
        intro z hz
        have := h1 z hz (by omega)
        simp
        omega
      rw [decide_eq_true (show 0 ≤ c y by omega), if_pos hc, List.filter_cons_of_neg (by simp; omega), List.filter_cons_of_neg (by simp; omega), hl]
      cases done <;> simp
    · have hl : l.filter (fun y => decide (c y < 0)) = [] := by
        rw [List.filter_eq_nil_iff]
        intro z hz
        have := h1 z hz (by omega)
        simp
        omega
      rw [decide_eq_true (show 0 ≤ c y by omega), if_neg (show ¬ c y = 0 by omega), List.filter_cons_of_neg (by simp; omega), List.filter_cons_of_pos (by simpa using hc), hl]
      cases done <;> simp
end
end Go.Proofs.YtilgoepokaaleaaGreat
/-! YL -/
namespace Go.Proofs.YtilgoepokaaleaaGreat
set_option linter.unusedVariables false
set_option linter.unusedSimpArgs false
open Go.RowKit
attribute [local irreducible] OpTo wpListIn Code.wpIn MW Cal
/-- one block may be turned, but keeps C -/
def keepRv (b : Nat) (t : TypeId) (C : List Value → Prop) : Keep where
  r := Ext []
  e w w' := Ext [b] w w' ∧ ∀ cs, C cs → w.heap[b]? = some (.cells cs.toArray t (0, 0)) → ∃ cs', C cs' ∧ w'.heap[b]? = some (.cells cs'.toArray t (0, 0))
  refl w := Ext.refl [] w
  re h := ⟨h.any, fun cs hc hb => ⟨cs, hc, by rw [h.block b (Array.getElem?_eq_some_iff.1 hb).1 (by simp)]; exact hb⟩⟩
  trans h k := ⟨h.1.trans k.1, fun cs hc hb => by
    obtain ⟨c1, h1, h2⟩ := h.2 cs hc hb
    exact k.2 c1 h1 h2⟩
  size h := h.1.size
def RvC {α : Type} (Is : α → Prop) (enc : α → List Value) (n : Nat) (junk : List Value) (cs : List Value) : Prop := ∃ l : List α, l.length = n ∧ (∀ x ∈ l, Is x) ∧ cs = encL enc l ++ junk
def ElP {α : Type} (Is : α → Prop) (enc : α → List Value) : Pred := fun v _ => ∃ x, Is x ∧ v = .agg (enc x).toArray
theorem ElP.stays {α : Type} {Is : α → Prop} {enc : α → List Value} (K : Keep) : Stays K (ElP Is enc) := fun _ _ _ h _ => h
theorem mem_set {α : Type} {Is : α → Prop} {l : List α} {q : Nat} {x : α} (h : ∀ y ∈ l, Is y) (hx : Is x) : ∀ y ∈ l.set q x, Is y := fun y hy => by
  rcases List.mem_or_eq_of_mem_set hy with h1 | rfl
  · exact h y h1
  · exact hx
theorem kS_ip : IsIP [255, 0, 0, 0, 0, 0, 0, 0, 0, 0, 0, 0, 0, 0, 0, 0] := ⟨rfl, by intro x hx; simp at hx; omega⟩
def kSR : RouV := ⟨⟨[255, 0, 0, 0, 0, 0, 0, 0, 0, 0, 0, 0, 0, 0, 0, 0], 8, nul16, 0, 1⟩, 1, di0, 0⟩
set_option maxHeartbeats 4000000 in
theorem reverseR_c {l : List RouV} (hx : ∀ x ∈ l, IsRo x) (hlen : l.length ≤ 100000) {b cp : Nat} (junk : List Value) (W : World) (hb : W.heap[b]? = some (.cells (rosC l ++ junk).toArray 53 (0, 0))) :
    Cal Tryz.prog 73 [.slice (some ⟨b, 0, none⟩) l.length cp].toArray W fun _ w' => ∃ l', l'.length = l.length ∧ (∀ x ∈ l', IsRo x) ∧ Mem [b] W w' [(b, .cells (rosC l' ++ junk).toArray 53 (0, 0))] := by
  refine fn_ofM (n := 28) [b] Tryz.func73 rfl rfl rfl ?_
  intro a w F M hwW
  replace M := M.came hwW hb (by simp) (by simp)
  clear hb
  refine c_seq (c_region ?_)
  refine sD F (o_move (F.ev rfl) ?_); clear F a; intro a F
  refine sD F (o_lenSl (F.ev rfl) ?_); clear F a; intro a F
  refine sD F (o_sub (F.ev rfl) (F.ev rfl) (w_i64 (by omega) (by omega)) ?_); clear F a; intro a F
  refine sD F (o_assign (F.ev rfl) ?_); clear F a; intro a F
  refine sD F (o_assign (F.ev rfl) ?_); clear F a; intro a F
  with_reducible refine l_nil (q_then (c_block ?_))
  refine c_loop (fun m a w => ∃ (i : Nat) (j : Int) (l' : List RouV), m = (j + 1 - i).toNat ∧ j < l.length ∧ -1 ≤ j ∧ l'.length = l.length ∧ (∀ x ∈ l', IsRo x) ∧ Frm a 28 [] [(2, .int .i64 i), (3, .int .i64 j), (0, .slice (some ⟨b, 0, none⟩) l.length cp)] ∧ Mem [b] W w [(b, .cells (rosC l' ++ junk).toArray 53 (0, 0))]) _ ⟨0, (l.length : Int) - 1, l, rfl, by omega, by omega, rfl, hx, F.only [2, 3, 0] rfl, M⟩ ?_
  clear F M a
  rintro m a w ⟨i, j, l1, rfl, hj1, hj0, hl1, hx1, F, M⟩
  by_cases hlt : (i : Int) < j
  · refine c_seq ?_
    refine c_seq (c_region ?_)
    refine sD F (o_move (F.ev rfl) ?_); clear F a; intro a F
    refine sD F (o_move (F.ev rfl) ?_); clear F a; intro a F
    refine sD F (o_lssT (F.ev rfl) (F.ev rfl) (by omega) ?_); clear F a; intro a F
    with_reducible refine l_nil (q_then ?_)
    refine c_true F rfl rfl ?_
    with_reducible refine c_skip (q_then (c_seq (c_block ?_)))
    replace F := F.only [2, 3, 0] rfl
    · refine c_drawK (keepRv b 53 (RvC IsRo roC l.length junk)) [13, 15] [] noT 16 F (by kernel_rfl) rfl (fun h => absurd rfl h) (fun h => absurd rfl h) (noT.stays _) (fun _ _ _ => trivial) ?_
      intro w1 hE hsz hok hef
      have M1 := M.later hE
      have blk : ∀ w', (keepRv b 53 (RvC IsRo roC l.length junk)).e w1 w' → ∃ cs, RvC IsRo roC l.length junk cs ∧ w'.heap[b]? = some (.cells cs.toArray 53 (0, 0)) := fun w' e => e.2 _ ⟨l1, hl1, hx1, rfl⟩ (M1.heap .here)
      refine mK hok rfl rfl (fun a' w' F' E' => o_move (F'.ev rfl) ⟨Ext.refl _ _, rfl⟩) ?_
      refine mK hok rfl rfl (fun a' w' F' E' => o_move (F'.ev rfl) ⟨Ext.refl _ _, rfl⟩) ?_
      refine mK hok rfl rfl (fun a' w' F' E' => o_move (F'.ev rfl) ⟨Ext.refl _ _, rfl⟩) ?_
      refine mK hok rfl rfl (fun a' w' F' E' => o_move (F'.ev rfl) ⟨Ext.refl _ _, rfl⟩) ?_
      refine mK hok rfl rfl (fun a' w' F' E' => o_move (F'.ev rfl) ⟨Ext.refl _ _, rfl⟩) ?_
      refine mK hok rfl rfl (fun a' w' F' E' => o_move (F'.ev rfl) ⟨Ext.refl _ _, rfl⟩) ?_
      refine mK hok rfl rfl (fun a' w' F' E' => o_indexSl (F'.ev rfl) (F'.ev rfl) (by omega) (by omega) ⟨Ext.refl _ _, rfl⟩) ?_
      refine mX (V := ElP IsRo roC) hok rfl rfl (ElP.stays _) (fun a' w' F' E' D' => by
        obtain ⟨cs, ⟨l', h1, h2, rfl⟩, hh⟩ := blk w' E'
        exact o_loadHA (F'.ev rfl) hh (own_el (ros_len h2) junk (i := j.toNat) (by omega) (by omega)) ⟨Ext.refl _ _, _, h2 _ (List.getElem_mem _), rfl⟩) ?_
      refine mK hok rfl rfl (fun a' w' F' E' => o_move (F'.ev rfl) ⟨Ext.refl _ _, rfl⟩) ?_
      refine mK hok rfl rfl (fun a' w' F' E' => o_move (F'.ev rfl) ⟨Ext.refl _ _, rfl⟩) ?_
      refine mK hok rfl rfl (fun a' w' F' E' => o_indexSl (F'.ev rfl) (F'.ev rfl) (by omega) (by omega) ⟨Ext.refl _ _, rfl⟩) ?_
      refine mX (V := ElP IsRo roC) hok rfl rfl (ElP.stays _) (fun a' w' F' E' D' => by
        obtain ⟨cs, ⟨l', h1, h2, rfl⟩, hh⟩ := blk w' E'
        exact o_loadHA (F'.ev rfl) hh (own_el (ros_len h2) junk (i := i) (by omega) (by omega)) ⟨Ext.refl _ _, _, h2 _ (List.getElem_mem _), rfl⟩) ?_
      refine mK hok rfl rfl (fun a' w' F' E' => o_indexSl (F'.ev rfl) (F'.ev rfl) (by omega) (by omega) ⟨Ext.refl _ _, rfl⟩) ?_
      refine mENX (V := fun _ _ => True) (T' := noT) hok rfl (fun _ _ _ _ _ => trivial) (noT.stays _) (fun a' w' σ' F' E' D' S' T' => by
        obtain ⟨x, hx1, e⟩ := D' 7 (memDep rfl) (ElP IsRo roC) (by kernel_rfl)
        have F2 := F'.know (d := 21) e
        obtain ⟨cs, ⟨l', h1, h2, rfl⟩, hh⟩ := blk w' E'
        exact o_storeA ((Mem.start [b] w').came rfl hh (by simp) (by simp)) (F2.ev rfl) (F2.ev rfl) (ro_len hx1) (ro_one x) .here (encL_put (enc := roC) (ros_len h2) junk (i := i) (by omega) (put_all (by rw [ro_len hx1, ro_len (h2 _ (List.getElem_mem _))])) (by omega)) .here fun w'' M' => ⟨⟨M'.ext, fun _ _ _ => ⟨_, ⟨_, by simpa using h1, mem_set h2 hx1, rfl⟩, M'.heap .here⟩⟩, trivial, trivial⟩) ?_
      refine mK hok rfl rfl (fun a' w' F' E' => o_indexSl (F'.ev rfl) (F'.ev rfl) (by omega) (by omega) ⟨Ext.refl _ _, rfl⟩) ?_
      refine mENX (V := fun _ _ => True) (T' := noT) hok rfl (fun _ _ _ _ _ => trivial) (noT.stays _) (fun a' w' σ' F' E' D' S' T' => by
        obtain ⟨x, hx1, e⟩ := D' 11 (memDep rfl) (ElP IsRo roC) (by kernel_rfl)
        have F2 := F'.know (d := 25) e
        obtain ⟨cs, ⟨l', h1, h2, rfl⟩, hh⟩ := blk w' E'
        exact o_storeA ((Mem.start [b] w').came rfl hh (by simp) (by simp)) (F2.ev rfl) (F2.ev rfl) (ro_len hx1) (ro_one x) .here (encL_put (enc := roC) (ros_len h2) junk (i := j.toNat) (by omega) (put_all (by rw [ro_len hx1, ro_len (h2 _ (List.getElem_mem _))])) (by omega)) .here fun w'' M' => ⟨⟨M'.ext, fun _ _ _ => ⟨_, ⟨_, by simpa using h1, mem_set h2 hx1, rfl⟩, M'.heap .here⟩⟩, trivial, trivial⟩) ?_
      refine mDone rfl hef ?_
      clear F M
      intro a w F hE2 hX MT hDD hPP
      obtain ⟨cs, ⟨l2, h1, h2, rfl⟩, hh⟩ := blk w hE2
      have M : Mem [b] W w [(b, .cells (rosC l2 ++ junk).toArray 53 (0, 0))] := M1.turned .here hE2.1 hh
      clear hX hDD hPP MT hE2 M1 hE hsz hok hef blk hh
      (try dsimp only at F)
      with_reducible refine l_nil (q_inB (q_then (c_region ?_)))
      refine sD F (o_move (F.ev rfl) ?_); clear F a; intro a F
      refine sD F (o_add (F.ev rfl) (F.ev rfl) (w_i64 (by omega) (by omega)) ?_); clear F a; intro a F
      refine sD F (o_move (F.ev rfl) ?_); clear F a; intro a F
      refine sD F (o_sub (F.ev rfl) (F.ev rfl) (w_i64 (by omega) (by omega)) ?_); clear F a; intro a F
      refine sD F (o_assign (F.ev rfl) ?_); clear F a; intro a F
      refine sD F (o_assign (F.ev rfl) ?_); clear F a; intro a F
      with_reducible refine l_nil (q_then ?_)
      exact ⟨_, by omega, i + 1, j - 1, l2, rfl, by omega, by omega, h1, h2, F.only [2, 3, 0] rfl, M⟩
  · refine c_seq ?_
    refine c_seq (c_region ?_)
    refine sD F (o_move (F.ev rfl) ?_); clear F a; intro a F
    refine sD F (o_move (F.ev rfl) ?_); clear F a; intro a F
    refine sD F (o_lssF (F.ev rfl) (F.ev rfl) (by omega) ?_); clear F a; intro a F
    with_reducible refine l_nil (q_then ?_)
    refine c_false F rfl rfl ?_
    with_reducible refine c_exit (q_thenX (q_thenX (q_inBX ?_)))
    refine p_ret F rfl .nil ?_
    exact ⟨l1, hl1, hx1, M⟩
set_option maxHeartbeats 16000000 in
theorem spoiledR_c {bt : Nat} {p : Option Addr} {len cap k : Nat} {xs : List Int} (l : List RouV) (hx : ∀ x ∈ l, IsRo x) (hlen : l.length ≤ 1000) (v : Value) (W : World) (hS : SlAt W 39 v l.length (rosC l)) (hnb : ∀ b o s k c, v = .slice (some ⟨b, o, s⟩) k c → b ∉ [bt]) (hT : TapeS W bt p len xs) (hb : W.heap[bt]? = some (tobj p len cap k)) :
    Cal Tryz.prog 28 [.pointer (some ⟨bt, 0, none⟩), v].toArray W fun r w' => ∃ (m : List RouV) (k' : Nat), SlN W.heap.size w' 39 r m.length (rosC m) ∧ (∀ x ∈ m, IsRo x) ∧ m.length ≤ l.length + 1 ∧ Mem [bt] W w' [(bt, tobj p len cap k')] := by
  have hbt : bt < W.heap.size := (Array.getElem?_eq_some_iff.1 hb).1
  have kI : IsRo kSR := ⟨⟨kS_ip, nul16_is⟩, trivial⟩
  refine fn_ofM (n := 54) [bt] Tryz.func28 rfl rfl rfl ?_
  intro a w F M hwW
  replace M := M.came hwW hb (by simp) (by simp)
  refine c_seq (c_region ?_)
  refine sD F (o_assign (F.ev rfl) ?_); clear F a; intro a F
  with_reducible refine l_nil (q_then (c_seq (c_region ?_)))
  refine sD F (o_move (F.ev rfl) ?_); clear F a; intro a F
  (refine sD F (o_call (F.ev rfl) (F.evs rfl) (Cal.mono (cloneR_c l (by omega) v _ (hS.laterB hnb M.ext) ) ?_)); clear F; clear a; rintro _ w ⟨es, hO, _, N⟩ a F; replace M := M.joins N; clear N)
  obtain ⟨p0, c0, rfl⟩ := hO.slice
  replace M := M.perm (l' := (bt, tobj p len cap k) :: es) (by classical exact List.perm_iff_count.2 fun _ => by simp only [List.count_append, List.count_cons, List.count_nil, Nat.add_zero, Nat.zero_add] <;> ac_rfl)
  refine sD F (o_build F rfl rfl ?_); clear F a; intro a F
  refine sD F (o_build F rfl rfl ?_); clear F a; intro a F
  refine sD F (o_build F rfl rfl ?_); clear F a; intro a F
  refine sD F (o_build F rfl rfl ?_); clear F a; intro a F
  (refine sD F (o_buildSlice F M rfl rfl rfl (ro_build1 kI) ?_); clear F M; intro b13 w M a F)
  (refine sD F (o_append hO M (.cons (.cons .here)) (F.ev rfl) (F.ev rfl) (SrcOf.cells' (M.heap .here) (sg_all (ro_len kI)) (ro_one _)) (by omega) (by omega) ?_); clear F M; intro u es1 w hO1 M a F)
  replace hO1 : OwnS 53 39 u (l ++ [kSR]).length (rosC (l ++ [kSR])) es1 := by
    show OwnS _ 39 _ (l ++ [kSR]).length (encL roC (l ++ [kSR])) _
    rw [show (l ++ [kSR]).length = l.length + 1 by simp, encL_app, encL_one]
    exact hO1
  have hoi : ∀ y ∈ l ++ [kSR], IsRo y := fun y hy => by
    rcases List.mem_append.1 hy with h | h
    · exact hx y h
    · simp only [List.mem_singleton] at h
      rw [h]; exact kI
  have hol : (l ++ [kSR]).length = l.length + 1 := by simp
  generalize l ++ [kSR] = out at *
  rcases hO1 with ⟨_, h0, _, _⟩ | ⟨b, cp, junk, rfl, rfl, hxl, hjl, hnc⟩
  · omega
  replace M := M.sub (l' := [(bt, tobj p len cap k), (b, .cells (rosC out ++ junk).toArray 53 (0, 0))]) (.cons _ (.refl _))
  replace F := F.only [14, 0] rfl
  have hol2 : (0 : Int) < out.length := by omega
  refine sD F (o_assign (F.ev rfl) ?_); clear F a; intro a F
  with_reducible refine l_nil (q_then (c_seq (c_region ?_)))
  refine sD F (o_move (F.ev rfl) ?_); clear F a; intro a F
  refine sD F (o_move (F.ev rfl) ?_); clear F a; intro a F
  refine sD F (o_move (F.ev rfl) ?_); clear F a; intro a F
  refine sD F (o_lenSl (F.ev rfl) ?_); clear F a; intro a F
  (refine sD F (o_call (F.ev rfl) (F.evs rfl) (Cal.mono (nextE_c out.length hol2 (by omega) _ (hT.later M.ext) (M.heap .here) ) ?_)); clear F; clear a; have M0 := M; clear M; rintro _ w ⟨q, k2, rfl, hq, N⟩ a F)
  replace M := M0.turn1 N .here
  clear M0 N
  obtain ⟨qn, rfl⟩ := Int.eq_ofNat_of_zero_le hq.1
  have hqn : qn < out.length := by omega
  have hqi : IsRo out[qn] := hoi _ (List.getElem_mem hqn)
  have hsz := ros_len hoi
  refine sD F (o_indexSl (F.ev rfl) (F.ev rfl) (by omega) (by omega) ?_); clear F a; intro a F
  refine sD F (o_assign (F.ev rfl) ?_); clear F a; intro a F
  with_reducible refine l_nil (q_then (c_seq (c_seq (c_region ?_))))
  refine sD F (o_move (F.ev rfl) ?_); clear F a; intro a F
  (refine sD F (o_call (F.ev rfl) (F.evs rfl) (Cal.mono (nextE_c 6 (by omega) (by omega) _ (hT.later M.ext) (M.heap .here) ) ?_)); clear F; clear a; have M0 := M; clear M; rintro _ w ⟨z, k3, rfl, hz, N⟩ a F)
  replace M := M0.turn1 N .here
  clear M0 N
  have fin : ∀ o' : List RouV, o'.length = out.length → (∀ y ∈ o', IsRo y) → OwnS 53 39 (.slice (some ⟨b, 0, none⟩) out.length cp) o'.length (rosC o') [(b, .cells (rosC o' ++ junk).toArray 53 (0, 0))] := fun o' e i => .inr ⟨b, cp, junk, by rw [e], rfl, encL_len (ros_len i), by rw [e]; exact hjl, by rw [e]; exact hnc⟩
  refine l_nil ?_
  refine q_then ?_
  repeat (refine c_seq ?_)
  refine c_cut (fun a w => ∃ (k4 : Nat) (m : List RouV), m.length = out.length ∧ (∀ x ∈ m, IsRo x) ∧ Frm a 54 [] [(5, .slice (some ⟨b, 0, none⟩) out.length cp)] ∧ Mem [bt] W w [(bt, tobj p len cap k4), (b, .cells (rosC m ++ junk).toArray 53 (0, 0))]) ?_ ?_
  · by_cases z0 : z = 0
    · have ph : put (rosC out ++ junk) (0 + (qn : Int).toNat * 39 + 35) [.int .u64 0] = some (rosC (out.set qn { out[qn] with nb := 0 }) ++ junk) := encL_put (enc := roC) hsz junk hqn (ro_put_nb hqi 0) (by omega)
      with_reducible refine c_block (c_seq (c_region ?_))
      refine sD F (o_eqlT (F.ev rfl) (F.ev rfl) (by omega) ?_); clear F a; intro a F
      refine sD F (o_assign (F.ev rfl) ?_); clear F a; intro a F
      with_reducible refine l_nil (q_then ?_)
      refine c_true F rfl rfl ?_
      refine c_region ?_
      refine sD F (o_move (F.ev rfl) ?_); clear F a; intro a F
      refine sD F (o_nilCheck (F.ev rfl) rfl ?_); clear F a; intro a F
      refine sD F (o_fieldAddr (F.ev rfl) ?_); clear F a; intro a F
      (refine stepN rfl F (o_store1 M (F.ev rfl) (F.ev rfl) rfl (by repeat constructor) (ph) (by repeat constructor) ?_); clear F M; intro w M a F)
      with_reducible refine l_nil (q_inB ?_)
      exact ⟨k3, _, by simp, mem_set hoi (x := { out[qn] with nb := 0 }) hqi, F.only [5] rfl, M⟩
    by_cases z1 : z = 1
    · have ph : put (rosC out ++ junk) (0 + (qn : Int).toNat * 39 + 36 + 1) [.int .i64 65535] = some (rosC (out.set qn { out[qn] with said := { out[qn].said with met := 65535 } }) ++ junk) := encL_put (enc := roC) hsz junk hqn (ro_put_said_met hqi 65535) (by omega)
      with_reducible refine c_block (c_seq (c_region ?_))
      refine sD F (o_eqlF (F.ev rfl) (F.ev rfl) (by omega) ?_); clear F a; intro a F
      refine sD F (o_assign (F.ev rfl) ?_); clear F a; intro a F
      with_reducible refine l_nil (q_then ?_)
      refine c_false F rfl rfl ?_
      refine c_seq (c_region ?_)
      refine sD F (o_eqlT (F.ev rfl) (F.ev rfl) (by omega) ?_); clear F a; intro a F
      refine sD F (o_assign (F.ev rfl) ?_); clear F a; intro a F
      with_reducible refine l_nil (q_then ?_)
      refine c_true F rfl rfl ?_
      refine c_region ?_
      refine sD F (o_move (F.ev rfl) ?_); clear F a; intro a F
      refine sD F (o_nilCheck (F.ev rfl) rfl ?_); clear F a; intro a F
      refine sD F (o_fieldAddr (F.ev rfl) ?_); clear F a; intro a F
      refine sD F (o_fieldAddr (F.ev rfl) ?_); clear F a; intro a F
      (refine stepN rfl F (o_store1 M (F.ev rfl) (F.ev rfl) rfl (by repeat constructor) (ph) (by repeat constructor) ?_); clear F M; intro w M a F)
      with_reducible refine l_nil (q_inB ?_)
      exact ⟨k3, _, by simp, mem_set hoi (x := { out[qn] with said := { out[qn].said with met := 65535 } }) hqi, F.only [5] rfl, M⟩
    by_cases z2 : z = 2
    · have ph : put (rosC out ++ junk) (0 + (qn : Int).toNat * 39 + 38) [.int .i64 1099511627777] = some (rosC (out.set qn { out[qn] with til := 1099511627777 }) ++ junk) := encL_put (enc := roC) hsz junk hqn (ro_put_til hqi 1099511627777) (by omega)
      with_reducible refine c_block (c_seq (c_region ?_))
      refine sD F (o_eqlF (F.ev rfl) (F.ev rfl) (by omega) ?_); clear F a; intro a F
      refine sD F (o_assign (F.ev rfl) ?_); clear F a; intro a F
      with_reducible refine l_nil (q_then ?_)
      refine c_false F rfl rfl ?_
      refine c_seq (c_region ?_)
      refine sD F (o_eqlF (F.ev rfl) (F.ev rfl) (by omega) ?_); clear F a; intro a F
      refine sD F (o_assign (F.ev rfl) ?_); clear F a; intro a F
      with_reducible refine l_nil (q_then ?_)
      refine c_false F rfl rfl ?_
      refine c_seq (c_region ?_)
      refine sD F (o_eqlT (F.ev rfl) (F.ev rfl) (by omega) ?_); clear F a; intro a F
      refine sD F (o_assign (F.ev rfl) ?_); clear F a; intro a F
      with_reducible refine l_nil (q_then ?_)
      refine c_true F rfl rfl ?_
      refine c_region ?_
      refine sD F (o_move (F.ev rfl) ?_); clear F a; intro a F
      refine sD F (o_nilCheck (F.ev rfl) rfl ?_); clear F a; intro a F
      refine sD F (o_fieldAddr (F.ev rfl) ?_); clear F a; intro a F
      (refine stepN rfl F (o_store1 M (F.ev rfl) (F.ev rfl) rfl (by repeat constructor) (ph) (by repeat constructor) ?_); clear F M; intro w M a F)
      with_reducible refine l_nil (q_inB ?_)
      exact ⟨k3, _, by simp, mem_set hoi (x := { out[qn] with til := 1099511627777 }) hqi, F.only [5] rfl, M⟩
    by_cases z3 : z = 3
    · have ph : put (rosC out ++ junk) (0 + (qn : Int).toNat * 39 + 0 + 34) [.int .u64 0] = some (rosC (out.set qn { out[qn] with to := { out[qn].to with rt := 0 } }) ++ junk) := encL_put (enc := roC) hsz junk hqn (ro_put_to_rt hqi 0) (by omega)
      with_reducible refine c_block (c_seq (c_region ?_))
      refine sD F (o_eqlF (F.ev rfl) (F.ev rfl) (by omega) ?_); clear F a; intro a F
      refine sD F (o_assign (F.ev rfl) ?_); clear F a; intro a F
      with_reducible refine l_nil (q_then ?_)
      refine c_false F rfl rfl ?_
      refine c_seq (c_region ?_)
      refine sD F (o_eqlF (F.ev rfl) (F.ev rfl) (by omega) ?_); clear F a; intro a F
      refine sD F (o_assign (F.ev rfl) ?_); clear F a; intro a F
      with_reducible refine l_nil (q_then ?_)
      refine c_false F rfl rfl ?_
      refine c_seq (c_region ?_)
      refine sD F (o_eqlF (F.ev rfl) (F.ev rfl) (by omega) ?_); clear F a; intro a F
      refine sD F (o_assign (F.ev rfl) ?_); clear F a; intro a F
      with_reducible refine l_nil (q_then ?_)
      refine c_false F rfl rfl ?_
      refine c_seq (c_region ?_)
      refine sD F (o_eqlT (F.ev rfl) (F.ev rfl) (by omega) ?_); clear F a; intro a F
      refine sD F (o_assign (F.ev rfl) ?_); clear F a; intro a F
      with_reducible refine l_nil (q_then ?_)
      refine c_true F rfl rfl ?_
      refine c_region ?_
      refine sD F (o_move (F.ev rfl) ?_); clear F a; intro a F
      refine sD F (o_nilCheck (F.ev rfl) rfl ?_); clear F a; intro a F
      refine sD F (o_fieldAddr (F.ev rfl) ?_); clear F a; intro a F
      refine sD F (o_fieldAddr (F.ev rfl) ?_); clear F a; intro a F
      (refine stepN rfl F (o_store1 M (F.ev rfl) (F.ev rfl) rfl (by repeat constructor) (ph) (by repeat constructor) ?_); clear F M; intro w M a F)
      with_reducible refine l_nil (q_inB ?_)
      exact ⟨k3, _, by simp, mem_set hoi (x := { out[qn] with to := { out[qn].to with rt := 0 } }) hqi, F.only [5] rfl, M⟩
    by_cases z4 : z = 4
    · have ph : put (rosC out ++ junk) (0 + (qn : Int).toNat * 39 + 36 + 1) [.int .i64 (-1)] = some (rosC (out.set qn { out[qn] with said := { out[qn].said with met := (-1) } }) ++ junk) := encL_put (enc := roC) hsz junk hqn (ro_put_said_met hqi (-1)) (by omega)
      with_reducible refine c_block (c_seq (c_region ?_))
      refine sD F (o_eqlF (F.ev rfl) (F.ev rfl) (by omega) ?_); clear F a; intro a F
      refine sD F (o_assign (F.ev rfl) ?_); clear F a; intro a F
      with_reducible refine l_nil (q_then ?_)
      refine c_false F rfl rfl ?_
      refine c_seq (c_region ?_)
      refine sD F (o_eqlF (F.ev rfl) (F.ev rfl) (by omega) ?_); clear F a; intro a F
      refine sD F (o_assign (F.ev rfl) ?_); clear F a; intro a F
      with_reducible refine l_nil (q_then ?_)
      refine c_false F rfl rfl ?_
      refine c_seq (c_region ?_)
      refine sD F (o_eqlF (F.ev rfl) (F.ev rfl) (by omega) ?_); clear F a; intro a F
      refine sD F (o_assign (F.ev rfl) ?_); clear F a; intro a F
      with_reducible refine l_nil (q_then ?_)
      refine c_false F rfl rfl ?_
      refine c_seq (c_region ?_)
      refine sD F (o_eqlF (F.ev rfl) (F.ev rfl) (by omega) ?_); clear F a; intro a F
      refine sD F (o_assign (F.ev rfl) ?_); clear F a; intro a F
      with_reducible refine l_nil (q_then ?_)
      refine c_false F rfl rfl ?_
      refine c_seq (c_region ?_)
      refine sD F (o_eqlT (F.ev rfl) (F.ev rfl) (by omega) ?_); clear F a; intro a F
      refine sD F (o_assign (F.ev rfl) ?_); clear F a; intro a F
      with_reducible refine l_nil (q_then ?_)
      refine c_true F rfl rfl ?_
      refine c_region ?_
      refine sD F (o_move (F.ev rfl) ?_); clear F a; intro a F
      refine sD F (o_nilCheck (F.ev rfl) rfl ?_); clear F a; intro a F
      refine sD F (o_fieldAddr (F.ev rfl) ?_); clear F a; intro a F
      refine sD F (o_fieldAddr (F.ev rfl) ?_); clear F a; intro a F
      (refine stepN rfl F (o_store1 M (F.ev rfl) (F.ev rfl) rfl (by repeat constructor) (ph) (by repeat constructor) ?_); clear F M; intro w M a F)
      with_reducible refine l_nil (q_inB ?_)
      exact ⟨k3, _, by simp, mem_set hoi (x := { out[qn] with said := { out[qn].said with met := (-1) } }) hqi, F.only [5] rfl, M⟩
    · refine c_block ?_
      refine c_seq (c_region ?_)
      refine sD F (o_eqlF (F.ev rfl) (F.ev rfl) (by omega) ?_); clear F a; intro a F
      refine sD F (o_assign (F.ev rfl) ?_); clear F a; intro a F
      with_reducible refine l_nil (q_then ?_)
      refine c_false F rfl rfl ?_
      refine c_seq (c_region ?_)
      refine sD F (o_eqlF (F.ev rfl) (F.ev rfl) (by omega) ?_); clear F a; intro a F
      refine sD F (o_assign (F.ev rfl) ?_); clear F a; intro a F
      with_reducible refine l_nil (q_then ?_)
      refine c_false F rfl rfl ?_
      refine c_seq (c_region ?_)
      refine sD F (o_eqlF (F.ev rfl) (F.ev rfl) (by omega) ?_); clear F a; intro a F
      refine sD F (o_assign (F.ev rfl) ?_); clear F a; intro a F
      with_reducible refine l_nil (q_then ?_)
      refine c_false F rfl rfl ?_
      refine c_seq (c_region ?_)
      refine sD F (o_eqlF (F.ev rfl) (F.ev rfl) (by omega) ?_); clear F a; intro a F
      refine sD F (o_assign (F.ev rfl) ?_); clear F a; intro a F
      with_reducible refine l_nil (q_then ?_)
      refine c_false F rfl rfl ?_
      refine c_seq (c_region ?_)
      refine sD F (o_eqlF (F.ev rfl) (F.ev rfl) (by omega) ?_); clear F a; intro a F
      refine sD F (o_assign (F.ev rfl) ?_); clear F a; intro a F
      with_reducible refine l_nil (q_then ?_)
      refine c_false F rfl rfl ?_
      refine c_region ?_
      refine sD F (o_move (F.ev rfl) ?_); clear F a; intro a F
      (refine sD F (o_call (F.ev rfl) (F.evs rfl) (Cal.mono (reverseR_c hoi (by omega) junk _ (M.heap (.there .here)) ) ?_)); clear F; clear a; have M0 := M; clear M; rintro _ w ⟨o', l1, i1, N⟩ a F)
      replace M := M0.turn1 N (.there .here)
      clear M0 N
      with_reducible refine l_nil (q_inB ?_)
      exact ⟨k3, o', l1, i1, F.only [5] rfl, M⟩
  clear F M a
  rintro a w ⟨k4, m, hm1, hm2, F, M⟩
  have hO3 := (fin m hm1 hm2).slN M (fun q hq => by simp [hq]) (nd_not M.nd (fun q hq => hq))
  with_reducible refine q_then (c_seq (c_region ?_))
  refine sD F (o_move (F.ev rfl) ?_); clear F a; intro a F
  refine sD F (o_assign (F.ev rfl) ?_); clear F a; intro a F
  with_reducible refine l_nil (q_then (c_ret ?_))
  refine p_ret F rfl (.cons (.tmp (F.ev rfl)) .nil) ?_
  exact ⟨m, k4, hO3, hm2, by omega, M.sub (.cons_cons _ (List.nil_sublist _))⟩
end Go.Proofs.YtilgoepokaaleaaGreat
/-! Z0 -/
namespace Go.Proofs.YtilgoepokaaleaaGreat
set_option linter.unusedVariables false
set_option linter.unusedSimpArgs false
open Go.Shelf
def sortDs_ren : Go.Shelf.Ren := ⟨fun | 6 => 99 | 15 => 130 | 14 => 129 | 28 => 154 | 29 => 155 | 20 => 146 | 21 => 147 | 22 => 148 | 23 => 149 | 24 => 150 | 25 => 151 | 26 => 152 | 27 => 153 | 46 => 158 | 47 => 159 | 48 => 160 | 49 => 161 | 50 => 162 | 57 => 163 | n => n, fun | 22 => 101 | 24 => 45 | 25 => 135 | 3 => 3 | 39 => 115 | 0 => 0 | 53 => 175 | 55 => 42 | 4 => 4 | 46 => 169 | 45 => 168 | 50 => 104 | 5 => 5 | 9 => 9 | 66 => 177 | 70 => 181 | 76 => 183 | 77 => 184 | n => n, fun | n => n⟩
theorem sortDs : Go.Proofs.SlLaysF0.n6 Tryz.prog sortDs_ren := {
  mixed := by kernel_rfl
  f6 := ⟨Tryz.f99.name, by decide, Tryz.func99.trans (congrArg some (by kernel_rfl))⟩
  f14 := ⟨Tryz.f129.name, by decide, Tryz.func129.trans (congrArg some (by kernel_rfl))⟩
  f15 := Tryz.func130.trans (congrArg some (by kernel_rfl))
  f20 := ⟨Tryz.f146.name, by decide, Tryz.func146.trans (congrArg some (by kernel_rfl))⟩
  f21 := ⟨Tryz.f147.name, by decide, Tryz.func147.trans (congrArg some (by kernel_rfl))⟩
  f22 := ⟨Tryz.f148.name, by decide, Tryz.func148.trans (congrArg some (by kernel_rfl))⟩
  f23 := ⟨Tryz.f149.name, by decide, Tryz.func149.trans (congrArg some (by kernel_rfl))⟩
  f24 := ⟨Tryz.f150.name, by decide, Tryz.func150.trans (congrArg some (by kernel_rfl))⟩
  f25 := ⟨Tryz.f151.name, by decide, Tryz.func151.trans (congrArg some (by kernel_rfl))⟩
  f26 := ⟨Tryz.f152.name, by decide, Tryz.func152.trans (congrArg some (by kernel_rfl))⟩
  f27 := ⟨Tryz.f153.name, by decide, Tryz.func153.trans (congrArg some (by kernel_rfl))⟩
  f28 := Tryz.func154.trans (congrArg some (by kernel_rfl))
  f29 := Tryz.func155.trans (congrArg some (by kernel_rfl))
  f46 := ⟨Tryz.f158.name, by decide, Tryz.func158.trans (congrArg some (by kernel_rfl))⟩
  f47 := Tryz.func159.trans (congrArg some (by kernel_rfl))
  f48 := Tryz.func160.trans (congrArg some (by kernel_rfl))
  f49 := ⟨Tryz.f161.name, by decide, Tryz.func161.trans (congrArg some (by kernel_rfl))⟩
  f50 := ⟨Tryz.f162.name, by decide, Tryz.func162.trans (congrArg some (by kernel_rfl))⟩
  f57 := ⟨Tryz.f163.name, by decide, Tryz.func163.trans (congrArg some (by kernel_rfl))⟩
  t0 := Tryz.underlying0
  a0 := Tryz.isAgg0
  z0 := Tryz.sizeOf0
  v0 := Tryz.zeroValue0
  t3 := Tryz.underlying3
  a3 := Tryz.isAgg3
  z3 := Tryz.sizeOf3
  v3 := Tryz.zeroValue3
  t4 := Tryz.underlying4
  a4 := Tryz.isAgg4
  z4 := Tryz.sizeOf4
  v4 := Tryz.zeroValue4
  t5 := Tryz.underlying5
  a5 := Tryz.isAgg5
  z5 := Tryz.sizeOf5
  v5 := Tryz.zeroValue5
  t9 := Tryz.underlying9
  a9 := Tryz.isAgg9
  z9 := Tryz.sizeOf9
  v9 := Tryz.zeroValue9
  t22 := Tryz.underlying101
  a22 := Tryz.isAgg101
  z22 := Tryz.sizeOf101
  v22 := Tryz.zeroValue101
  t25 := Tryz.underlying135
  a25 := Tryz.isAgg135
  z25 := Tryz.sizeOf135
  v25 := Tryz.zeroValue135
  t39 := Tryz.underlying115
  a39 := Tryz.isAgg115
  z39 := Tryz.sizeOf115
  v39 := Tryz.zeroValue115
  t45 := Tryz.underlying168
  a45 := Tryz.isAgg168
  z45 := Tryz.sizeOf168
  v45 := Tryz.zeroValue168
  t46 := Tryz.underlying169
  a46 := Tryz.isAgg169
  z46 := Tryz.sizeOf169
  v46 := Tryz.zeroValue169
  t50 := Tryz.underlying104
  a50 := Tryz.isAgg104
  z50 := Tryz.sizeOf104
  v50 := Tryz.zeroValue104
  t53 := Tryz.underlying175
  a53 := Tryz.isAgg175
  z53 := Tryz.sizeOf175
  v53 := Tryz.zeroValue175
  t55 := Tryz.underlying42
  a55 := Tryz.isAgg42
  z55 := Tryz.sizeOf42
  v55 := Tryz.zeroValue42
  t66 := Tryz.underlying177
  a66 := Tryz.isAgg177
  z66 := Tryz.sizeOf177
  v66 := Tryz.zeroValue177
  t70 := Tryz.underlying181
  a70 := Tryz.isAgg181
  z70 := Tryz.sizeOf181
  v70 := Tryz.zeroValue181
  t76 := Tryz.underlying183
  a76 := Tryz.isAgg183
  z76 := Tryz.sizeOf183
  v76 := Tryz.zeroValue183
  t77 := Tryz.underlying184
  a77 := Tryz.isAgg184
  z77 := Tryz.sizeOf184
  v77 := Tryz.zeroValue184 }
end Go.Proofs.YtilgoepokaaleaaGreat
/-! Z9 -/
namespace Go.Proofs.YtilgoepokaaleaaGreat
set_option linter.unusedVariables false
set_option linter.unusedSimpArgs false
open Go.RowKit
attribute [local irreducible] OpTo wpListIn Code.wpIn MW Cal
/-- neighbours that are alike: one of them -/
def dedS {α : Type} [DecidableEq α] (acc : List α) (x : α) : List α := if acc.getLast? = some x then acc else acc ++ [x]
def dedA {α : Type} [DecidableEq α] (ls : List α) : List α := ls.foldl dedS []
section
variable {α : Type} [DecidableEq α]
theorem dedS_last (acc : List α) (x : α) : (dedS acc x).getLast? = some x := by
  unfold dedS
  split
  · assumption
  · simp
theorem dedA_take {ls : List α} {j : Nat} (hj : j < ls.length) : dedA (ls.take (j + 1)) = dedS (dedA (ls.take j)) ls[j] := by
  unfold dedA
  rw [List.take_add_one, List.getElem?_eq_getElem hj, List.foldl_append]
  rfl
theorem dedA_last {ls : List α} {j : Nat} (h0 : 0 < j) (hj : j ≤ ls.length) : (dedA (ls.take j)).getLast? = some ls[j - 1] := by
  obtain ⟨i, rfl⟩ : ∃ i, j = i + 1 := ⟨j - 1, by omega⟩
  rw [dedA_take (by omega), dedS_last]
  simp
theorem dedA_step {ls : List α} {j : Nat} (h0 : 0 < j) (hj : j < ls.length) : dedA (ls.take (j + 1)) = if ls[j] = ls[j - 1] then dedA (ls.take j) else dedA (ls.take j) ++ [ls[j]] := by
  rw [dedA_take hj]
  unfold dedS
  rw [dedA_last h0 (by omega)]
  by_cases h : ls[j] = ls[j - 1]
  · rw [if_pos (by rw [h]), if_pos h]
  · rw [if_neg (by intro e; exact h (by simpa using e.symm)), if_neg h]
theorem dedA_one (ls : List α) : dedA (ls.take 1) = ls.take 1 := by
  cases ls with
  | nil => rfl
  | cons x xs => simp [dedA, dedS]
end
section
variable {P : Program} {ρ : Operand → Value} {w W0 : World} {S : List Nat} {l : List (Nat × Obj)} {l' : List Value → List (Nat × Obj)} {R : Value → World → Prop} {d : Option Tmp} {ty : TypeId} {pos : String} {af : Array Edge} {g : Option (Nat × Bool)}
/-- clear of a slice that is not empty, over a block of ours -/
theorem o_clear {t e : TypeId} {x : Operand} {b off n cap sz : Nat} {zs cs : List Value} {t' : TypeId} [ht : TU P t (.slice e)] [hz : TZero P e zs] (M : Mem S W0 w l) (hx : ρ x = .slice (some ⟨b, off, none⟩) n cap) (hn : 0 < n) (hzl : zs.length = sz) (h1 : zs.all (·.oneCell') = true) (hb : Has l b (.cells cs.toArray t' (0, 0))) (hle : off + n * sz ≤ cs.length)
    (hu : ∀ vs, Upd l b (.cells cs.toArray t' (0, 0)) (.cells (splice cs off vs).toArray t' (0, 0)) (l' vs)) (h : ∀ vs w', vs.length = n * sz → Mem S W0 w' (l' vs) → R (.tuple #[]) w') : OpTo P ⟨d, .call ⟨.builtin .clear, #[x], #[t]⟩, ty, pos, af, g⟩ ρ w R := by
  obtain ⟨m, rfl⟩ : ∃ m, n = m + 1 := ⟨n - 1, by omega⟩
  obtain ⟨z, hzc, hzr⟩ := run_zeroC (w := w) hz.h
  have hzs : z.cells.size = sz := by rw [hzc]; simpa using hzl
  obtain ⟨vs, hvs⟩ : ∃ vs, vs = (Builtin.zeroCells z.cells (m + 1)).toList := ⟨_, rfl⟩
  have hvl : vs.length = (m + 1) * sz := by rw [hvs]; simp [Builtin.zeroCells, hzs]
  have hv1 : ∀ v ∈ vs, v.oneCell' = true := by
    intro v hv
    rw [hvs] at hv
    simp only [Builtin.zeroCells, Array.toList_map, List.mem_map] at hv
    obtain ⟨i, hi, rfl⟩ := hv
    have hi2 : i < (m + 1) * z.cells.size := by simpa using hi
    have hpos : 0 < z.cells.size := Nat.pos_of_ne_zero fun h => by rw [h] at hi2; simp at hi2
    have hlt : i % z.cells.size < z.cells.size := Nat.mod_lt _ hpos
    rw [getElem!_pos z.cells (i % z.cells.size) hlt]
    refine List.all_eq_true.1 h1 _ ?_
    have hm : z.cells[i % z.cells.size] ∈ z.cells.toList := by simp
    have hzz : z.cells.toList = zs := by rw [hzc]
    rwa [hzz] at hm
  obtain ⟨w', hr, hE, hb'⟩ := run_storeRow (P := P) (b := b) (off := off) (t' := t') vs 0 cs w (M.heap hb) (by rw [hvl]; omega) hv1
  have hrun : (Builtin.clear_ #[t] ty #[.slice (some ⟨b, off, none⟩) (m + 1) cap]).run P w = .ok (.tuple #[]) w' := by
    simp [Builtin.clear_, run_underlying ht.h, hzr, ← hvs, hr]
  exact OpTo.val (v := .tuple #[]) (w' := w') (by simp [execOp, resolve, invoke, builtin, hx, hrun]) (h vs w' hvl (M.turned (hu vs) hE hb'))
end
theorem take_set_succ {α : Type} {cur : List α} {i : Nat} {x : α} (h : i < cur.length) : (cur.set i x).take (i + 1) = cur.take i ++ [x] := by
  rw [List.take_add_one, List.getElem?_set_self h, List.take_set_of_le (Nat.le_refl _)]
  rfl
set_option maxHeartbeats 8000000 in
theorem compactD_c (ls : List DstV) (hI : ∀ a ∈ ls, IsDv a) (hlen : ls.length ≤ 100000) {S : List Nat} {W0 w0 : World} {l : List (Nat × Obj)} {f : List (Nat × Obj) → List (Nat × Obj)} {v : Value} {ent : List (Nat × Obj)} (M0 : Mem S W0 w0 l) (hOw : OwnS 45 35 v ls.length (dvsC ls) ent) (hl : TailAt ent l f) :
    Cal Tryz.prog 100 [v].toArray w0 fun r w' => ∃ ls' ent', ls' = dedA ls ∧ OwnS 45 35 r ls'.length (dvsC ls') ent' ∧ Mem S W0 w' (f ent') := by
  have hsz : ∀ x ∈ ls, (dvC x).length = 35 := fun x hx => dv_len (hI x hx)
  obtain ⟨lr, rfl, hf⟩ := hl.spec
  by_cases hn2 : ls.length < 2
  · have hd : dedA ls = ls := by
      rcases ls with _ | ⟨x, _ | ⟨y, r⟩⟩
      · rfl
      · simp [dedA, dedS]
      · simp at hn2; omega
    obtain ⟨q, cap, rfl⟩ := hOw.slice
    refine fn_ofM (n := 61) [] Tryz.func100 rfl rfl rfl ?_
    intro a w F M hwW
    have hE0 : Mem S W0 w (lr ++ ent) := by rw [hwW]; exact M0
    clear M
    have M := hE0
    refine c_seq (c_region ?_)
    refine sD F (o_assign (F.ev rfl) ?_); clear F a; intro a F
    with_reducible refine l_nil (q_then (c_seq (c_seq (c_region ?_))))
    refine sD F (o_move (F.ev rfl) ?_); clear F a; intro a F
    refine sD F (o_lenSl (F.ev rfl) ?_); clear F a; intro a F
    refine sD F (o_lssT (F.ev rfl) (F.ev rfl) (by omega) ?_); clear F a; intro a F
    with_reducible refine l_nil (q_then ?_)
    refine c_true F rfl rfl ?_
    refine c_seq (c_region ?_)
    refine sD F (o_move (F.ev rfl) ?_); clear F a; intro a F
    refine sD F (o_assign (F.ev rfl) ?_); clear F a; intro a F
    with_reducible refine l_nil (q_then (c_ret (q_thenR ?_)))
    refine p_ret F rfl (.cons (.tmp (F.ev rfl)) .nil) ?_
    exact ⟨ls, ent, hd.symm, hOw, by rw [hf]; exact M⟩
  rcases hOw with ⟨_, h0, _, _⟩ | ⟨b, cap, junk, rfl, rfl, hxl, hjl, hnc⟩
  · omega
  replace M0 := M0.perm (l' := (b, .cells (dvsC ls ++ junk).toArray 45 (0, 0)) :: lr) List.perm_append_comm
  refine fn_ofM (n := 61) [] Tryz.func100 rfl rfl rfl ?_
  intro a w F M hwW
  replace M : Mem S W0 w ((b, .cells (dvsC ls ++ junk).toArray 45 (0, 0)) :: lr) := by rw [hwW]; exact M0
  clear M0 hwW
  refine c_seq (c_region ?_)
  refine sD F (o_assign (F.ev rfl) ?_); clear F a; intro a F
  with_reducible refine l_nil (q_then (c_seq (c_seq (c_region ?_))))
  refine sD F (o_move (F.ev rfl) ?_); clear F a; intro a F
  refine sD F (o_lenSl (F.ev rfl) ?_); clear F a; intro a F
  refine sD F (o_lssF (F.ev rfl) (F.ev rfl) (by omega) ?_); clear F a; intro a F
  with_reducible refine l_nil (q_then ?_)
  refine c_false F rfl rfl ?_
  with_reducible refine c_skip (q_then (c_seq (c_seq (c_region ?_))))
  refine sD F (o_assign (F.ev rfl) ?_); clear F a; intro a F
  with_reducible refine l_nil (q_then (c_block ?_))
  refine c_loop (fun m a w => ∃ i : Nat, m = ls.length - i ∧ 1 ≤ i ∧ i ≤ ls.length ∧ dedA (ls.take i) = ls.take i ∧ Frm a 61 [] [(3, .int .i64 (i : Int)), (0, .slice (some ⟨b, 0, none⟩) ls.length cap)] ∧ Mem S W0 w ((b, .cells (dvsC ls ++ junk).toArray 45 (0, 0)) :: lr)) (ls.length - 1) ⟨1, rfl, by omega, by omega, dedA_one ls, F.only [3, 0] rfl, M⟩ ?_
  clear F M
  rintro m a w ⟨i, hm, hi1, hi, hd, F, M⟩
  by_cases hlt : i < ls.length
  · have f1 : seg (dvsC ls ++ junk) (0 + (i : Int).toNat * 35) 35 = some (dvC ls[i]) := own_el hsz junk hlt (by omega)
    have f2 : seg (dvsC ls ++ junk) (0 + ((i : Int) - 1).toNat * 35) 35 = some (dvC ls[i - 1]) := own_el hsz junk (show i - 1 < ls.length by omega) (by omega)
    have g1 := dv_fits (hI _ (List.getElem_mem hlt))
    have g2 := dv_fits (hI _ (List.getElem_mem (show i - 1 < ls.length by omega)))
    have g3 : eqVs (dvC ls[i]) (dvC ls[i - 1]) = decide (ls[i] = ls[i - 1]) := dv_eq (hI _ (List.getElem_mem hlt)) (hI _ (List.getElem_mem (show i - 1 < ls.length by omega)))
    have hst := dedA_step (ls := ls) (j := i) (by omega) hlt
    by_cases he : ls[i] = ls[i - 1]
    · rw [if_pos he] at hst
      replace g3 : eqVs (dvC ls[i]) (dvC ls[i - 1]) = true := by rw [g3, decide_eq_true he]
      with_reducible refine c_seq (c_seq (c_region ?_))
      refine sD F (o_move (F.ev rfl) ?_); clear F a; intro a F
      refine sD F (o_move (F.ev rfl) ?_); clear F a; intro a F
      refine sD F (o_lenSl (F.ev rfl) ?_); clear F a; intro a F
      refine sD F (o_lssT (F.ev rfl) (F.ev rfl) (by omega) ?_); clear F a; intro a F
      with_reducible refine l_nil (q_then ?_)
      refine c_true F rfl rfl ?_
      with_reducible refine c_skip (q_then (c_seq (c_block (c_seq ?_))))
      replace F := F.only [3, 0] rfl
      refine c_draw 9 F (by kernel_rfl) ?_
      intro w1 hE hok
      have M1 := M.later hE
      refine mK hok rfl rfl (fun a' w' F' E' => o_move (F'.ev rfl) ⟨Ext.refl _ _, rfl⟩) ?_
      refine mK hok rfl rfl (fun a' w' F' E' => o_move (F'.ev rfl) ⟨Ext.refl _ _, rfl⟩) ?_
      refine mK hok rfl rfl (fun a' w' F' E' => o_indexSl (F'.ev rfl) (F'.ev rfl) (by omega) (by omega) ⟨Ext.refl _ _, rfl⟩) ?_
      refine mK hok rfl rfl (fun a' w' F' E' => o_loadA (M1.later E') (F'.ev rfl) (by repeat constructor) (by first | assumption | rfl) ⟨Ext.refl _ _, rfl⟩) ?_
      refine mK hok rfl rfl (fun a' w' F' E' => o_move (F'.ev rfl) ⟨Ext.refl _ _, rfl⟩) ?_
      refine mK hok rfl rfl (fun a' w' F' E' => o_move (F'.ev rfl) ⟨Ext.refl _ _, rfl⟩) ?_
      refine mK hok rfl rfl (fun a' w' F' E' => o_sub (F'.ev rfl) (F'.ev rfl) (w_i64 (by omega) (by omega)) ⟨Ext.refl _ _, rfl⟩) ?_
      refine mK hok rfl rfl (fun a' w' F' E' => o_indexSl (F'.ev rfl) (F'.ev rfl) (by omega) (by omega) ⟨Ext.refl _ _, rfl⟩) ?_
      refine mK hok rfl rfl (fun a' w' F' E' => o_loadA (M1.later E') (F'.ev rfl) (by repeat constructor) (by first | assumption | rfl) ⟨Ext.refl _ _, rfl⟩) ?_
      (refine mDone rfl rfl ?_; clear F M; intro a w F hE2 hX hTT hDD hPP; have M := M1.later hE2; clear M1; clear hX; clear hE2; clear hok; clear hE; clear hTT; clear hDD; clear hPP; (try dsimp only at F))
      refine sD F (o_eqlAT (F.ev rfl) (F.ev rfl) (by first | assumption | rfl) (by first | assumption | rfl) (by assumption) ?_); clear F a; intro a F
      with_reducible refine l_nil (q_then ?_)
      refine c_true F rfl rfl ?_
      refine c_seq (c_region ?_)
      refine sD F (o_move (F.ev rfl) ?_); clear F a; intro a F
      refine sD F (o_move (F.ev rfl) ?_); clear F a; intro a F
      (refine sD F (o_slL (F.ev rfl) (F.ev rfl) (by omega) (by omega) (by omega) ?_); clear F a; intro a F)
      simp only [Int.toNat_natCast] at F
      refine sD F (o_assign (F.ev rfl) ?_); clear F a; intro a F
      with_reducible refine l_nil (q_then (c_seq (c_seq (c_region ?_))))
      refine sD F (o_assign (F.ev rfl) ?_); clear F a; intro a F
      with_reducible refine l_nil (q_then (c_block ?_))
      clear f1 f2 g1 g2 g3
      refine c_loop (fun m a w => ∃ (k i2 : Nat) (cur : List DstV), m = ls.length - i - k ∧ 1 ≤ k ∧ i + k ≤ ls.length ∧ cur.length = ls.length ∧ (∀ a ∈ cur, IsDv a) ∧ i2 ≤ i + k - 1 ∧ cur.take i2 = dedA (ls.take (i + k)) ∧ (∀ p, i + k - 1 ≤ p → cur[p]? = ls[p]?) ∧ Frm a 61 [] [(5, .int .i64 (k : Int)), (4, .slice (some ⟨b, 0 + i * 35, none⟩) (ls.length - i) (cap - i)), (3, .int .i64 (i2 : Int)), (0, .slice (some ⟨b, 0, none⟩) ls.length cap)] ∧ Mem S W0 w ((b, .cells (dvsC cur ++ junk).toArray 45 (0, 0)) :: lr)) (ls.length - i - 1) ⟨1, i, ls, rfl, by omega, by omega, rfl, hI, by omega, by rw [hst, hd], fun p _ => rfl, F.only [5, 4, 3, 0] rfl, M⟩ ?_
      clear F M hst
      rintro m2 a w ⟨k, i2, cur, hm2, hk1, hk, hcl, hcI, hi2, hct, hcp, F, M⟩
      have hcs : ∀ x ∈ cur, (dvC x).length = 35 := fun x hx => dv_len (hcI x hx)
      by_cases hlt2 : i + k < ls.length
      · have e1 : cur[i + k] = ls[i + k] := by
          have := hcp (i + k) (by omega)
          rwa [List.getElem?_eq_getElem (by omega), List.getElem?_eq_getElem hlt2, Option.some.injEq] at this
        have e2 : cur[i + k - 1] = ls[i + k - 1] := by
          have := hcp (i + k - 1) (by omega)
          rwa [List.getElem?_eq_getElem (by omega), List.getElem?_eq_getElem (by omega), Option.some.injEq] at this
        have hx1 := hI _ (List.getElem_mem hlt2)
        have hx2 := hI _ (List.getElem_mem (show i + k - 1 < ls.length by omega))
        have f1 : seg (dvsC cur ++ junk) (0 + i * 35 + (k : Int).toNat * 35) 35 = some (dvC ls[i + k]) := by rw [← e1]; exact own_el hcs junk (by omega) (by omega)
        have f2 : seg (dvsC cur ++ junk) (0 + i * 35 + ((k : Int) - 1).toNat * 35) 35 = some (dvC ls[i + k - 1]) := by rw [← e2]; exact own_el hcs junk (by omega) (by omega)
        have g1 := dv_fits hx1
        have g2 := dv_fits hx2
        have g3 : eqVs (dvC ls[i + k]) (dvC ls[i + k - 1]) = decide (ls[i + k] = ls[i + k - 1]) := dv_eq hx1 hx2
        have hst := dedA_step (ls := ls) (j := i + k) (by omega) hlt2
        clear e2
        by_cases he2 : ls[i + k] = ls[i + k - 1]
        · rw [if_pos he2] at hst
          replace g3 : eqVs (dvC ls[i + k]) (dvC ls[i + k - 1]) = true := by rw [g3, decide_eq_true he2]
          with_reducible refine c_seq (c_seq (c_region ?_))
          refine sD F (o_move (F.ev rfl) ?_); clear F a; intro a F
          refine sD F (o_move (F.ev rfl) ?_); clear F a; intro a F
          refine sD F (o_lenSl (F.ev rfl) ?_); clear F a; intro a F
          refine sD F (o_lssT (F.ev rfl) (F.ev rfl) (by omega) ?_); clear F a; intro a F
          with_reducible refine l_nil (q_then ?_)
          refine c_true F rfl rfl ?_
          with_reducible refine c_skip (q_then (c_seq (c_block (c_seq ?_))))
          replace F := F.only [5, 4, 3, 0] rfl
          refine c_draw 9 F (by kernel_rfl) ?_
          intro w1 hE hok
          have M1 := M.later hE
          refine mK hok rfl rfl (fun a' w' F' E' => o_move (F'.ev rfl) ⟨Ext.refl _ _, rfl⟩) ?_
          refine mK hok rfl rfl (fun a' w' F' E' => o_move (F'.ev rfl) ⟨Ext.refl _ _, rfl⟩) ?_
          refine mK hok rfl rfl (fun a' w' F' E' => o_indexSl (F'.ev rfl) (F'.ev rfl) (by omega) (by omega) ⟨Ext.refl _ _, rfl⟩) ?_
          refine mK hok rfl rfl (fun a' w' F' E' => o_loadA (M1.later E') (F'.ev rfl) (by repeat constructor) (by first | assumption | rfl) ⟨Ext.refl _ _, rfl⟩) ?_
          refine mK hok rfl rfl (fun a' w' F' E' => o_move (F'.ev rfl) ⟨Ext.refl _ _, rfl⟩) ?_
          refine mK hok rfl rfl (fun a' w' F' E' => o_move (F'.ev rfl) ⟨Ext.refl _ _, rfl⟩) ?_
          refine mK hok rfl rfl (fun a' w' F' E' => o_sub (F'.ev rfl) (F'.ev rfl) (w_i64 (by omega) (by omega)) ⟨Ext.refl _ _, rfl⟩) ?_
          refine mK hok rfl rfl (fun a' w' F' E' => o_indexSl (F'.ev rfl) (F'.ev rfl) (by omega) (by omega) ⟨Ext.refl _ _, rfl⟩) ?_
          refine mK hok rfl rfl (fun a' w' F' E' => o_loadA (M1.later E') (F'.ev rfl) (by repeat constructor) (by first | assumption | rfl) ⟨Ext.refl _ _, rfl⟩) ?_
          (refine mDone rfl rfl ?_; clear F M; intro a w F hE2 hX hTT hDD hPP; have M := M1.later hE2; clear M1; clear hX; clear hE2; clear hok; clear hE; clear hTT; clear hDD; clear hPP; (try dsimp only at F))
          refine sD F (o_neqAF (F.ev rfl) (F.ev rfl) (by first | assumption | rfl) (by first | assumption | rfl) (by assumption) ?_); clear F a; intro a F
          with_reducible refine l_nil (q_then ?_)
          refine c_false F rfl rfl ?_
          with_reducible refine c_skip (q_inB (q_then (c_region ?_)))
          refine sD F (o_move (F.ev rfl) ?_); clear F a; intro a F
          refine sD F (o_add (F.ev rfl) (F.ev rfl) (w_i64 (by omega) (by omega)) ?_); clear F a; intro a F
          refine sD F (o_assign (F.ev rfl) ?_); clear F a; intro a F
          with_reducible refine l_nil (q_then ?_)
          exact ⟨_, by omega, k + 1, i2, cur, rfl, by omega, by omega, hcl, hcI, by omega, by rw [hct, ← Nat.add_assoc, hst], fun p hp => hcp p (by omega), F.only [5, 4, 3, 0] rfl, M⟩
        · rw [if_neg he2] at hst
          replace g3 : eqVs (dvC ls[i + k]) (dvC ls[i + k - 1]) = false := by rw [g3, decide_eq_false he2]
          have l1 : (dvC ls[i + k]).length = 35 := dv_len hx1
          have hpt : put (dvsC cur ++ junk) (0 + (i2 : Int).toNat * 35) (dvC ls[i + k]) = some (dvsC (cur.set i2 ls[i + k]) ++ junk) :=
            encL_put hcs junk (show i2 < cur.length by omega) (off := 0) (put_all (by rw [l1, hcs _ (List.getElem_mem _)])) (by omega)
          with_reducible refine c_seq (c_seq (c_region ?_))
          refine sD F (o_move (F.ev rfl) ?_); clear F a; intro a F
          refine sD F (o_move (F.ev rfl) ?_); clear F a; intro a F
          refine sD F (o_lenSl (F.ev rfl) ?_); clear F a; intro a F
          refine sD F (o_lssT (F.ev rfl) (F.ev rfl) (by omega) ?_); clear F a; intro a F
          with_reducible refine l_nil (q_then ?_)
          refine c_true F rfl rfl ?_
          with_reducible refine c_skip (q_then (c_seq (c_block (c_seq ?_))))
          replace F := F.only [5, 4, 3, 0] rfl
          refine c_draw 9 F (by kernel_rfl) ?_
          intro w1 hE hok
          have M1 := M.later hE
          refine mK hok rfl rfl (fun a' w' F' E' => o_move (F'.ev rfl) ⟨Ext.refl _ _, rfl⟩) ?_
          refine mK hok rfl rfl (fun a' w' F' E' => o_move (F'.ev rfl) ⟨Ext.refl _ _, rfl⟩) ?_
          refine mK hok rfl rfl (fun a' w' F' E' => o_indexSl (F'.ev rfl) (F'.ev rfl) (by omega) (by omega) ⟨Ext.refl _ _, rfl⟩) ?_
          refine mK hok rfl rfl (fun a' w' F' E' => o_loadA (M1.later E') (F'.ev rfl) (by repeat constructor) (by first | assumption | rfl) ⟨Ext.refl _ _, rfl⟩) ?_
          refine mK hok rfl rfl (fun a' w' F' E' => o_move (F'.ev rfl) ⟨Ext.refl _ _, rfl⟩) ?_
          refine mK hok rfl rfl (fun a' w' F' E' => o_move (F'.ev rfl) ⟨Ext.refl _ _, rfl⟩) ?_
          refine mK hok rfl rfl (fun a' w' F' E' => o_sub (F'.ev rfl) (F'.ev rfl) (w_i64 (by omega) (by omega)) ⟨Ext.refl _ _, rfl⟩) ?_
          refine mK hok rfl rfl (fun a' w' F' E' => o_indexSl (F'.ev rfl) (F'.ev rfl) (by omega) (by omega) ⟨Ext.refl _ _, rfl⟩) ?_
          refine mK hok rfl rfl (fun a' w' F' E' => o_loadA (M1.later E') (F'.ev rfl) (by repeat constructor) (by first | assumption | rfl) ⟨Ext.refl _ _, rfl⟩) ?_
          (refine mDone rfl rfl ?_; clear F M; intro a w F hE2 hX hTT hDD hPP; have M := M1.later hE2; clear M1; clear hX; clear hE2; clear hok; clear hE; clear hTT; clear hDD; clear hPP; (try dsimp only at F))
          refine sD F (o_neqAT (F.ev rfl) (F.ev rfl) (by first | assumption | rfl) (by first | assumption | rfl) (by assumption) ?_); clear F a; intro a F
          with_reducible refine l_nil (q_then ?_)
          refine c_true F rfl rfl ?_
          refine c_seq (c_region ?_)
          refine sD F (o_move (F.ev rfl) ?_); clear F a; intro a F
          refine sD F (o_move (F.ev rfl) ?_); clear F a; intro a F
          refine sD F (o_move (F.ev rfl) ?_); clear F a; intro a F
          refine sD F (o_move (F.ev rfl) ?_); clear F a; intro a F
          refine sD F (o_indexSl (F.ev rfl) (F.ev rfl) (by omega) (by omega) ?_); clear F a; intro a F
          refine sD F (o_loadA M (F.ev rfl) (by repeat constructor) (by first | assumption | rfl) ?_); clear F a; intro a F
          refine sD F (o_indexSl (F.ev rfl) (F.ev rfl) (by omega) (by omega) ?_); clear F a; intro a F
          (refine stepN rfl F (o_storeA M (F.ev rfl) (F.ev rfl) l1 (dv_one _)  (by repeat constructor)  hpt (by repeat constructor) ?_); clear F M; intro w M a F)
          with_reducible refine l_nil (q_then (c_region ?_))
          refine sD F (o_move (F.ev rfl) ?_); clear F a; intro a F
          refine sD F (o_add (F.ev rfl) (F.ev rfl) (w_i64 (by omega) (by omega)) ?_); clear F a; intro a F
          refine sD F (o_assign (F.ev rfl) ?_); clear F a; intro a F
          with_reducible refine l_nil (q_inB (q_then (c_region ?_)))
          refine sD F (o_move (F.ev rfl) ?_); clear F a; intro a F
          refine sD F (o_add (F.ev rfl) (F.ev rfl) (w_i64 (by omega) (by omega)) ?_); clear F a; intro a F
          refine sD F (o_assign (F.ev rfl) ?_); clear F a; intro a F
          with_reducible refine l_nil (q_then ?_)
          exact ⟨_, by omega, k + 1, i2 + 1, _, rfl, by omega, by omega, by rw [List.length_set]; exact hcl, fun a ha => by
            rcases List.mem_or_eq_of_mem_set ha with h | h
            · exact hcI a h
            · rw [h]; exact hx1, by omega, by rw [take_set_succ (by omega), hct, ← Nat.add_assoc, hst], fun p hp => by rw [List.getElem?_set_ne (by omega)]; exact hcp p (by omega), F.only [5, 4, 3, 0] rfl, M⟩
      · have hkl : i + k = ls.length := by omega
        rw [hkl, List.take_length] at hct
        with_reducible refine c_seq (c_seq (c_region ?_))
        refine sD F (o_move (F.ev rfl) ?_); clear F a; intro a F
        refine sD F (o_move (F.ev rfl) ?_); clear F a; intro a F
        refine sD F (o_lenSl (F.ev rfl) ?_); clear F a; intro a F
        refine sD F (o_lssF (F.ev rfl) (F.ev rfl) (by omega) ?_); clear F a; intro a F
        with_reducible refine l_nil (q_then ?_)
        refine c_false F rfl rfl ?_
        with_reducible refine c_exit (q_thenX (q_thenX (q_inBX (q_then (c_seq (c_region ?_))))))
        refine sD F (o_move (F.ev rfl) ?_); clear F a; intro a F
        refine sD F (o_move (F.ev rfl) ?_); clear F a; intro a F
        (refine sD F (o_slL (F.ev rfl) (F.ev rfl) (by omega) (by omega) (by omega) ?_); clear F a; intro a F)
        simp only [Int.toNat_natCast] at F
        have hcl2 : (dvsC cur ++ junk).length = cap * 35 := by rw [List.length_append, encL_len hcs, hjl, hcl, ← Nat.add_mul]; congr 1; omega
        (refine stepN rfl F (o_clear (sz := 35) M (F.ev rfl) (by omega) rfl rfl .here (by rw [hcl2]; omega) (fun vs => .here) ?_); clear F M; intro vs w hvs M a F)
        with_reducible refine l_nil (q_then (c_seq (c_region ?_)))
        refine sD F (o_move (F.ev rfl) ?_); clear F a; intro a F
        refine sD F (o_move (F.ev rfl) ?_); clear F a; intro a F
        (refine sD F (o_slH (F.ev rfl) (F.ev rfl) (by simp) (by omega) (by omega) ?_); clear F a; intro a F)
        simp only [Int.toNat_natCast] at F
        refine sD F (o_assign (F.ev rfl) ?_); clear F a; intro a F
        with_reducible refine l_nil (q_then (c_ret (q_inBR (q_thenR (q_thenR (q_inBR (q_thenR ?_)))))))
        refine p_ret F rfl (.cons (.tmp (F.ev rfl)) .nil) ?_
        have hil : (dedA ls).length = i2 := by rw [← hct, List.length_take]; omega
        refine ⟨dedA ls, [(b, .cells (dvsC (dedA ls) ++ (vs ++ (dvsC cur ++ junk).drop (0 + i2 * 35 + vs.length))).toArray 45 (0, 0))], rfl, .inr ⟨b, cap, _, by rw [hil]; rfl, rfl, by rw [encL_len (fun x hx => hcs x (List.mem_of_mem_take (by rw [hct]; exact hx)))], by rw [List.length_append, List.length_drop, hcl2, hvs, hil]; omega, by omega⟩, ?_⟩
        rw [hf]
        refine Mem.perm ?_ (List.perm_append_comm (l₁ := [_]) (l₂ := lr))
        have hsp : splice (dvsC cur ++ junk) (0 + i2 * 35) vs = dvsC (dedA ls) ++ (vs ++ (dvsC cur ++ junk).drop (0 + i2 * 35 + vs.length)) := by
          unfold splice
          rw [List.take_append_of_le_length (by rw [encL_len hcs]; omega), Nat.zero_add, encL_take hcs, hct]
        rw [← hsp]
        exact M
    · rw [if_neg he] at hst
      replace g3 : eqVs (dvC ls[i]) (dvC ls[i - 1]) = false := by rw [g3, decide_eq_false he]
      with_reducible refine c_seq (c_seq (c_region ?_))
      refine sD F (o_move (F.ev rfl) ?_); clear F a; intro a F
      refine sD F (o_move (F.ev rfl) ?_); clear F a; intro a F
      refine sD F (o_lenSl (F.ev rfl) ?_); clear F a; intro a F
      refine sD F (o_lssT (F.ev rfl) (F.ev rfl) (by omega) ?_); clear F a; intro a F
      with_reducible refine l_nil (q_then ?_)
      refine c_true F rfl rfl ?_
      with_reducible refine c_skip (q_then (c_seq (c_block (c_seq ?_))))
      replace F := F.only [3, 0] rfl
      refine c_draw 9 F (by kernel_rfl) ?_
      intro w1 hE hok
      have M1 := M.later hE
      refine mK hok rfl rfl (fun a' w' F' E' => o_move (F'.ev rfl) ⟨Ext.refl _ _, rfl⟩) ?_
      refine mK hok rfl rfl (fun a' w' F' E' => o_move (F'.ev rfl) ⟨Ext.refl _ _, rfl⟩) ?_
      refine mK hok rfl rfl (fun a' w' F' E' => o_indexSl (F'.ev rfl) (F'.ev rfl) (by omega) (by omega) ⟨Ext.refl _ _, rfl⟩) ?_
      refine mK hok rfl rfl (fun a' w' F' E' => o_loadA (M1.later E') (F'.ev rfl) (by repeat constructor) (by first | assumption | rfl) ⟨Ext.refl _ _, rfl⟩) ?_
      refine mK hok rfl rfl (fun a' w' F' E' => o_move (F'.ev rfl) ⟨Ext.refl _ _, rfl⟩) ?_
      refine mK hok rfl rfl (fun a' w' F' E' => o_move (F'.ev rfl) ⟨Ext.refl _ _, rfl⟩) ?_
      refine mK hok rfl rfl (fun a' w' F' E' => o_sub (F'.ev rfl) (F'.ev rfl) (w_i64 (by omega) (by omega)) ⟨Ext.refl _ _, rfl⟩) ?_
      refine mK hok rfl rfl (fun a' w' F' E' => o_indexSl (F'.ev rfl) (F'.ev rfl) (by omega) (by omega) ⟨Ext.refl _ _, rfl⟩) ?_
      refine mK hok rfl rfl (fun a' w' F' E' => o_loadA (M1.later E') (F'.ev rfl) (by repeat constructor) (by first | assumption | rfl) ⟨Ext.refl _ _, rfl⟩) ?_
      (refine mDone rfl rfl ?_; clear F M; intro a w F hE2 hX hTT hDD hPP; have M := M1.later hE2; clear M1; clear hX; clear hE2; clear hok; clear hE; clear hTT; clear hDD; clear hPP; (try dsimp only at F))
      refine sD F (o_eqlAF (F.ev rfl) (F.ev rfl) (by first | assumption | rfl) (by first | assumption | rfl) (by assumption) ?_); clear F a; intro a F
      with_reducible refine l_nil (q_then ?_)
      refine c_false F rfl rfl ?_
      with_reducible refine c_skip (q_inB (q_then (c_region ?_)))
      refine sD F (o_move (F.ev rfl) ?_); clear F a; intro a F
      refine sD F (o_add (F.ev rfl) (F.ev rfl) (w_i64 (by omega) (by omega)) ?_); clear F a; intro a F
      refine sD F (o_assign (F.ev rfl) ?_); clear F a; intro a F
      with_reducible refine l_nil (q_then ?_)
      exact ⟨_, by omega, i + 1, rfl, by omega, by omega, by rw [hst, hd, List.take_add_one, List.getElem?_eq_getElem hlt]; rfl, F.only [3, 0] rfl, M⟩
  · obtain rfl : i = ls.length := by omega
    rw [List.take_length] at hd
    with_reducible refine c_seq (c_seq (c_region ?_))
    refine sD F (o_move (F.ev rfl) ?_); clear F a; intro a F
    refine sD F (o_move (F.ev rfl) ?_); clear F a; intro a F
    refine sD F (o_lenSl (F.ev rfl) ?_); clear F a; intro a F
    refine sD F (o_lssF (F.ev rfl) (F.ev rfl) (by omega) ?_); clear F a; intro a F
    with_reducible refine l_nil (q_then ?_)
    refine c_false F rfl rfl ?_
    with_reducible refine c_exit (q_thenX (q_thenX (q_inBX (q_then (c_seq (c_region ?_))))))
    refine sD F (o_move (F.ev rfl) ?_); clear F a; intro a F
    refine sD F (o_assign (F.ev rfl) ?_); clear F a; intro a F
    with_reducible refine l_nil (q_then (c_ret ?_))
    refine p_ret F rfl (.cons (.tmp (F.ev rfl)) .nil) ?_
    refine ⟨ls, _, hd.symm, .inr ⟨b, cap, junk, rfl, rfl, hxl, hjl, hnc⟩, ?_⟩
    rw [hf]
    exact M.perm (List.perm_append_comm (l₁ := [_]) (l₂ := lr))
/-! the sort -/
theorem ded_fold : ∀ (xs acc : List DstV), AscD acc → (∀ x ∈ acc, IsDv x) → (∀ x ∈ xs, IsDv x) → xs.Pairwise (fun a b => ¬ cmpD b a < 0) → (∀ a ∈ acc, ∀ x ∈ xs, ¬ cmpD x a < 0) → AscD (xs.foldl dedS acc) ∧ ∀ y, y ∈ xs.foldl dedS acc ↔ y ∈ acc ∨ y ∈ xs
  | [], acc, h, _, _, _, _ => ⟨h, by simp⟩
  | x :: xs, acc, h, ia, ix, hp, hle => by
    have hp1 := List.pairwise_cons.1 hp
    have hlt : ∀ a b : DstV, IsDv a → IsDv b → ¬ cmpD b a < 0 → a ≠ b → cmpD a b < 0 := by
      intro a b ha hb h1 h2
      have h3 := cmpD_anti b a
      have h4 : cmpD a b ≠ 0 := fun e => h2 (cmpD_zero ha hb e)
      omega
    rw [List.foldl_cons]
    unfold dedS
    by_cases hl : acc.getLast? = some x
    · rw [if_pos hl]
      obtain ⟨h1, h2⟩ := ded_fold xs acc h ia (fun y hy => ix y (List.mem_cons_of_mem _ hy)) hp1.2 (fun a ha y hy => hle a ha y (List.mem_cons_of_mem _ hy))
      refine ⟨h1, fun y => ?_⟩
      rw [show (fun acc x => if acc.getLast? = some x then acc else acc ++ [x]) = @dedS DstV _ from rfl, h2, List.mem_cons]
      constructor
      · rintro (h | h) <;> simp [h]
      · rintro (h | rfl | h)
        · exact .inl h
        · exact .inl (List.mem_of_getLast? hl)
        · exact .inr h
    · rw [if_neg hl]
      have hx := ix x (by simp)
      have hacc : ∀ a ∈ acc, cmpD a x < 0 := by
        intro a ha
        obtain ⟨ys, z, rfl⟩ : ∃ ys z, acc = ys ++ [z] := ⟨acc.dropLast, acc.getLast (by rintro rfl; simp at ha), (List.dropLast_concat_getLast _).symm⟩
        have hz : z ≠ x := fun e => hl (by simp [e])
        have hzx := hlt z x (ia z (by simp)) hx (hle z (by simp) x (by simp)) hz
        rcases List.mem_append.1 ha with h1 | h1
        · exact cmpD_trans ((List.pairwise_append.1 h).2.2 a h1 z (by simp)) hzx
        · simp at h1
          rw [h1]; exact hzx
      have hasc : AscD (acc ++ [x]) := List.pairwise_append.2 ⟨h, by simp, fun a ha b hb => by simp at hb; rw [hb]; exact hacc a ha⟩
      obtain ⟨h1, h2⟩ := ded_fold xs (acc ++ [x]) hasc (fun y hy => by
        rcases List.mem_append.1 hy with h | h
        · exact ia y h
        · simp at h; rw [h]; exact hx) (fun y hy => ix y (List.mem_cons_of_mem _ hy)) hp1.2 (fun a ha y hy => by
        rcases List.mem_append.1 ha with h | h
        · exact hle a h y (List.mem_cons_of_mem _ hy)
        · simp at h; rw [h]; exact hp1.1 y hy)
      refine ⟨h1, fun y => ?_⟩
      rw [show (fun acc x => if acc.getLast? = some x then acc else acc ++ [x]) = @dedS DstV _ from rfl, h2, List.mem_append, List.mem_cons, List.mem_cons]
      constructor
      · rintro ((h | h | h) | h) <;> simp_all
      · rintro (h | h | h) <;> simp_all
theorem dests_ded {l : List RouV} {old : List InsV} (hi : ∀ x ∈ allD l old, IsDv x) {s : List DstV} (hp : s.Perm (allD l old)) (hs : s.Pairwise fun a b => ¬ cmpD b a < 0) : dedA s = destsV l old := by
  have h1 := ded_fold s [] (by simp [AscD, AscC]) (by simp) (fun x hx => hi x (hp.mem_iff.1 hx)) hs (by simp)
  have h2 := foldr_insD hi
  refine ascK_unique (fun d : DstV => d) _ _ h1.1 h2.1 fun x => ?_
  show x ∈ s.foldl dedS [] ↔ x ∈ (allD l old).foldr insD []
  rw [h1.2, h2.2]
  simp [hp.mem_iff]
set_option maxHeartbeats 1000000 in
theorem sortD_c (ls : List DstV) (hx : ∀ x ∈ ls, IsDv x) (hlen : ls.length ≤ 100000)
    {S : List Nat} {W0 w : World} {l : List (Nat × Obj)} {f : List (Nat × Obj) → List (Nat × Obj)} {v : Value} {ent : List (Nat × Obj)} (M : Mem S W0 w l) (hO : OwnS 45 35 v ls.length (dvsC ls) ent) (hl : TailAt ent l f) :
    Cal Tryz.prog 99 [v, .func (.func 96) #[] #[]].toArray w fun _ w' => ∃ ls' ent', ls'.Perm ls ∧ ls'.Pairwise (fun a b => ¬ cmpD b a < 0) ∧ OwnS 45 35 v ls'.length (dvsC ls') ent' ∧ Mem S W0 w' (f ent') := by
  let enc : ADst → List Value := fun d => dvC d.1
  obtain ⟨az, haz⟩ : ∃ az : List ADst, az.map (·.1) = ls := ⟨ls.pmap (fun a h => (⟨a, h⟩ : ADst)) hx, by rw [List.map_pmap]; simp⟩
  have henc : ∀ bz : List ADst, encL enc bz = dvsC (bz.map (·.1)) := by
    intro bz
    induction bz with
    | nil => rfl
    | cons x xs ih => rw [encL_cons, ih]; rfl
  have hlz : az.length = ls.length := by rw [← haz, List.length_map]
  rw [← hlz] at hO
  rw [← haz, ← henc] at hO
  have h := sort_own (P := Tryz.prog) (ρ := sortDs_ren) (enc := enc) (k := 35) (e := 45) sortDs (fun x => dv_len x.2) (by omega) (fun x => dv_one _) (by kernel_rfl) cfD swoD totD (g := 96) (TBody.h (P := Tryz.prog)) (fun W x y => scompare_c x.1 y.1 x.2 y.2 W) az M hO hl (by omega)
  refine Cal.mono h ?_
  rintro _ w' ⟨ent', hO', M'⟩
  have hp := List.mergeSort_perm az fun x y => !(ltOf cfD) y x
  have hs : (az.mergeSort fun x y => !(ltOf cfD) y x).Pairwise fun x y => (!(ltOf cfD) y x) = true := by
    refine List.pairwise_mergeSort ?_ ?_ _
    · intro a b c h1 h2
      simp only [Bool.not_eq_true'] at h1 h2 ⊢
      exact swoD.ntrans c b a h2 h1
    · intro a b
      cases h : ltOf cfD b a with
      | false => simp
      | true => simp [swoD.asymmA h]
  generalize az.mergeSort (fun x y => !(ltOf cfD) y x) = ds at *
  refine ⟨ds.map (·.1), ent', by rw [← haz]; exact hp.map _, ?_, ?_, M'⟩
  · rw [List.pairwise_map]
    refine hs.imp ?_
    intro a b h3
    simp only [Bool.not_eq_true'] at h3
    rw [ltD_f] at h3
    exact h3
  · rw [← henc, List.length_map, hp.length_eq]
    exact hO'
end Go.Proofs.YtilgoepokaaleaaGreat
/-! ZA -/
namespace Go.Proofs.YtilgoepokaaleaaGreat
set_option linter.unusedVariables false
set_option linter.unusedSimpArgs false
open Go.RowKit
attribute [local irreducible] OpTo wpListIn Code.wpIn MW Cal
theorem map_take_succ {α β : Type} (f : α → β) {l : List α} {i : Nat} (h : i < l.length) : (l.take (i + 1)).map f = (l.take i).map f ++ [f l[i]] := by
  rw [List.take_add_one, List.getElem?_eq_getElem h, List.map_append]
  rfl
set_option maxHeartbeats 4000000 in
theorem dests_c (l : List RouV) (hx : ∀ x ∈ l, IsRo x) (old : List InsV) (hy : ∀ x ∈ old, IsIn x) (hl1 : l.length ≤ 1000) (hl2 : old.length ≤ 1000) (u v : Value) (W : World) (hS : SlAt W 39 u l.length (rosC l)) (hT : SlAt W 40 v old.length (insC old)) :
    Cal Tryz.prog 50 [u, v].toArray W fun r w' => ∃ ent, OwnS 45 35 r (destsV l old).length (dvsC (destsV l old)) ent ∧ Mem [] W w' ent := by
  have hall : ∀ x ∈ allD l old, IsDv x := by
    intro x h
    unfold allD at h
    rcases List.mem_append.1 h with h | h
    · obtain ⟨r, h1, rfl⟩ := List.mem_map.1 h
      exact (hx r h1).1
    · obtain ⟨r, h1, rfl⟩ := List.mem_map.1 h
      exact (hy r h1).1
  have hdl : ∀ x ∈ allD l old, (dvC x).length = 35 := fun x h => dv_len (hall x h)
  obtain ⟨q, cap, rfl, hcap, hsp, hl, hm⟩ := hS
  obtain ⟨q2, cap2, rfl, hcap2, hsp2, hl', hm2⟩ := hT
  refine fn_ofM (n := 38) [] Tryz.func50 rfl rfl rfl ?_
  intro a w F M hwW
  refine c_seq (c_region ?_)
  refine sD F (o_assign (F.ev rfl) ?_); clear F a; intro a F
  with_reducible refine l_nil (q_then (c_seq (c_region ?_)))
  refine sD F (o_assign (F.ev rfl) ?_); clear F a; intro a F
  with_reducible refine l_nil (q_then (c_seq (c_seq (c_region ?_))))
  refine sD F (o_move (F.ev rfl) ?_); clear F a; intro a F
  refine sD F (o_lenSl (F.ev rfl) ?_); clear F a; intro a F
  refine sD F (o_move (F.ev rfl) ?_); clear F a; intro a F
  with_reducible refine l_nil (q_then (c_block ?_))
  refine c_loop (fun m a w => ∃ (i : Nat) (z : Value) (ent : List (Nat × Obj)), m = l.length - i ∧ i ≤ l.length ∧ OwnS 45 35 z i (dvsC ((l.take i).map (·.to))) ent ∧ Frm a 38 [] [(12, .int .i64 i), (11, .int .i64 l.length), (10, .slice q l.length cap), (1, .slice q2 old.length cap2), (5, z)] ∧ Mem [] W w ent) l.length ⟨0, .slice none 0 0, [], rfl, by omega, OwnS.nil _ _, F.only [12, 11, 10, 1, 5] rfl, M⟩ ?_
  · clear F M
    rintro m a w ⟨i, z, ent, hm', hi, hO, F, M⟩
    by_cases hlt : i < l.length
    · obtain ⟨b, o, cs, t', fz, rfl, hb, hs⟩ := hm (by omega)
      have hxv := hx _ (List.getElem_mem hlt)
      have f1 : seg cs (o + (i : Int).toNat * 39) 39 = some (roC l[i]) := seg_el (ros_len hx) hs hlt (by omega)
      have hmt := map_take_succ RouV.to hlt
      obtain ⟨x, hx0⟩ : ∃ x, x = l[i] := ⟨_, rfl⟩
      rw [← hx0] at hxv f1 hmt
      have f2 : (roC x).length = 39 := ro_len hxv
      have f3 := ro_to hxv
      refine c_seq (c_region ?_)
      refine sD F (o_lssT (F.ev rfl) (F.ev rfl) (by omega) ?_); clear F a; intro a F
      with_reducible refine l_nil (q_then (c_seq ?_))
      refine c_true F rfl rfl ?_
      with_reducible refine c_skip (q_then (c_seq (c_block (c_seq (c_region ?_)))))
      refine sD F (o_indexSl (F.ev rfl) (F.ev rfl) (by omega) (by omega) ?_); clear F a; intro a F
      refine sD F (o_loadWA M (F.ev rfl) (by assumption) (by first | assumption | rfl) ?_); clear F a; intro a F
      (refine sD F (o_alloc M ?_); clear F M; intro b7 w M a F)
      (refine stepN rfl F (o_storeA M (F.ev rfl) (F.ev rfl) (f2) (ro_one x)  (by repeat constructor)  (put_all (by rw [f2]; rfl)) (by repeat constructor) ?_); clear F M; intro w M a F)
      with_reducible refine l_nil (q_then (c_region ?_))
      refine sD F (o_move (F.ev rfl) ?_); clear F a; intro a F
      refine sD F (o_fieldAddr (F.ev rfl) ?_); clear F a; intro a F
      refine sD F (o_loadA M (F.ev rfl) (by repeat constructor) (by first | assumption | rfl) ?_); clear F a; intro a F
      (refine sD F (o_buildSlice F M rfl rfl rfl (dv_build1 hxv.1) ?_); clear F M; intro b19 w M a F)
      (refine sD F (o_append hO M (.cons (.cons .here)) (F.ev rfl) (F.ev rfl) (SrcOf.cells' (M.heap .here) (sg_all (dv_len hxv.1)) (dv_one _)) (by omega) (by omega) ?_); clear F M; intro z2 ent2 w hO2 M a F)
      refine sD F (o_assign (F.ev rfl) ?_); clear F a; intro a F
      with_reducible refine l_nil (q_inB (q_then (c_region ?_)))
      refine sD F (o_add (F.ev rfl) (F.ev rfl) (w_i64 (by omega) (by omega)) ?_); clear F a; intro a F
      refine sD F (o_move (F.ev rfl) ?_); clear F a; intro a F
      with_reducible refine l_nil (q_then ?_)
      refine ⟨_, by omega, i + 1, z2, ent2, rfl, by omega, ?_, F.only [12, 11, 10, 1, 5] rfl, M.sub (List.sublist_append_right [_, _] _)⟩
      rw [hmt]
      show OwnS _ 35 _ _ (encL dvC _) _
      rw [encL_app, encL_one]
      exact hO2
    · obtain rfl : i = l.length := by omega
      rw [List.take_length] at hO
      refine c_seq (c_region ?_)
      refine sD F (o_lssF (F.ev rfl) (F.ev rfl) (by omega) ?_); clear F a; intro a F
      with_reducible refine l_nil (q_then (c_seq ?_))
      refine c_false F rfl rfl ?_
      with_reducible refine c_exit (q_thenX (q_thenX (q_inBX (q_then (c_seq (c_seq (c_region ?_)))))))
      refine sD F (o_move (F.ev rfl) ?_); clear F a; intro a F
      refine sD F (o_lenSl (F.ev rfl) ?_); clear F a; intro a F
      refine sD F (o_move (F.ev rfl) ?_); clear F a; intro a F
      with_reducible refine l_nil (q_then (c_block ?_))
      refine c_loop (fun m a w => ∃ (i : Nat) (z : Value) (ent : List (Nat × Obj)), m = old.length - i ∧ i ≤ old.length ∧ OwnS 45 35 z (l.length + i) (dvsC (l.map (·.to) ++ (old.take i).map (·.to))) ent ∧ Frm a 38 [] [(24, .int .i64 i), (23, .int .i64 old.length), (22, .slice q2 old.length cap2), (5, z)] ∧ Mem [] W w ent) old.length ⟨0, z, ent, rfl, by omega, by simpa using hO, F.only [24, 23, 22, 5] rfl, M⟩ ?_
      clear F M hO
      clear hm'
      rintro m a w ⟨i, z, ent, hm', hi, hO, F, M⟩
      by_cases hlt : i < old.length
      · obtain ⟨b, o, cs, t', fz, rfl, hb, hs⟩ := hm2 (by omega)
        have hxv := hy _ (List.getElem_mem hlt)
        have f1 : seg cs (o + (i : Int).toNat * 40) 40 = some (inC old[i]) := seg_el (ins_len hy) hs hlt (by omega)
        have hmt := map_take_succ InsV.to hlt
        obtain ⟨x, hx0⟩ : ∃ x, x = old[i] := ⟨_, rfl⟩
        rw [← hx0] at hxv f1 hmt
        have f2 : (inC x).length = 40 := in_len hxv
        have f3 := in_to hxv
        refine c_seq (c_region ?_)
        refine sD F (o_lssT (F.ev rfl) (F.ev rfl) (by omega) ?_); clear F a; intro a F
        with_reducible refine l_nil (q_then (c_seq ?_))
        refine c_true F rfl rfl ?_
        with_reducible refine c_skip (q_then (c_seq (c_block (c_seq (c_region ?_)))))
        refine sD F (o_indexSl (F.ev rfl) (F.ev rfl) (by omega) (by omega) ?_); clear F a; intro a F
        refine sD F (o_loadWA M (F.ev rfl) (by assumption) (by first | assumption | rfl) ?_); clear F a; intro a F
        (refine sD F (o_alloc M ?_); clear F M; intro b9 w M a F)
        (refine stepN rfl F (o_storeA M (F.ev rfl) (F.ev rfl) (f2) (in_one x)  (by repeat constructor)  (put_all (by rw [f2]; rfl)) (by repeat constructor) ?_); clear F M; intro w M a F)
        with_reducible refine l_nil (q_then (c_region ?_))
        refine sD F (o_move (F.ev rfl) ?_); clear F a; intro a F
        refine sD F (o_fieldAddr (F.ev rfl) ?_); clear F a; intro a F
        refine sD F (o_loadA M (F.ev rfl) (by repeat constructor) (by first | assumption | rfl) ?_); clear F a; intro a F
        (refine sD F (o_buildSlice F M rfl rfl rfl (dv_build1 hxv.1) ?_); clear F M; intro b31 w M a F)
        (refine sD F (o_append hO M (.cons (.cons .here)) (F.ev rfl) (F.ev rfl) (SrcOf.cells' (M.heap .here) (sg_all (dv_len hxv.1)) (dv_one _)) (by omega) (by omega) ?_); clear F M; intro z2 ent2 w hO2 M a F)
        refine sD F (o_assign (F.ev rfl) ?_); clear F a; intro a F
        with_reducible refine l_nil (q_inB (q_then (c_region ?_)))
        refine sD F (o_add (F.ev rfl) (F.ev rfl) (w_i64 (by omega) (by omega)) ?_); clear F a; intro a F
        refine sD F (o_move (F.ev rfl) ?_); clear F a; intro a F
        with_reducible refine l_nil (q_then ?_)
        refine ⟨_, by omega, i + 1, z2, ent2, rfl, by omega, ?_, F.only [24, 23, 22, 5] rfl, M.sub (List.sublist_append_right [_, _] _)⟩
        rw [hmt, ← List.append_assoc]
        show OwnS _ 35 _ _ (encL dvC _) _
        rw [encL_app, encL_one]
        exact hO2
      · obtain rfl : i = old.length := by omega
        rw [List.take_length] at hO
        replace hO : OwnS 45 35 z (allD l old).length (dvsC (allD l old)) ent := by
          have : (allD l old).length = l.length + old.length := by simp [allD]
          rw [this]
          exact hO
        have hal : (allD l old).length ≤ 2000 := by simp [allD]; omega
        refine c_seq (c_region ?_)
        refine sD F (o_lssF (F.ev rfl) (F.ev rfl) (by omega) ?_); clear F a; intro a F
        with_reducible refine l_nil (q_then (c_seq ?_))
        refine c_false F rfl rfl ?_
        with_reducible refine c_exit (q_thenX (q_thenX (q_inBX (q_then (c_seq (c_region ?_))))))
        refine sD F (o_move (F.ev rfl) ?_); clear F a; intro a F
        (refine sD F (o_call (F.ev rfl) (F.evs rfl) (Cal.mono (sortD_c (allD l old) hall (by omega) M hO .here) ?_)); clear F; clear a; clear M; rintro _ w ⟨ls, ent2, hp, hs, hO2, M⟩ a F)
        have hls : ∀ x ∈ ls, IsDv x := fun x h => hall x (hp.mem_iff.1 h)
        have hll : ls.length ≤ 2000 := by rw [hp.length_eq]; exact hal
        with_reducible refine l_nil (q_then (c_seq (c_region ?_)))
        refine sD F (o_move (F.ev rfl) ?_); clear F a; intro a F
        (refine sD F (o_call (F.ev rfl) (F.evs rfl) (Cal.mono (compactD_c ls hls (by omega) M hO2 .here) ?_)); clear F; clear a; clear M; rintro r w ⟨ls', ent3, rfl, hO3, M⟩ a F)
        rw [dests_ded hall hp hs] at hO3
        refine sD F (o_assign (F.ev rfl) ?_); clear F a; intro a F
        with_reducible refine l_nil (q_then (c_ret ?_))
        refine p_ret F rfl (.cons (.tmp (F.ev rfl)) .nil) ?_
        exact ⟨ent3, hO3, M⟩
end Go.Proofs.YtilgoepokaaleaaGreat
/-! ZB -/
namespace Go.Proofs.YtilgoepokaaleaaGreat
set_option linter.unusedVariables false
set_option linter.unusedSimpArgs false
open Go.RowKit
attribute [local irreducible] OpTo wpListIn Code.wpIn MW Cal
theorem in_buildA {d : DstV} (hd : IsDv d) (e : Int) (o : DisV) (z : Int) : putAll [(0, 35), (35, 1), (36, 2), (38, 1), (39, 1)] inZ [(0, dvC d), (1, [.int .u64 e]), (2, diC o), (3, [.int .i64 z])] = some (inC ⟨d, e, o, z, 0⟩) := by
  obtain ⟨p1, n1, p2, n2, rt⟩ := d
  obtain ⟨x0, x1, x2, x3, x4, x5, x6, x7, x8, x9, x10, x11, x12, x13, x14, x15, e0⟩ := len16 (show p1.length = 16 from hd.1.len)
  obtain ⟨y0, y1, y2, y3, y4, y5, y6, y7, y8, y9, y10, y11, y12, y13, y14, y15, e1⟩ := len16 (show p2.length = 16 from hd.2.len)
  subst e0
  subst e1
  rfl
theorem in_buildH {d : DstV} (hd : IsDv d) (o : DisV) (z y : Int) : putAll [(0, 35), (35, 1), (36, 2), (38, 1), (39, 1)] inZ [(0, dvC d), (2, diC o), (3, [.int .i64 z]), (4, [.int .i64 y])] = some (inC ⟨d, 0, o, z, y⟩) := by
  obtain ⟨p1, n1, p2, n2, rt⟩ := d
  obtain ⟨x0, x1, x2, x3, x4, x5, x6, x7, x8, x9, x10, x11, x12, x13, x14, x15, e0⟩ := len16 (show p1.length = 16 from hd.1.len)
  obtain ⟨y0, y1, y2, y3, y4, y5, y6, y7, y8, y9, y10, y11, y12, y13, y14, y15, e1⟩ := len16 (show p2.length = 16 from hd.2.len)
  subst e0
  subst e1
  rfl
theorem zero_dR : zeroIs Tryz.prog 48 (diV di0) := by
  unfold zeroIs
  kernel_rfl
def mapQ (m : List (Int × DisV)) : List (Int × Value) := m.map fun p => (p.1, diV p.2)
theorem keyE_law : KeyLw Tryz.prog 43 (Value.int .u64) (fun _ => True) := keyLw_int (by kernel_rfl)
def oldB (o : InsV) (had : Bool) : Option InsV := if had then some o else none
theorem bef_valid {o : InsV} {had : Bool} (h : had = true → ins1 o = true) : validCh (befV (oldB o had)) = true := by
  cases had
  · rfl
  · have h1 := h rfl
    show validCh ⟨o.nb, o.own.met, o.btn⟩ = true
    unfold ins1 at h1
    unfold validCh
    by_cases h0 : o.nb = 0
    · rw [if_pos h0] at h1
      simp only [Bool.and_eq_true, decide_eq_true_eq] at h1
      simp [h1.2.1.1, h1.2.1.2, validM_inf]
    · rw [if_neg h0] at h1
      simp only [Bool.and_eq_true, decide_eq_true_eq, finD] at h1
      simp only [Bool.and_eq_true]
      exact ⟨h1.2.1.1.1, h1.2.1.2⟩
theorem in0_is : IsIn in0 := ⟨⟨nul16_is, nul16_is⟩, trivial⟩
set_option maxHeartbeats 8000000 in
theorem after_c (now : Int) (hnow : isTime now = true) (t : DstV) (ht : IsDv t) (o : InsV) (ho : IsIn o) (had : Bool) (hov : had = true → ins1 o = true) (l : List OptV) (hval : validOs l = true) (v : Value) (said : List (Int × DisV)) (vm : Value) (W : World) (hS : SlAt W 2 v l.length (opsC l)) (hM : MapIn W (Value.int .u64) vm (mapQ said)) :
    Cal Tryz.prog 53 [.int .i64 now, .agg (dvC t).toArray, .agg (inC o).toArray, .bool had, v, vm].toArray W fun r w' => r = .tuple [.agg (inC ((aftV now t (oldB o had) l said).getD in0)).toArray, .bool (aftV now t (oldB o had) l said).isSome].toArray ∧ Ext [] W w' := by
  have e1 := dv_all ht
  have o1 := in_all ho
  have o2 := in_nb ho
  have o3 := in_own_met ho
  have o4 := in_btn ho
  have o5 := in_own_seq ho
  have o6 := in_til ho
  have hB := bef_valid hov
  have hIs : ∀ x ∈ l, IsOp x := fun _ _ => trivial
  have hnw := hnow
  simp only [isTime, Bool.and_eq_true, decide_eq_true_eq] at hnw
  obtain ⟨b0, hb0⟩ : ∃ b0, b0 = befV (oldB o had) := ⟨_, rfl⟩
  rw [← hb0] at hB
  obtain ⟨c, hc⟩ : ∃ c, c = chooseV now b0 l := ⟨_, rfl⟩
  have hch := choose_c l hIs hval v now hnow b0 hB
  rw [← hc] at hch
  have haft : aftV now t (oldB o had) l said = if c.nb ≠ 0 then some ⟨t, c.nb, ⟨((getA c.nb said).getD di0).seq, c.cost⟩, c.btn, 0⟩ else match oldB o had with
    | none => none
    | some o => if o.nb ≠ 0 then some ⟨t, 0, ⟨o.own.seq, inf⟩, -1, laterV now 14⟩ else if now < o.til then some o else none := by
    rw [hc, hb0]
    rfl
  have c1 := ch_nb (o := c) trivial
  have c2 := ch_cost (o := c) trivial
  have c3 := ch_btn (o := c) trivial
  have c4 := ch_len (o := c) trivial
  have b1 := ch_all (o := b0) trivial
  refine fn_ofM (n := 81) [] Tryz.func53 rfl rfl rfl ?_
  intro a w F M hwW
  refine c_seq ?_
  refine c_region ?_
  (refine sD F (o_box M (F.ev rfl) rfl ?_); clear F M; intro b7 w M a F)
  (refine sD F (o_box M (F.ev rfl) rfl ?_); clear F M; intro b8 w M a F)
  (refine sD F (o_alloc M ?_); clear F M; intro b12 w M a F)
  refine sD F (o_assign (F.ev rfl) ?_); clear F a; intro a F
  with_reducible refine l_nil (q_then (c_seq (c_region ?_)))
  refine sD F (o_build F rfl rfl ?_); clear F a; intro a F
  (refine sD F (o_alloc M ?_); clear F M; intro b14 w M a F)
  (refine stepN rfl F (o_storeA M (F.ev rfl) (F.ev rfl) (rfl) (rfl)  (by repeat constructor)  (rfl) (by repeat constructor) ?_); clear F M; intro w M a F)
  with_reducible refine l_nil (q_then (c_seq (c_seq (c_region ?_))))
  refine sD F (o_move (F.ev rfl) ?_); clear F a; intro a F
  with_reducible refine l_nil (q_then ?_)
  refine c_cut (fun a w => Frm a 81 [] [(0, .int .i64 now), (3, .bool had), (4, v), (5, vm), (7, .pointer (some ⟨b7, 0, none⟩)), (8, .pointer (some ⟨b8, 0, none⟩)), (12, .pointer (some ⟨b12, 0, none⟩)), (13, .bool false), (14, .pointer (some ⟨b14, 0, none⟩))] ∧ Mem [] W w [(b14, .cells (chC b0).toArray 141 (0, 0)), (b12, .cells inZ.toArray 50 (0, 0)), (b8, .cells (inC o).toArray 50 (0, 0)), (b7, .cells (dvC t).toArray 45 (0, 0))]) ?_ ?_
  · cases had
    · refine c_false F rfl rfl ?_
      with_reducible refine c_skip ?_
      exact ⟨F.only [0, 3, 4, 5, 7, 8, 12, 13, 14] rfl, by rw [hb0]; exact M⟩
    · refine c_true F rfl rfl ?_
      refine c_region ?_
      refine sD F (o_fieldAddr (F.ev rfl) ?_); clear F a; intro a F
      refine sD F (o_load1 M (F.ev rfl) (by repeat constructor) (by first | assumption | rfl) ?_); clear F a; intro a F
      refine sD F (o_fieldAddr (F.ev rfl) ?_); clear F a; intro a F
      refine sD F (o_fieldAddr (F.ev rfl) ?_); clear F a; intro a F
      refine sD F (o_load1 M (F.ev rfl) (by repeat constructor) (by first | assumption | rfl) ?_); clear F a; intro a F
      refine sD F (o_fieldAddr (F.ev rfl) ?_); clear F a; intro a F
      refine sD F (o_load1 M (F.ev rfl) (by repeat constructor) (by first | assumption | rfl) ?_); clear F a; intro a F
      refine sD F (o_build F rfl rfl ?_); clear F a; intro a F
      (refine stepN rfl F (o_storeA M (F.ev rfl) (F.ev rfl) (rfl) (rfl)  (by repeat constructor)  (rfl) (by repeat constructor) ?_); clear F M; intro w M a F)
      with_reducible refine l_nil ?_
      exact ⟨F.only [0, 3, 4, 5, 7, 8, 12, 13, 14] rfl, by rw [hb0]; exact M⟩
  clear F M
  rintro a w ⟨F, M⟩
  with_reducible refine q_then (c_seq (c_region ?_))
  refine sD F (o_move (F.ev rfl) ?_); clear F a; intro a F
  refine sD F (o_loadA M (F.ev rfl) (by repeat constructor) (by first | assumption | rfl) ?_); clear F a; intro a F
  refine sD F (o_move (F.ev rfl) ?_); clear F a; intro a F
  (refine sD F (o_call (F.ev rfl) (F.evs rfl) (Cal.mono (hch _ (hS.later M.ext)) ?_)); clear F; clear a; rintro _ w ⟨rfl, hE⟩ a F; replace M := M.later hE; clear hE)
  refine sD F (o_move (F.ev rfl) ?_); clear F a; intro a F
  refine sD F (o_extract (F.ev rfl) rfl ?_); clear F a; intro a F
  refine sD F (o_extract (F.ev rfl) rfl ?_); clear F a; intro a F
  (refine sD F (o_alloc M ?_); clear F M; intro b15 w M a F)
  (refine stepN rfl F (o_storeA M (F.ev rfl) (F.ev rfl) (c4) (ch_one c)  (by repeat constructor)  (put_all (by rw [c4]; rfl)) (by repeat constructor) ?_); clear F M; intro w M a F)
  by_cases h0 : c.nb = 0
  · rw [haft, if_neg (by simp [h0])]
    cases had
    · refine sD F (o_assign (F.ev rfl) ?_); clear F a; intro a F
      with_reducible refine l_nil (q_then (c_seq (c_seq (c_region ?_))))
      refine sD F (o_move (F.ev rfl) ?_); clear F a; intro a F
      refine sD F (o_eqlT (F.ev rfl) (F.ev rfl) (by omega) ?_); clear F a; intro a F
      refine sD F (o_move (F.ev rfl) ?_); clear F a; intro a F
      refine sG F (o_fieldAddr (F.ev rfl) ?_); clear F a; intro a F
      refine sG F (o_load1 M (F.ev rfl) (by repeat constructor) (by first | assumption | rfl) ?_); clear F a; intro a F
      refine sG F (o_neqF (F.ev rfl) (F.ev rfl) (by omega) ?_); clear F a; intro a F
      refine sD F (o_pickT (F.ev rfl) (F.ev rfl) ?_); clear F a; intro a F
      with_reducible refine l_nil (q_then ?_)
      refine c_false F rfl rfl ?_
      with_reducible refine c_skip (q_then (c_seq (c_block (c_seq (c_region ?_)))))
      refine sD F (o_move (F.ev rfl) ?_); clear F a; intro a F
      refine sD F (o_not (F.ev rfl) ?_); clear F a; intro a F
      refine sD F (o_assign (F.ev rfl) ?_); clear F a; intro a F
      with_reducible refine l_nil (q_then ?_)
      refine c_true F rfl rfl ?_
      refine c_seq (c_region ?_)
      refine sD F (o_build F rfl rfl ?_); clear F a; intro a F
      (refine stepN rfl F (o_storeA M (F.ev rfl) (F.ev rfl) (rfl) (rfl)  (by repeat constructor)  (rfl) (by repeat constructor) ?_); clear F M; intro w M a F)
      refine sD F (o_assign (F.ev rfl) ?_); clear F a; intro a F
      with_reducible refine l_nil (q_then (c_ret (q_inBR (q_thenR ?_))))
      exact p_ret F rfl (.cons (.cell (F.ev rfl) (run_loadVar_agg TAgg.h (M.heap (by repeat constructor)) rfl)) (.cons (.tmp (F.ev rfl)) .nil)) ⟨rfl, M.ext⟩
    · have hold : oldB o true = some o := rfl
      rw [hold]
      dsimp only
      refine sD F (o_assign (F.ev rfl) ?_); clear F a; intro a F
      with_reducible refine l_nil (q_then (c_seq (c_seq (c_region ?_))))
      refine sD F (o_move (F.ev rfl) ?_); clear F a; intro a F
      refine sD F (o_eqlT (F.ev rfl) (F.ev rfl) (by omega) ?_); clear F a; intro a F
      refine sD F (o_move (F.ev rfl) ?_); clear F a; intro a F
      refine sG F (o_fieldAddr (F.ev rfl) ?_); clear F a; intro a F
      refine sG F (o_load1 M (F.ev rfl) (by repeat constructor) (by first | assumption | rfl) ?_); clear F a; intro a F
      refine sG F (o_neqF (F.ev rfl) (F.ev rfl) (by omega) ?_); clear F a; intro a F
      refine sD F (o_pickT (F.ev rfl) (F.ev rfl) ?_); clear F a; intro a F
      with_reducible refine l_nil (q_then ?_)
      refine c_false F rfl rfl ?_
      with_reducible refine c_skip (q_then (c_seq (c_block (c_seq (c_region ?_)))))
      refine sD F (o_move (F.ev rfl) ?_); clear F a; intro a F
      refine sD F (o_not (F.ev rfl) ?_); clear F a; intro a F
      refine sD F (o_assign (F.ev rfl) ?_); clear F a; intro a F
      with_reducible refine l_nil (q_then ?_)
      refine c_false F rfl rfl ?_
      refine c_seq (c_region ?_)
      refine sD F (o_loadA M (F.ev rfl) (by repeat constructor) (by first | assumption | rfl) ?_); clear F a; intro a F
      (refine sD F (o_call (F.ev rfl) (F.evs rfl) (Cal.mono (rtreach_c o ho _) ?_)); clear F; clear a; rintro _ w ⟨rfl, hE⟩ a F; replace M := M.later hE; clear hE)
      by_cases h1 : o.nb = 0
      · rw [decide_eq_true h1] at F
        rw [if_neg (by simp [h1])]
        by_cases h2 : now < o.til
        · rw [if_pos h2]
          refine sD F (o_assign (F.ev rfl) ?_); clear F a; intro a F
          with_reducible refine l_nil (q_then ?_)
          refine c_false F rfl rfl ?_
          refine c_seq (c_region ?_)
          refine sD F (o_fieldAddr (F.ev rfl) ?_); clear F a; intro a F
          refine sD F (o_load1 M (F.ev rfl) (by repeat constructor) (by first | assumption | rfl) ?_); clear F a; intro a F
          refine sD F (o_move (F.ev rfl) ?_); clear F a; intro a F
          refine sD F (o_gtrT (F.ev rfl) (F.ev rfl) (by omega) ?_); clear F a; intro a F
          refine sD F (o_assign (F.ev rfl) ?_); clear F a; intro a F
          with_reducible refine l_nil (q_then ?_)
          refine c_true F rfl rfl ?_
          refine c_seq (c_region ?_)
          refine sD F (o_loadA M (F.ev rfl) (by repeat constructor) (by first | assumption | rfl) ?_); clear F a; intro a F
          (refine stepN rfl F (o_storeA M (F.ev rfl) (F.ev rfl) (in_len ho) (in_one _)  (by repeat constructor)  (put_all (by rw [in_len ho]; rfl)) (by repeat constructor) ?_); clear F M; intro w M a F)
          refine sD F (o_assign (F.ev rfl) ?_); clear F a; intro a F
          with_reducible refine l_nil (q_then (c_ret (q_inBR (q_thenR ?_))))
          exact p_ret F rfl (.cons (.cell (F.ev rfl) (run_loadVar_agg TAgg.h (M.heap (by repeat constructor)) (in_all ho))) (.cons (.tmp (F.ev rfl)) .nil)) ⟨rfl, M.ext⟩
        · rw [if_neg h2]
          refine sD F (o_assign (F.ev rfl) ?_); clear F a; intro a F
          with_reducible refine l_nil (q_then ?_)
          refine c_false F rfl rfl ?_
          refine c_seq (c_region ?_)
          refine sD F (o_fieldAddr (F.ev rfl) ?_); clear F a; intro a F
          refine sD F (o_load1 M (F.ev rfl) (by repeat constructor) (by first | assumption | rfl) ?_); clear F a; intro a F
          refine sD F (o_move (F.ev rfl) ?_); clear F a; intro a F
          refine sD F (o_gtrF (F.ev rfl) (F.ev rfl) (by omega) ?_); clear F a; intro a F
          refine sD F (o_assign (F.ev rfl) ?_); clear F a; intro a F
          with_reducible refine l_nil (q_then ?_)
          refine c_false F rfl rfl ?_
          with_reducible refine c_skip (q_inB (q_then (c_seq (c_region ?_))))
          refine sD F (o_build F rfl rfl ?_); clear F a; intro a F
          (refine stepN rfl F (o_storeA M (F.ev rfl) (F.ev rfl) (rfl) (rfl)  (by repeat constructor)  (rfl) (by repeat constructor) ?_); clear F M; intro w M a F)
          refine sD F (o_assign (F.ev rfl) ?_); clear F a; intro a F
          with_reducible refine l_nil (q_then (c_ret ?_))
          exact p_ret F rfl (.cons (.cell (F.ev rfl) (run_loadVar_agg TAgg.h (M.heap (by repeat constructor)) rfl)) (.cons (.tmp (F.ev rfl)) .nil)) ⟨rfl, M.ext⟩
      · rw [decide_eq_false h1] at F
        rw [if_pos h1]
        have wf : IsIn ⟨t, 0, ⟨o.own.seq, inf⟩, -1, laterV now 14⟩ := ⟨ht, trivial⟩
        have e18 := di_all (o := ⟨o.own.seq, inf⟩) trivial
        refine sD F (o_assign (F.ev rfl) ?_); clear F a; intro a F
        with_reducible refine l_nil (q_then ?_)
        refine c_true F rfl rfl ?_
        refine c_seq (c_region ?_)
        refine sD F (o_fieldAddr (F.ev rfl) ?_); clear F a; intro a F
        refine sD F (o_fieldAddr (F.ev rfl) ?_); clear F a; intro a F
        refine sD F (o_load1 M (F.ev rfl) (by repeat constructor) (by first | assumption | rfl) ?_); clear F a; intro a F
        refine sD F (o_build F rfl rfl ?_); clear F a; intro a F
        (refine sD F (o_alloc M ?_); clear F M; intro b18 w M a F)
        (refine stepN rfl F (o_storeA M (F.ev rfl) (F.ev rfl) (rfl) (rfl)  (by repeat constructor)  (rfl) (by repeat constructor) ?_); clear F M; intro w M a F)
        with_reducible refine l_nil (q_then (c_seq ?_))
        replace F := F.only [0, 7, 8, 12, 13, 14, 15, 18] rfl
        refine c_draw 5 F (by kernel_rfl) ?_
        intro w1 hE hok
        have M1 := M.later hE
        refine mK hok rfl rfl (fun a' w' F' E' => o_loadA (M1.later E') (F'.ev rfl) (by repeat constructor) (by first | assumption | rfl) ⟨Ext.refl _ _, rfl⟩) ?_
        refine mK hok rfl rfl (fun a' w' F' E' => o_loadA (M1.later E') (F'.ev rfl) (by repeat constructor) (by first | assumption | rfl) ⟨Ext.refl _ _, rfl⟩) ?_
        refine mK hok rfl rfl (fun a' w' F' E' => o_move (F'.ev rfl) ⟨Ext.refl _ _, rfl⟩) ?_
        (refine mK hok rfl rfl (fun a' w' F' E' => o_call (F'.ev rfl) (F'.evs rfl) (Cal.mono (rlater_c now 14 hnw.1 hnw.2 (by omega) (by omega) _) fun _ _ hh => ⟨hh.2, hh.1⟩)) ?_)
        skip
        (refine mK hok rfl rfl (fun a' w' F' E' => o_build F' rfl (in_buildH ht ⟨o.own.seq, inf⟩ (-1) (laterV now 14)) ⟨Ext.refl _ _, rfl⟩) ?_)
        (refine mDone rfl rfl ?_; clear F M; intro a w F hE2 hX hTT hDD hPP; have M := M1.later hE2; clear M1; clear hX; clear hE2; clear hok; clear hE; clear hTT; clear hDD; clear hPP; (try dsimp only at F))
        (refine stepN rfl F (o_storeA M (F.ev rfl) (F.ev rfl) (in_len wf) (in_one _)  (by repeat constructor)  (put_all (by rw [in_len wf]; rfl)) (by repeat constructor) ?_); clear F M; intro w M a F)
        refine sD F (o_assign (F.ev rfl) ?_); clear F a; intro a F
        with_reducible refine l_nil (q_then (c_ret (q_inBR (q_thenR ?_))))
        exact p_ret F rfl (.cons (.cell (F.ev rfl) (run_loadVar_agg TAgg.h (M.heap (by repeat constructor)) (in_all wf))) (.cons (.tmp (F.ev rfl)) .nil)) ⟨rfl, M.ext⟩
  rw [haft, if_pos h0]
  obtain ⟨z, hz⟩ : ∃ z, z = (getA c.nb said).getD di0 := ⟨_, rfl⟩
  have hz2 : (getA c.nb (mapQ said)).getD (diV di0) = .agg (diC z).toArray := by
    rw [hz]
    unfold mapQ
    rw [getA_map]
    cases getA c.nb said <;> rfl
  rw [← hz]
  have wf : IsIn ⟨t, c.nb, ⟨z.seq, c.cost⟩, c.btn, 0⟩ := ⟨ht, trivial⟩
  have e17 := di_all (o := ⟨z.seq, c.cost⟩) trivial
  refine sD F (o_assign (F.ev rfl) ?_); clear F a; intro a F
  with_reducible refine l_nil (q_then (c_seq (c_seq (c_region ?_))))
  refine sD F (o_move (F.ev rfl) ?_); clear F a; intro a F
  refine sD F (o_eqlT (F.ev rfl) (F.ev rfl) (by omega) ?_); clear F a; intro a F
  refine sD F (o_move (F.ev rfl) ?_); clear F a; intro a F
  refine sG F (o_fieldAddr (F.ev rfl) ?_); clear F a; intro a F
  refine sG F (o_load1 M (F.ev rfl) (by repeat constructor) (by first | assumption | rfl) ?_); clear F a; intro a F
  refine sG F (o_neqT (F.ev rfl) (F.ev rfl) (by omega) ?_); clear F a; intro a F
  refine sD F (o_pickT (F.ev rfl) (F.ev rfl) ?_); clear F a; intro a F
  with_reducible refine l_nil (q_then ?_)
  refine c_true F rfl rfl ?_
  refine c_seq (c_region ?_)
  refine sD F (o_move (F.ev rfl) ?_); clear F a; intro a F
  refine sD F (o_fieldAddr (F.ev rfl) ?_); clear F a; intro a F
  refine sD F (o_load1 M (F.ev rfl) (by repeat constructor) (by first | assumption | rfl) ?_); clear F a; intro a F
  (refine sD F (o_lookup1 keyE_law zero_dR (hM.later M.ext) (fun _ _ => trivial) trivial (F.ev rfl) (F.ev rfl) ?_); clear F a; intro a F)
  rw [hz2] at F
  refine sD F (o_field1 (F.ev rfl) rfl ?_); clear F a; intro a F
  refine sD F (o_fieldAddr (F.ev rfl) ?_); clear F a; intro a F
  refine sD F (o_load1 M (F.ev rfl) (by repeat constructor) (by first | assumption | rfl) ?_); clear F a; intro a F
  refine sD F (o_build F rfl rfl ?_); clear F a; intro a F
  (refine sD F (o_alloc M ?_); clear F M; intro b17 w M a F)
  (refine stepN rfl F (o_storeA M (F.ev rfl) (F.ev rfl) (rfl) (rfl)  (by repeat constructor)  (rfl) (by repeat constructor) ?_); clear F M; intro w M a F)
  with_reducible refine l_nil (q_then (c_seq (c_region ?_)))
  refine sD F (o_loadA M (F.ev rfl) (by repeat constructor) (by first | assumption | rfl) ?_); clear F a; intro a F
  refine sD F (o_fieldAddr (F.ev rfl) ?_); clear F a; intro a F
  refine sD F (o_load1 M (F.ev rfl) (by repeat constructor) (by first | assumption | rfl) ?_); clear F a; intro a F
  refine sD F (o_loadA M (F.ev rfl) (by repeat constructor) (by first | assumption | rfl) ?_); clear F a; intro a F
  refine sD F (o_fieldAddr (F.ev rfl) ?_); clear F a; intro a F
  refine sD F (o_load1 M (F.ev rfl) (by repeat constructor) (by first | assumption | rfl) ?_); clear F a; intro a F
  (refine sD F (o_build F rfl (in_buildA ht c.nb ⟨z.seq, c.cost⟩ c.btn) ?_); clear F a; intro a F)
  (refine stepN rfl F (o_storeA M (F.ev rfl) (F.ev rfl) (in_len wf) (in_one _)  (by repeat constructor)  (put_all (by rw [in_len wf]; rfl)) (by repeat constructor) ?_); clear F M; intro w M a F)
  refine sD F (o_assign (F.ev rfl) ?_); clear F a; intro a F
  with_reducible refine l_nil (q_then (c_ret (q_thenR ?_)))
  exact p_ret F rfl (.cons (.cell (F.ev rfl) (run_loadVar_agg TAgg.h (M.heap (by repeat constructor)) (in_all wf))) (.cons (.tmp (F.ev rfl)) .nil)) ⟨rfl, M.ext⟩
end Go.Proofs.YtilgoepokaaleaaGreat
/-! ZE -/
namespace Go.Proofs.YtilgoepokaaleaaGreat
set_option linter.unusedVariables false
set_option linter.unusedSimpArgs false
open Go.RowKit
attribute [local irreducible] OpTo wpListIn Code.wpIn MW Cal
def findI {α : Type} (p : α → Bool) (ls : List α) : Int := match ls.findIdx? p with | some i => i | none => -1
theorem findI_at {α : Type} {p : α → Bool} {ls : List α} {i : Nat} (hi : i < ls.length) (h : p ls[i] = true) (hn : ∀ j (hj : j < i), p ls[j] = false) : findI p ls = i := by
  have : ls.findIdx? p = some i := List.findIdx?_eq_some_iff_getElem.2 ⟨hi, h, fun j hj => by simp [hn j hj]⟩
  simp [findI, this]
theorem findI_none {α : Type} {p : α → Bool} {ls : List α} (hn : ∀ j (hj : j < ls.length), p ls[j] = false) : findI p ls = -1 := by
  have : ls.findIdx? p = none := List.findIdx?_eq_none_iff.2 fun x hx => by
    obtain ⟨j, hj, rfl⟩ := List.mem_iff_getElem.1 hx
    exact hn j hj
  simp [findI, this]
theorem findI_cases {α : Type} (p : α → Bool) (ls : List α) : (findI p ls = -1 ∧ ∀ x ∈ ls, p x = false) ∨ (∃ i, ∃ hi : i < ls.length, findI p ls = i ∧ p ls[i] = true ∧ ∀ j (hj : j < i), p ls[j] = false) := by
  unfold findI
  cases h : ls.findIdx? p with
  | none => exact .inl ⟨rfl, fun x hx => List.findIdx?_eq_none_iff.1 h x hx⟩
  | some i =>
    obtain ⟨h1, h2, h3⟩ := List.findIdx?_eq_some_iff_getElem.1 h
    exact .inr ⟨i, h1, rfl, h2, fun j hj => by simpa using h3 j hj⟩
theorem findI_find {α : Type} {p : α → Bool} {ls : List α} : (findI p ls = -1 ∧ ls.find? p = none) ∨ ∃ i, ∃ hi : i < ls.length, findI p ls = (i : Nat) ∧ ls.find? p = some ls[i] := by
  rcases findI_cases p ls with ⟨h1, h2⟩ | ⟨i, hi, h1, h2, h3⟩
  · exact .inl ⟨h1, List.find?_eq_none.2 fun x hx => by rw [h2 x hx]; simp⟩
  · refine .inr ⟨i, hi, h1, ?_⟩
    rw [List.find?_eq_some_iff_getElem]
    exact ⟨h2, i, hi, rfl, fun j hj => by rw [h3 j hj]; rfl⟩
set_option maxHeartbeats 1000000 in
theorem indexI_c {v : Value} {ls : List InsV} (W : World) (hS : SlAt W 40 v ls.length (insC ls)) (hls : ∀ l ∈ ls, IsIn l) (hlen : ls.length ≤ 1000) (g : FuncId) [hg : TBody Tryz.prog g] (caps : List Value) (p : InsV → Bool)
    (hcl : ∀ w l, Ext [] W w → l ∈ ls → Cal Tryz.prog g (.agg (inC l).toArray :: caps).toArray w fun v w' => v = .bool (p l) ∧ Ext [] w w') :
    Cal Tryz.prog 109 [v, .func (.func g) #[] caps.toArray].toArray W fun x w' => x = .int .i64 (findI p ls) ∧ Ext [] W w' := by
  obtain ⟨q, cap, rfl, hcap, hsp, hl, hm⟩ := hS
  refine fn_ofM (n := 19) [] Tryz.func109 rfl rfl rfl ?_
  intro a w F M hwW
  refine c_seq (c_region ?_)
  refine sD F (o_assign (F.ev rfl) ?_); clear F a; intro a F
  with_reducible refine l_nil (q_then (c_seq (c_seq (c_region ?_))))
  refine sD F (o_move (F.ev rfl) ?_); clear F a; intro a F
  refine sD F (o_lenSl (F.ev rfl) ?_); clear F a; intro a F
  refine sD F (o_move (F.ev rfl) ?_); clear F a; intro a F
  with_reducible refine l_nil (q_then (c_block ?_))
  refine c_loop (fun k a w => ∃ i : Nat, k = ls.length - i ∧ i ≤ ls.length ∧ (∀ j (hj : j < i) (hj2 : j < ls.length), p ls[j] = false) ∧ Frm a 19 [] [(8, .int .i64 i), (7, .int .i64 ls.length), (0, .slice q ls.length cap), (1, .func (.func g) #[] caps.toArray)] ∧ Mem [] W w []) ls.length ⟨0, rfl, by omega, by omega, F.only [8, 7, 0, 1] rfl, M⟩ ?_
  clear F M
  rintro k a w ⟨i, hk, hi, hno, F, M⟩
  by_cases hlt : i < ls.length
  · obtain ⟨b, o, cs, t, fz, rfl, hb, hs⟩ := hm (by omega)
    have e1 : seg cs (o + (i : Int).toNat * 40) 40 = some (inC ls[i]) := seg_el (ins_len hls) hs hlt (by omega)
    refine c_seq (c_region ?_)
    refine sD F (o_lssT (F.ev rfl) (F.ev rfl) (by omega) ?_); clear F a; intro a F
    with_reducible refine l_nil (q_then (c_seq ?_))
    refine c_true F rfl rfl ?_
    with_reducible refine c_skip (q_then (c_seq (c_block (c_seq (c_region ?_)))))
    refine sD F (o_move (F.ev rfl) ?_); clear F a; intro a F
    refine sD F (o_assign (F.ev rfl) ?_); clear F a; intro a F
    with_reducible refine l_nil (q_then (c_seq (c_region ?_)))
    refine sD F (o_move (F.ev rfl) ?_); clear F a; intro a F
    refine sD F (o_move (F.ev rfl) ?_); clear F a; intro a F
    refine sD F (o_move (F.ev rfl) ?_); clear F a; intro a F
    refine sD F (o_indexSl (F.ev rfl) (F.ev rfl) (by omega) (by omega) ?_); clear F a; intro a F
    refine sD F (o_loadWA M (F.ev rfl) (by assumption) (by first | assumption | rfl) ?_); clear F a; intro a F
    (refine sD F (o_callCl (us := (.agg (inC ls[i]).toArray :: caps).toArray) (F.ev rfl) (F.evs rfl) (by simp) (Cal.mono (hcl _ ls[i] M.ext (List.getElem_mem hlt)) ?_)); clear F; clear a; rintro _ w ⟨rfl, hE⟩ a F; replace M := M.later hE; clear hE)
    cases hp : p ls[i]
    · rw [hp] at F
      with_reducible refine l_nil (q_then ?_)
      refine c_false F rfl rfl ?_
      with_reducible refine c_skip (q_inB (q_then (c_region ?_)))
      refine sD F (o_add (F.ev rfl) (F.ev rfl) (w_i64 (by omega) (by omega)) ?_); clear F a; intro a F
      refine sD F (o_move (F.ev rfl) ?_); clear F a; intro a F
      with_reducible refine l_nil (q_then ?_)
      exact ⟨_, by omega, i + 1, rfl, by omega, fun j hj hj2 => by
        rcases Nat.lt_or_ge j i with h | h
        · exact hno j h hj2
        · obtain rfl : j = i := by omega
          exact hp, F.only [8, 7, 0, 1] rfl, M⟩
    · rw [hp] at F
      with_reducible refine l_nil (q_then ?_)
      refine c_true F rfl rfl ?_
      refine c_seq (c_region ?_)
      refine sD F (o_move (F.ev rfl) ?_); clear F a; intro a F
      refine sD F (o_assign (F.ev rfl) ?_); clear F a; intro a F
      with_reducible refine l_nil (q_then (c_ret (q_inBR (q_thenR (q_thenR (q_inBR (q_thenR ?_)))))))
      refine p_ret F rfl (.cons (.tmp (F.ev rfl)) .nil) ?_
      exact ⟨by rw [findI_at hlt hp fun j hj => hno j hj (by omega)]; rfl, M.ext⟩
  · obtain rfl : i = ls.length := by omega
    refine c_seq (c_region ?_)
    refine sD F (o_lssF (F.ev rfl) (F.ev rfl) (by omega) ?_); clear F a; intro a F
    with_reducible refine l_nil (q_then (c_seq ?_))
    refine c_false F rfl rfl ?_
    with_reducible refine c_exit (q_thenX (q_thenX (q_inBX (q_then (c_seq (c_region ?_))))))
    refine sD F (o_assign (F.ev rfl) ?_); clear F a; intro a F
    with_reducible refine l_nil (q_then (c_ret ?_))
    refine p_ret F rfl (.cons (.tmp (F.ev rfl)) .nil) ?_
    exact ⟨by rw [findI_none fun j hj => hno j hj hj]; rfl, M.ext⟩
/-! lookup -/
theorem nearL_step {l : List InsV} {src dst : List Int} {i : Nat} (h : i < l.length) : nearL (l.take (i + 1)) src dst = nearS src dst (nearL (l.take i) src dst) l[i] := by
  unfold nearL
  rw [List.take_add_one, List.getElem?_eq_getElem h, List.foldl_append]
  rfl
theorem nearS_sub {src dst : List Int} {near : List InsV} {e : InsV} {p : InsV → Prop} (h : ∀ x ∈ near, p x) (he : p e) : ∀ x ∈ nearS src dst near e, p x := by
  unfold nearS
  split
  · split
    · simpa using he
    · split
      · simpa using he
      · split
        · intro x hx
          rcases List.mem_append.1 hx with h1 | h1
          · exact h x h1
          · simp at h1; rw [h1]; exact he
        · exact h
  · exact h
theorem nearL_sub {src dst : List Int} {p : InsV → Prop} : ∀ {l : List InsV}, (∀ x ∈ l, p x) → ∀ x ∈ nearL l src dst, p x := by
  intro l h
  unfold nearL
  have key : ∀ (l near : List InsV), (∀ x ∈ l, p x) → (∀ x ∈ near, p x) → ∀ x ∈ l.foldl (nearS src dst) near, p x := by
    intro l
    induction l with
    | nil => intro near _ h; exact h
    | cons a l ih =>
      intro near h1 h2
      rw [List.foldl_cons]
      exact ih _ (fun x hx => h1 x (List.mem_cons_of_mem _ hx)) (nearS_sub h2 (h1 a (by simp)))
  exact key l [] h (by simp)
theorem nearS_len {src dst : List Int} {near : List InsV} {e : InsV} : (nearS src dst near e).length ≤ near.length + 1 := by
  unfold nearS
  split
  · split
    · simp
    · split
      · simp
      · split <;> simp
  · omega
theorem nearL_len {src dst : List Int} {l : List InsV} : (nearL l src dst).length ≤ l.length := by
  unfold nearL
  have key : ∀ (l near : List InsV), (l.foldl (nearS src dst) near).length ≤ near.length + l.length := by
    intro l
    induction l with
    | nil => intro near; simp
    | cons a l ih =>
      intro near
      rw [List.foldl_cons]
      have h1 := ih (nearS src dst near a)
      have h2 := nearS_len (src := src) (dst := dst) (near := near) (e := a)
      simp only [List.length_cons]
      omega
  simpa using key l []
theorem cheap_step {near : List InsV} {y : InsV} {i : Nat} (h : i < near.length) : cheap (near.take (i + 1)) y = if near[i].own.met < (cheap (near.take i) y).own.met then near[i] else cheap (near.take i) y := by
  unfold cheap
  rw [List.take_add_one, List.getElem?_eq_getElem h, List.foldl_append]
  rfl
theorem cheap_p {near : List InsV} {y : InsV} {p : InsV → Prop} (h : ∀ x ∈ near, p x) (hy : p y) : p (cheap near y) := by
  unfold cheap
  induction near generalizing y with
  | nil => exact hy
  | cons a l ih =>
    rw [List.foldl_cons]
    refine ih (fun x hx => h x (List.mem_cons_of_mem _ hx)) ?_
    split
    · exact h a (by simp)
    · exact hy
theorem eq_pfD {a b : List Int} {n m : Int} (h : a.length = b.length) : eqVs (pfC a n) (pfC b m) = (decide (a = b) && decide (n = m)) := by
  rw [eqVs_pf h]
  by_cases h1 : a = b <;> by_cases h2 : n = m <;> simp [h1, h2]
end Go.Proofs.YtilgoepokaaleaaGreat
/-! ZC -/
namespace Go.Proofs.YtilgoepokaaleaaGreat
set_option linter.unusedVariables false
set_option linter.unusedSimpArgs false
open Go.RowKit
section
variable {now : Int} {s : List SrcV} {cm : List (Int × Int)} {t : DstV} {l : List RouV}
theorem toR_take {r : Nat} (h : r < l.length) (he : l[r].to = t) : (l.take (r + 1)).filter (fun r => decide (r.to = t)) = (l.take r).filter (fun r => decide (r.to = t)) ++ [l[r]] := by
  rw [List.take_add_one, List.getElem?_eq_getElem h, List.filter_append]
  simp [he]
theorem optsV_step {r : Nat} (h : r < l.length) (he : l[r].to = t) : optsV now s cm t (l.take (r + 1)) = optsV now s cm t (l.take r) ++ (optV now s cm t l[r]).toList := by
  unfold optsV
  rw [toR_take h he, List.filterMap_append]
  cases ho : optV now s cm t l[r] <;> simp [List.filterMap_cons, ho]
theorem saidV_step {r : Nat} (h : r < l.length) (he : l[r].to = t) : saidV now s cm t (l.take (r + 1)) = if (optV now s cm t l[r]).isSome then putA l[r].nb l[r].said (saidV now s cm t (l.take r)) else saidV now s cm t (l.take r) := by
  unfold saidV
  rw [toR_take h he, List.filter_append, List.foldl_append]
  cases ho : (optV now s cm t l[r]).isSome <;> simp [List.filter_cons, ho]
theorem toR_none {r : Nat} (h : ∀ j (hj : j < l.length), r ≤ j → l[j].to ≠ t) : l.filter (fun r => decide (r.to = t)) = (l.take r).filter (fun r => decide (r.to = t)) := by
  have h2 : (l.drop r).filter (fun r => decide (r.to = t)) = [] := filter_no fun a ha => by
    obtain ⟨j, hj, rfl⟩ := List.mem_iff_getElem.1 ha
    rw [List.length_drop] at hj
    rw [List.getElem_drop]
    exact decide_eq_false (h (r + j) (by omega) (by omega))
  conv => lhs; rw [← List.take_append_drop r l]
  rw [List.filter_append, h2, List.append_nil]
theorem toR_nil {r : Nat} (h : ∀ j (hj : j < l.length), j < r → l[j].to ≠ t) : (l.take r).filter (fun r => decide (r.to = t)) = [] := filter_no fun a ha => by
  obtain ⟨j, hj, rfl⟩ := List.mem_iff_getElem.1 ha
  rw [List.length_take] at hj
  rw [List.getElem_take]
  exact decide_eq_false (h j (by omega) (by omega))
theorem optsV_all {r : Nat} (h : ∀ j (hj : j < l.length), r ≤ j → l[j].to ≠ t) : optsV now s cm t l = optsV now s cm t (l.take r) := by
  unfold optsV; rw [toR_none h]
theorem saidV_all {r : Nat} (h : ∀ j (hj : j < l.length), r ≤ j → l[j].to ≠ t) : saidV now s cm t l = saidV now s cm t (l.take r) := by
  unfold saidV; rw [toR_none h]
theorem optsV_nil {r : Nat} (h : ∀ j (hj : j < l.length), j < r → l[j].to ≠ t) : optsV now s cm t (l.take r) = [] := by
  unfold optsV; rw [toR_nil h]; rfl
theorem saidV_nil {r : Nat} (h : ∀ j (hj : j < l.length), j < r → l[j].to ≠ t) : saidV now s cm t (l.take r) = [] := by
  unfold saidV; rw [toR_nil h]; rfl
end
/-! the places in the two lists -/
/-- from r on, a list's destinations are still to come; before, they are gone -/
structure Yet {α : Type} (to : α → DstV) (l : List α) (ds : List DstV) (r : Nat) : Prop where
  le : r ≤ l.length
  gone : ∀ j (hj : j < l.length), j < r → to l[j] ∉ ds
  yet : ∀ j (hj : j < l.length), r ≤ j → to l[j] ∈ ds
/-- the destinations do not fall -/
abbrev Weak {α : Type} (to : α → DstV) (l : List α) : Prop := l.Pairwise fun a b => ¬ cmpD (to b) (to a) < 0
theorem Yet.next {α : Type} {to : α → DstV} {l : List α} {t : DstV} {ds : List DstV} {r r1 : Nat} (hW : Weak to l) (hd : AscD (t :: ds)) (hi : ∀ x ∈ t :: ds, IsDv x) (h : Yet to l (t :: ds) r) (hr : r ≤ r1) (hle : r1 ≤ l.length) (he : ∀ j (hj : j < l.length), r ≤ j → j < r1 → to l[j] = t) (hn : ∀ hj : r1 < l.length, to l[r1] ≠ t) : Yet to l ds r1 ∧ ∀ j (hj : j < l.length), r1 ≤ j → to l[j] ≠ t := by
  have hd1 := List.pairwise_cons.1 hd
  have htn : t ∉ ds := fun h => by have := hd1.1 t h; rw [cmpD_self] at this; omega
  have key : ∀ j (hj : j < l.length), r1 ≤ j → to l[j] ≠ t := by
    intro j hj h1 e
    have hr1 : r1 < l.length := by omega
    have h2 := h.yet r1 hr1 hr
    have h3 : cmpD t (to l[r1]) < 0 := by
      rcases List.mem_cons.1 h2 with h4 | h4
      · exact absurd h4 (hn hr1)
      · exact hd1.1 _ h4
    rcases Nat.lt_or_ge r1 j with h5 | h5
    · have := (List.pairwise_iff_getElem.1 hW) r1 j hr1 hj h5
      rw [e] at this
      exact this h3
    · obtain rfl : j = r1 := by omega
      exact hn hj e
  refine ⟨⟨hle, fun j hj h1 h2 => ?_, fun j hj h1 => ?_⟩, key⟩
  · rcases Nat.lt_or_ge j r with h3 | h3
    · exact h.gone j hj h3 (List.mem_cons_of_mem _ h2)
    · rw [he j hj h3 h1] at h2
      exact htn h2
  · rcases List.mem_cons.1 (h.yet j hj (by omega)) with h2 | h2
    · exact absurd h2 (key j hj h1)
    · exact h2
theorem Yet.before {α : Type} {to : α → DstV} {l : List α} {t : DstV} {ds : List DstV} {r : Nat} (h : Yet to l (t :: ds) r) : ∀ j (hj : j < l.length), j < r → to l[j] ≠ t := fun j hj h1 e => h.gone j hj h1 (by rw [e]; simp)
theorem weak_R {l : List RouV} (hi : ∀ x ∈ l, IsRo x) (h : AscC cmpR l) : Weak RouV.to l := by
  refine List.Pairwise.imp_of_mem ?_ h
  intro a b ha hb h1 h2
  rw [cmpR_or (hi a ha).1 (hi b hb).1, orI] at h1
  have h3 := cmpD_anti a.to b.to
  split at h1
  · omega
  · omega
theorem weak_N {l : List InsV} (h : AscC cmpN l) : Weak InsV.to l := by
  refine h.imp ?_
  intro a b h1 h2
  have h3 := cmpD_anti a.to b.to
  unfold cmpN at h1
  omega
/-! the old element -/
theorem oldV_at {old : List InsV} {t : DstV} {i : Nat} (h : i < old.length) (he : old[i].to = t) (hb : ∀ j (hj : j < old.length), j < i → old[j].to ≠ t) : oldV old t = some old[i] :=
  find_at h (decide_eq_true he) fun j hj h1 => decide_eq_false (hb j hj h1)
theorem oldV_no {old : List InsV} {t : DstV} (hb : ∀ j (hj : j < old.length), old[j].to ≠ t) : oldV old t = none := find_no fun j hj => decide_eq_false (hb j hj)
/-! the costs -/
theorem costM_step {l : List OptV} {i : Nat} (h : i < l.length) : costM (l.take (i + 1)) = putA l[i].nb (lkC l[i].cost) (costM (l.take i)) := by
  unfold costM
  rw [List.take_add_one, List.getElem?_eq_getElem h, List.foldl_append]
  rfl
theorem costM_mem {l : List OptV} {x c : Int} (h : getA x (costM l) = some c) : ∃ o ∈ l, o.nb = x ∧ c = lkC o.cost := by
  have key : ∀ (l : List OptV) (m : List (Int × Int)), getA x (l.foldl (fun m o => putA o.nb (lkC o.cost) m) m) = some c → (∃ o ∈ l, o.nb = x ∧ c = lkC o.cost) ∨ getA x m = some c := by
    intro l
    induction l with
    | nil => intro m h; exact .inr h
    | cons o l ih =>
      intro m h
      rw [List.foldl_cons] at h
      rcases ih _ h with ⟨o', h1, h2⟩ | h1
      · exact .inl ⟨o', List.mem_cons_of_mem _ h1, h2⟩
      · rw [getA_put] at h1
        split at h1
        · rename_i e
          exact .inl ⟨o, by simp, e.symm, by cases h1; rfl⟩
        · exact .inr h1
  rcases key l [] h with h | h
  · exact h
  · simp [getA] at h
theorem nodup_le : ∀ {xs ys : List Int}, xs.Nodup → (∀ x ∈ xs, x ∈ ys) → xs.length ≤ ys.length
  | [], _, _, _ => by simp
  | x :: xs, ys, hn, hs => by
    have h1 := List.nodup_cons.1 hn
    have hx := hs x (by simp)
    have h2 : xs.length ≤ (ys.erase x).length := nodup_le h1.2 fun y hy => (List.mem_erase_of_ne (fun e => h1.1 (by rw [← e]; exact hy))).2 (hs y (List.mem_cons_of_mem _ hy))
    rw [List.length_erase_of_mem hx] at h2
    have : 0 < ys.length := List.length_pos_of_mem hx
    simp only [List.length_cons]
    omega
theorem addM_valid (a b : Int) : validM (addM a b) = true := by
  unfold addM
  split
  · rename_i h
    unfold validM at h ⊢
    simp only [Bool.and_eq_true, decide_eq_true_eq] at h
    unfold inf
    simp only [Bool.and_eq_true, decide_eq_true_eq]
    omega
  · rfl
theorem optV_some {now : Int} {s : List SrcV} {cm : List (Int × Int)} {t : DstV} {r : RouV} {o : OptV} (h : optV now s cm t r = some o) : o.nb = r.nb ∧ ∃ c, getA r.nb cm = some c ∧ o.cost = addM r.said.met c := by
  unfold optV at h
  cases hc : getA r.nb cm with
  | none => rw [hc] at h; cases h
  | some c =>
    rw [hc] at h
    dsimp only at h
    split at h
    · cases h
    · cases h
      exact ⟨rfl, c, rfl, rfl⟩
theorem opts_valid {now : Int} {s : List SrcV} {links : List OptV} {t : DstV} {l : List RouV} (hi : ∀ x ∈ l, IsRo x) (hl : validRs l = true) (hk : links.length ≤ 16) : validOs (optsV now s (costM links) t l) = true := by
  obtain ⟨_, h2, h3⟩ := validRs_iff.1 hl
  have hasc : AscC cmpO (optsV now s (costM links) t l) := by
    unfold optsV
    refine List.Pairwise.filterMap _ ?_ ((List.Pairwise.filter (fun r => decide (r.to = t)) (List.Pairwise.imp_of_mem (S := fun a b => a.to = t → b.to = t → a.nb < b.nb) ?_ h3)).imp_of_mem (S := fun a b => a.nb < b.nb) ?_)
    · intro a a' h b hb b' hb'
      have e1 := (optV_some hb).1
      have e2 := (optV_some hb').1
      unfold cmpO
      rw [cmpI_lt, e1, e2]
      exact h
    · intro a b ha hb h1 ea eb
      rw [cmpR_or (hi a ha).1 (hi b hb).1, ea, eb, cmpD_self, orI, if_pos rfl, cmpI_lt] at h1
      exact h1
    · intro a b ha hb h1
      exact h1 (of_decide_eq_true (List.mem_filter.1 ha).2) (of_decide_eq_true (List.mem_filter.1 hb).2)
  refine validOs_iff.2 ⟨?_, fun o ho => ?_, hasc⟩
  · have h4 : ((optsV now s (costM links) t l).map (·.nb)).Nodup := by
      rw [List.Nodup, List.pairwise_map]
      refine hasc.imp ?_
      intro a b h e
      unfold cmpO at h
      rw [cmpI_lt] at h
      omega
    have h5 := nodup_le (ys := links.map (·.nb)) h4 fun x hx => by
      obtain ⟨o, ho, rfl⟩ := List.mem_map.1 hx
      obtain ⟨r, _, hr⟩ := List.mem_filterMap.1 ho
      obtain ⟨e1, c, hc, _⟩ := optV_some hr
      obtain ⟨k, hk1, hk2, _⟩ := costM_mem hc
      rw [e1, ← hk2]
      exact List.mem_map_of_mem hk1
    simp only [List.length_map] at h5
    omega
  · obtain ⟨r, hr1, hr⟩ := List.mem_filterMap.1 ho
    obtain ⟨e1, c, hc, e2⟩ := optV_some hr
    have h6 := h2 r (List.mem_filter.1 hr1).1
    simp only [rou1, Bool.and_eq_true] at h6
    unfold opt1
    rw [e1, e2, addM_valid, h6.1.1.2]
    rfl
end Go.Proofs.YtilgoepokaaleaaGreat
/-! ZD -/
namespace Go.Proofs.YtilgoepokaaleaaGreat
set_option linter.unusedVariables false
set_option linter.unusedSimpArgs false
open Go.RowKit
attribute [local irreducible] OpTo wpListIn Code.wpIn MW Cal
def selectV (now : Int) (l : List RouV) (s : List SrcV) (links : List OptV) (old : List InsV) : List InsV × Int :=
  if !validRs l || !validSs s || !validOs links || !validIs old then ([], 1) else if !isTime now then ([], 2)
  else if 512 < (selV now l s links old).length then ([], 10) else (selV now l s links old, 0)
def mapI (m : List (Int × Int)) : List (Int × Value) := m.map fun p => (p.1, Value.int .i64 p.2)
theorem zero_iR : zeroIs Tryz.prog 3 (.int .i64 0) := by
  unfold zeroIs
  kernel_rfl
theorem getA_mapI (x : Int) (m : List (Int × Int)) : getA x (mapI m) = (getA x m).map (Value.int .i64) := getA_map _ x m
theorem nodupD_le : ∀ {xs ys : List DstV}, AscD xs → (∀ x ∈ xs, x ∈ ys) → xs.length ≤ ys.length
  | [], _, _, _ => by simp
  | x :: xs, ys, hn, hs => by
    have h1 := List.pairwise_cons.1 hn
    have hx := hs x (by simp)
    have h2 : xs.length ≤ (ys.erase x).length := nodupD_le h1.2 fun y hy => (List.mem_erase_of_ne (fun e => by have := h1.1 y hy; rw [e, cmpD_self] at this; omega)).2 (hs y (List.mem_cons_of_mem _ hy))
    rw [List.length_erase_of_mem hx] at h2
    have : 0 < ys.length := List.length_pos_of_mem hx
    simp only [List.length_cons]
    omega
theorem oldV_is {old : List InsV} (hy : ∀ x ∈ old, IsIn x) {t : DstV} {o : InsV} (h : oldV old t = some o) : IsIn o := hy o (List.mem_of_find?_eq_some h)
theorem selE_is {now : Int} {l : List RouV} {s : List SrcV} {cm : List (Int × Int)} {old : List InsV} {t : DstV} (ht : IsDv t) (hy : ∀ x ∈ old, IsIn x) {e : InsV} (h : selE now l s cm old t = some e) : IsIn e := by
  unfold selE aftV at h
  dsimp only at h
  split at h
  · cases h
    exact ⟨ht, trivial⟩
  · split at h
    · cases h
    · rename_i o ho
      split at h
      · cases h
        exact ⟨ht, trivial⟩
      · split at h
        · cases h
          exact oldV_is hy ho
        · cases h
theorem opts_len {now : Int} {s : List SrcV} {cm : List (Int × Int)} {t : DstV} {l : List RouV} {n : Nat} (h : l.length ≤ n) : (optsV now s cm t l).length ≤ n := by
  unfold optsV
  have h1 := List.length_filterMap_le (optV now s cm t) (l.filter fun r => decide (r.to = t))
  have h2 := List.length_filter_le (fun r => decide (r.to = t)) l
  omega
def PhO (o : OptV) (r : Value) (ent : List (Nat × Obj)) : Prop := ∃ b, r = .slice (some ⟨b, 0, none⟩) 1 1 ∧ ent = [(b, opO o)]
theorem bsO (o : OptV) {a : Act} {n t : Nat} {df : List Deferred} {fr : List (Nat × Value)} {w w1 : World} {d : Option Tmp} {ty : TypeId} {pos : String} {af : Array Edge} {g : Option (Nat × Bool)} (F : Frm a n df fr) (E : Ext [] w1 w) (ht : Ev fr (.tmp t) = some (.agg (opC o).toArray)) :
    OpTo Tryz.prog ⟨d, .buildSlice 30 1 [(0, .tmp t)].toArray, ty, pos, af, g⟩ a.eval w fun r w' => Ext [] w w' ∧ NewP w1.heap.size (PhO o) r w' := by
  have hev : evP fr [(0, .tmp t)] = some [(0, opC o)] := by simp only [evP, ht]
  refine o_buildSlice F (Mem.start [] w) hev rfl rfl (op_build1 (o := o) trivial) ?_
  intro b w' M
  exact newP_of E ⟨_, ⟨b, rfl, rfl⟩, M⟩
set_option maxHeartbeats 16000000 in
theorem select_c (now : Int) (l : List RouV) (hx : ∀ x ∈ l, IsRo x) (s : List SrcV) (hs' : ∀ x ∈ s, IsSr x) (links : List OptV) (old : List InsV) (hy : ∀ x ∈ old, IsIn x) (vl vs vk vo : Value) (W : World) (hSl : SlAt W 39 vl l.length (rosC l)) (hSs : SlAt W 38 vs s.length (srsC s)) (hSk : SlAt W 2 vk links.length (opsC links)) (hSo : SlAt W 40 vo old.length (insC old)) :
    Cal Tryz.prog 15 [.int .i64 now, vl, vs, vk, vo].toArray W fun r w' => ∃ u ent, r = .tuple [u, .int .i64 (selectV now l s links old).2].toArray ∧ OwnS 50 40 u (selectV now l s links old).1.length (insC (selectV now l s links old).1) ent ∧ Mem [] W w' ent := by
  have hk : ∀ x ∈ links, IsOp x := fun _ _ => trivial
  have hSl0 := hSl
  have hSk0 := hSk
  have hSo0 := hSo
  obtain ⟨q, cap, rfl, hcap, hsp, hl, hm⟩ := hSl
  obtain ⟨qk, capk, rfl, hcapk, hspk, hlk, hmk⟩ := hSk
  obtain ⟨qo, capo, rfl, hcapo, hspo, hlo, hmo⟩ := hSo
  refine fn_ofM (n := 190) [] Tryz.func15 rfl rfl rfl ?_
  intro a w F M hwW
  refine c_seq (c_region ?_)
  refine sD F (o_assign (F.ev rfl) ?_); clear F a; intro a F
  refine sD F (o_assign (F.ev rfl) ?_); clear F a; intro a F
  with_reducible refine l_nil (q_then (c_seq (c_seq (c_region ?_))))
  refine sD F (o_move (F.ev rfl) ?_); clear F a; intro a F
  (refine sD F (o_call (F.ev rfl) (F.evs rfl) (Cal.mono (rtvalid_c l hx _ _ (hSl0.later M.ext)) ?_)); clear F; clear a; rintro _ w ⟨rfl, hE⟩ a F; replace M := M.later hE; clear hE)
  cases c1 : validRs l
  · have hL : selectV now l s links old = ([], 1) := by unfold selectV; rw [c1]; rfl
    rw [hL]
    rw [c1] at F
    refine sD F (o_not (F.ev rfl) ?_); clear F a; intro a F
    refine sD F (o_move (F.ev rfl) ?_); clear F a; intro a F
    refine sO F ?_; clear F a; intro a F
    refine sO F ?_; clear F a; intro a F
    refine sO F ?_; clear F a; intro a F
    refine sD F (o_pickT (F.ev rfl) (F.ev rfl) ?_); clear F a; intro a F
    refine sD F (o_move (F.ev rfl) ?_); clear F a; intro a F
    refine sO F ?_; clear F a; intro a F
    refine sO F ?_; clear F a; intro a F
    refine sO F ?_; clear F a; intro a F
    refine sD F (o_pickT (F.ev rfl) (F.ev rfl) ?_); clear F a; intro a F
    refine sD F (o_move (F.ev rfl) ?_); clear F a; intro a F
    refine sO F ?_; clear F a; intro a F
    refine sO F ?_; clear F a; intro a F
    refine sO F ?_; clear F a; intro a F
    refine sD F (o_pickT (F.ev rfl) (F.ev rfl) ?_); clear F a; intro a F
    with_reducible refine l_nil (q_then ?_)
    refine c_true F rfl rfl ?_
    refine c_seq (c_region ?_)
    refine sD F (o_assign (F.ev rfl) ?_); clear F a; intro a F
    refine sD F (o_assign (F.ev rfl) ?_); clear F a; intro a F
    with_reducible refine l_nil (q_then (c_ret (q_thenR ?_)))
    refine p_ret F rfl (.cons (.tmp (F.ev rfl)) (.cons (.tmp (F.ev rfl)) .nil)) ?_
    exact ⟨.slice none 0 0, [], rfl, OwnS.nil _ _, M⟩
  rw [c1] at F
  refine sD F (o_not (F.ev rfl) ?_); clear F a; intro a F
  refine sD F (o_move (F.ev rfl) ?_); clear F a; intro a F
  refine sG F (o_move (F.ev rfl) ?_); clear F a; intro a F
  (refine sG F (o_call (F.ev rfl) (F.evs rfl) (Cal.mono (scvalid_c s hs' _ _ (hSs.later M.ext)) ?_)); clear F; clear a; rintro _ w ⟨rfl, hE⟩ a F; replace M := M.later hE; clear hE)
  cases c2 : validSs s
  · have hL : selectV now l s links old = ([], 1) := by unfold selectV; rw [c1, c2]; rfl
    rw [hL]
    rw [c2] at F
    refine sG F (o_not (F.ev rfl) ?_); clear F a; intro a F
    refine sD F (o_pickF (F.ev rfl) (F.ev rfl) ?_); clear F a; intro a F
    refine sD F (o_move (F.ev rfl) ?_); clear F a; intro a F
    refine sO F ?_; clear F a; intro a F
    refine sO F ?_; clear F a; intro a F
    refine sO F ?_; clear F a; intro a F
    refine sD F (o_pickT (F.ev rfl) (F.ev rfl) ?_); clear F a; intro a F
    refine sD F (o_move (F.ev rfl) ?_); clear F a; intro a F
    refine sO F ?_; clear F a; intro a F
    refine sO F ?_; clear F a; intro a F
    refine sO F ?_; clear F a; intro a F
    refine sD F (o_pickT (F.ev rfl) (F.ev rfl) ?_); clear F a; intro a F
    with_reducible refine l_nil (q_then ?_)
    refine c_true F rfl rfl ?_
    refine c_seq (c_region ?_)
    refine sD F (o_assign (F.ev rfl) ?_); clear F a; intro a F
    refine sD F (o_assign (F.ev rfl) ?_); clear F a; intro a F
    with_reducible refine l_nil (q_then (c_ret (q_thenR ?_)))
    refine p_ret F rfl (.cons (.tmp (F.ev rfl)) (.cons (.tmp (F.ev rfl)) .nil)) ?_
    exact ⟨.slice none 0 0, [], rfl, OwnS.nil _ _, M⟩
  rw [c2] at F
  refine sG F (o_not (F.ev rfl) ?_); clear F a; intro a F
  refine sD F (o_pickF (F.ev rfl) (F.ev rfl) ?_); clear F a; intro a F
  refine sD F (o_move (F.ev rfl) ?_); clear F a; intro a F
  refine sG F (o_move (F.ev rfl) ?_); clear F a; intro a F
  (refine sG F (o_call (F.ev rfl) (F.evs rfl) (Cal.mono (mtvalidO_c links hk _ _ (hSk0.later M.ext)) ?_)); clear F; clear a; rintro _ w ⟨rfl, hE⟩ a F; replace M := M.later hE; clear hE)
  cases c3 : validOs links
  · have hL : selectV now l s links old = ([], 1) := by unfold selectV; rw [c1, c2, c3]; rfl
    rw [hL]
    rw [c3] at F
    refine sG F (o_not (F.ev rfl) ?_); clear F a; intro a F
    refine sD F (o_pickF (F.ev rfl) (F.ev rfl) ?_); clear F a; intro a F
    refine sD F (o_move (F.ev rfl) ?_); clear F a; intro a F
    refine sO F ?_; clear F a; intro a F
    refine sO F ?_; clear F a; intro a F
    refine sO F ?_; clear F a; intro a F
    refine sD F (o_pickT (F.ev rfl) (F.ev rfl) ?_); clear F a; intro a F
    with_reducible refine l_nil (q_then ?_)
    refine c_true F rfl rfl ?_
    refine c_seq (c_region ?_)
    refine sD F (o_assign (F.ev rfl) ?_); clear F a; intro a F
    refine sD F (o_assign (F.ev rfl) ?_); clear F a; intro a F
    with_reducible refine l_nil (q_then (c_ret (q_thenR ?_)))
    refine p_ret F rfl (.cons (.tmp (F.ev rfl)) (.cons (.tmp (F.ev rfl)) .nil)) ?_
    exact ⟨.slice none 0 0, [], rfl, OwnS.nil _ _, M⟩
  rw [c3] at F
  refine sG F (o_not (F.ev rfl) ?_); clear F a; intro a F
  refine sD F (o_pickF (F.ev rfl) (F.ev rfl) ?_); clear F a; intro a F
  refine sD F (o_move (F.ev rfl) ?_); clear F a; intro a F
  refine sG F (o_move (F.ev rfl) ?_); clear F a; intro a F
  (refine sG F (o_call (F.ev rfl) (F.evs rfl) (Cal.mono (rtvalidI_c old hy _ _ (hSo0.later M.ext)) ?_)); clear F; clear a; rintro _ w ⟨rfl, hE⟩ a F; replace M := M.later hE; clear hE)
  cases c4 : validIs old
  · have hL : selectV now l s links old = ([], 1) := by unfold selectV; rw [c1, c2, c3, c4]; rfl
    rw [hL]
    rw [c4] at F
    refine sG F (o_not (F.ev rfl) ?_); clear F a; intro a F
    refine sD F (o_pickF (F.ev rfl) (F.ev rfl) ?_); clear F a; intro a F
    with_reducible refine l_nil (q_then ?_)
    refine c_true F rfl rfl ?_
    refine c_seq (c_region ?_)
    refine sD F (o_assign (F.ev rfl) ?_); clear F a; intro a F
    refine sD F (o_assign (F.ev rfl) ?_); clear F a; intro a F
    with_reducible refine l_nil (q_then (c_ret (q_thenR ?_)))
    refine p_ret F rfl (.cons (.tmp (F.ev rfl)) (.cons (.tmp (F.ev rfl)) .nil)) ?_
    exact ⟨.slice none 0 0, [], rfl, OwnS.nil _ _, M⟩
  rw [c4] at F
  refine sG F (o_not (F.ev rfl) ?_); clear F a; intro a F
  refine sD F (o_pickF (F.ev rfl) (F.ev rfl) ?_); clear F a; intro a F
  with_reducible refine l_nil (q_then ?_)
  refine c_false F rfl rfl ?_
  with_reducible refine c_skip (q_then (c_seq (c_seq (c_region ?_))))
  refine sD F (o_move (F.ev rfl) ?_); clear F a; intro a F
  (refine sD F (o_call (F.ev rfl) (F.evs rfl) (Cal.mono (rtTime_c now _) ?_)); clear F; clear a; rintro _ w ⟨rfl, hE⟩ a F; replace M := M.later hE; clear hE)
  cases c5 : isTime now
  · have hL : selectV now l s links old = ([], 2) := by unfold selectV; rw [c1, c2, c3, c4, c5]; rfl
    rw [hL]
    rw [c5] at F
    refine sD F (o_not (F.ev rfl) ?_); clear F a; intro a F
    with_reducible refine l_nil (q_then ?_)
    refine c_true F rfl rfl ?_
    refine c_seq (c_region ?_)
    refine sD F (o_assign (F.ev rfl) ?_); clear F a; intro a F
    refine sD F (o_assign (F.ev rfl) ?_); clear F a; intro a F
    with_reducible refine l_nil (q_then (c_ret (q_thenR ?_)))
    refine p_ret F rfl (.cons (.tmp (F.ev rfl)) (.cons (.tmp (F.ev rfl)) .nil)) ?_
    exact ⟨.slice none 0 0, [], rfl, OwnS.nil _ _, M⟩
  rw [c5] at F
  have hL : selectV now l s links old = if 512 < (selV now l s links old).length then ([], 10) else (selV now l s links old, 0) := by unfold selectV; rw [c1, c2, c3, c4, c5]; rfl
  obtain ⟨hl512, hrou, hasc⟩ := validRs_iff.1 c1
  obtain ⟨hk16, hopt, _⟩ := validOs_iff.1 c3
  obtain ⟨ho512, hins, hascN⟩ := validIs_iff.1 c4
  refine sD F (o_not (F.ev rfl) ?_); clear F a; intro a F
  with_reducible refine l_nil (q_then ?_)
  refine c_false F rfl rfl ?_
  with_reducible refine c_skip (q_then (c_seq (c_region ?_)))
  refine sD F (o_move (F.ev rfl) ?_); clear F a; intro a F
  refine sD F (o_lenSl (F.ev rfl) ?_); clear F a; intro a F
  (refine sD F (o_makeMap M (F.ev rfl) ?_); clear F M; intro b12 w M a F)
  refine sD F (o_assign (F.ev rfl) ?_); clear F a; intro a F
  with_reducible refine l_nil (q_then (c_seq (c_seq (c_region ?_))))
  refine sD F (o_move (F.ev rfl) ?_); clear F a; intro a F
  refine sD F (o_lenSl (F.ev rfl) ?_); clear F a; intro a F
  refine sD F (o_move (F.ev rfl) ?_); clear F a; intro a F
  with_reducible refine l_nil (q_then (c_block ?_))
  refine c_loop (fun m a w => ∃ (i : Nat) (ent : List (Nat × Obj)), m = links.length - i ∧ i ≤ links.length ∧ OwnM (Value.int .u64) (.map (some b12)) (mapI (costM (links.take i))) ent ∧ Frm a 190 [] [(54, .int .i64 i), (53, .int .i64 links.length), (52, .slice qk links.length capk), (12, .map (some b12)), (0, .int .i64 now), (1, .slice q l.length cap), (2, vs), (4, .slice qo old.length capo)] ∧ Mem [] W w ent) links.length ⟨0, _, rfl, by omega, ⟨b12, _, rfl, rfl, MapAt.empty _⟩, F.only [54, 53, 52, 12, 0, 1, 2, 4] rfl, M⟩ ?_
  clear F M
  rintro m a w ⟨i, ent, hm', hi, hO, F, M⟩
  by_cases hlt : i < links.length
  · obtain ⟨b, o, cs, t, fz, rfl, hb, hs⟩ := hmk (by omega)
    have hxv := hk _ (List.getElem_mem hlt)
    have f1 : seg cs (o + (i : Int).toNat * 2) 2 = some (opC links[i]) := seg_el (ops_len hk) hs hlt (by omega)
    have hmt := costM_step hlt
    obtain ⟨x, hx0⟩ : ∃ x, x = links[i] := ⟨_, rfl⟩
    rw [← hx0] at hxv f1 hmt
    have f2 : (opC x).length = 2 := op_len hxv
    have f3 := op_nb hxv
    have f4 := op_cost hxv
    refine c_seq (c_region ?_)
    refine sD F (o_lssT (F.ev rfl) (F.ev rfl) (by omega) ?_); clear F a; intro a F
    with_reducible refine l_nil (q_then (c_seq ?_))
    refine c_true F rfl rfl ?_
    with_reducible refine c_skip (q_then (c_seq (c_block (c_seq (c_region ?_)))))
    refine sD F (o_indexSl (F.ev rfl) (F.ev rfl) (by omega) (by omega) ?_); clear F a; intro a F
    refine sD F (o_loadWA M (F.ev rfl) (by assumption) (by first | assumption | rfl) ?_); clear F a; intro a F
    (refine sD F (o_alloc M ?_); clear F M; intro b14 w M a F)
    (refine stepN rfl F (o_storeA M (F.ev rfl) (F.ev rfl) (f2) (op_one x)  (by repeat constructor)  (put_all (by rw [f2]; rfl)) (by repeat constructor) ?_); clear F M; intro w M a F)
    with_reducible refine l_nil (q_then (c_region ?_))
    refine sD F (o_move (F.ev rfl) ?_); clear F a; intro a F
    refine sD F (o_fieldAddr (F.ev rfl) ?_); clear F a; intro a F
    refine sD F (o_load1 M (F.ev rfl) (by repeat constructor) (by first | assumption | rfl) ?_); clear F a; intro a F
    refine sD F (o_fieldAddr (F.ev rfl) ?_); clear F a; intro a F
    refine sD F (o_load1 M (F.ev rfl) (by repeat constructor) (by first | assumption | rfl) ?_); clear F a; intro a F
    refine sD F (o_max (F.ev rfl) (F.ev rfl) ?_); clear F a; intro a F
    (refine stepN rfl F (o_mapUpdate (u := .int .i64 (lkC x.cost)) keyE_law M hO (.cons .here) (fun _ _ => trivial) (a := x.nb) trivial (F.ev rfl) (F.ev rfl) (F.ev rfl) ?_); clear F M; intro ent2 w hO2 M a F)
    with_reducible refine l_nil (q_inB (q_then (c_region ?_)))
    refine sD F (o_add (F.ev rfl) (F.ev rfl) (w_i64 (by omega) (by omega)) ?_); clear F a; intro a F
    refine sD F (o_move (F.ev rfl) ?_); clear F a; intro a F
    with_reducible refine l_nil (q_then ?_)
    exact ⟨_, by omega, i + 1, ent2, rfl, by omega, by rw [hmt]; unfold mapI; rw [← putA_map]; exact hO2, F.only [54, 53, 52, 12, 0, 1, 2, 4] rfl, M.sub (List.sublist_cons_self _ _)⟩
  obtain rfl : i = links.length := by omega
  rw [List.take_length] at hO
  clear hmk hspk hcapk
  refine c_seq (c_region ?_)
  refine sD F (o_lssF (F.ev rfl) (F.ev rfl) (by omega) ?_); clear F a; intro a F
  with_reducible refine l_nil (q_then (c_seq ?_))
  refine c_false F rfl rfl ?_
  with_reducible refine c_exit (q_thenX (q_thenX (q_inBX (q_then (c_seq (c_region ?_))))))
  refine sD F (o_assign (F.ev rfl) ?_); clear F a; intro a F
  with_reducible refine l_nil (q_then (c_seq (c_region ?_)))
  refine sD F (o_assign (F.ev rfl) ?_); clear F a; intro a F
  refine sD F (o_assign (F.ev rfl) ?_); clear F a; intro a F
  with_reducible refine l_nil (q_then (c_seq (c_seq (c_region ?_))))
  refine sD F (o_move (F.ev rfl) ?_); clear F a; intro a F
  refine sD F (o_move (F.ev rfl) ?_); clear F a; intro a F
  (refine sD F (o_call (F.ev rfl) (F.evs rfl) (Cal.mono (dests_c l hx old hy (by omega) (by omega) _ _ _ (hSl0.later M.ext) (hSo0.later M.ext) ) ?_)); clear F; clear a; rintro _ w ⟨entD, hD, N⟩ a F; replace M := M.joins N; clear N)
  obtain ⟨qd, capd, rfl⟩ := hD.slice
  obtain ⟨cm, hcm⟩ : ∃ cm, cm = costM links := ⟨_, rfl⟩
  obtain ⟨ds, hds⟩ : ∃ ds, ds = destsV l old := ⟨_, rfl⟩
  have hall : ∀ x ∈ allD l old, IsDv x ∧ validT x = true := by
    intro x h
    unfold allD at h
    rcases List.mem_append.1 h with h | h
    · obtain ⟨r, h1, rfl⟩ := List.mem_map.1 h
      have := hrou r h1
      simp only [rou1, Bool.and_eq_true] at this
      exact ⟨(hx r h1).1, this.1.1.1⟩
    · obtain ⟨r, h1, rfl⟩ := List.mem_map.1 h
      have := hins r h1
      simp only [ins1, Bool.and_eq_true] at this
      exact ⟨(hy r h1).1, this.1⟩
  obtain ⟨hdA, hdm⟩ := foldr_insD fun x h => (hall x h).1
  have hdA' : AscD ds := by rw [hds]; exact hdA
  have hdm' : ∀ x, x ∈ ds ↔ x ∈ allD l old := by rw [hds]; exact hdm
  clear hdA hdm
  have hdi : ∀ x ∈ ds, IsDv x ∧ validT x = true := fun x h => hall x ((hdm' x).1 h)
  have hszd : ∀ x ∈ ds, (dvC x).length = 35 := fun x h => dv_len (hdi x h).1
  have hdl : ds.length ≤ 1024 := by
    have h1 := nodupD_le hdA' (fun x h => (hdm' x).1 h)
    simp only [allD, List.length_append, List.length_map] at h1
    omega
  have hsel : selV now l s links old = ds.filterMap (selE now l s cm old) := by rw [hds, hcm]; rfl
  rw [← hds] at hD F
  rw [← hcm] at hO
  rw [hsel] at hL
  have hoE : ∀ (t : DstV), IsDv t → ∀ e, selE now l s cm old t = some e → IsIn e := fun t ht e h => selE_is ht hy h
  have hwR := weak_R hx hasc
  have hwN := weak_N hascN
  have hov : ∀ t, validOs (optsV now s cm t l) = true := fun t => by rw [hcm]; exact opts_valid hx c1 hk16
  refine sD F (o_lenSl (F.ev rfl) ?_); clear F a; intro a F
  refine sD F (o_move (F.ev rfl) ?_); clear F a; intro a F
  with_reducible refine l_nil (q_then (c_block ?_))
  refine c_loop (fun m a w => ∃ (k r i : Nat) (z : Value) (entR : List (Nat × Obj)), m = ds.length - k ∧ k ≤ ds.length ∧ Yet RouV.to l (ds.drop k) r ∧ Yet InsV.to old (ds.drop k) i ∧ OwnS 50 40 z ((ds.take k).filterMap (selE now l s cm old)).length (insC ((ds.take k).filterMap (selE now l s cm old))) entR ∧ Frm a 190 [] [(69, .int .i64 k), (68, .int .i64 ds.length), (67, .slice qd ds.length capd), (12, .map (some b12)), (15, z), (16, .int .i64 r), (17, .int .i64 i), (0, .int .i64 now), (1, .slice q l.length cap), (2, vs), (4, .slice qo old.length capo)] ∧ Mem [] W w (entR ++ (entD ++ ent))) ds.length ⟨0, 0, 0, .slice none 0 0, [], rfl, by omega, ⟨by omega, fun j hj h => absurd h (by omega), fun j hj _ => (hdm' _).2 (List.mem_append_left _ (List.mem_map_of_mem (List.getElem_mem hj)))⟩, ⟨by omega, fun j hj h => absurd h (by omega), fun j hj _ => (hdm' _).2 (List.mem_append_right _ (List.mem_map_of_mem (List.getElem_mem hj)))⟩, OwnS.nil _ _, F.only [69, 68, 67, 12, 15, 16, 17, 0, 1, 2, 4] rfl, M⟩ ?_
  clear F M
  rintro m a w ⟨k, r, i, z, entR, hm', hkl, hYr, hYi, hR, F, M⟩
  by_cases hlt : k < ds.length
  · rcases hD with ⟨_, h0, _, _⟩ | ⟨bD, cD, junk, hvD, hentD, hxl, hjl, hnc⟩
    · omega
    cases hvD
    subst hentD
    have f1 : seg (dvsC ds ++ junk) (0 + (k : Int).toNat * 35) 35 = some (dvC ds[k]) := own_el hszd junk hlt (by omega)
    have hdk : ds.drop k = ds[k] :: ds.drop (k + 1) := List.drop_eq_getElem_cons hlt
    have htk : (ds.take (k + 1)).filterMap (selE now l s cm old) = (ds.take k).filterMap (selE now l s cm old) ++ (selE now l s cm old ds[k]).toList := by
      rw [List.take_add_one, List.getElem?_eq_getElem hlt, List.filterMap_append]
      cases ho : selE now l s cm old ds[k] <;> simp [List.filterMap_cons, ho]
    obtain ⟨ht, hvt⟩ := hdi _ (List.getElem_mem hlt)
    obtain ⟨t, ht0⟩ : ∃ t, t = ds[k] := ⟨_, rfl⟩
    rw [← ht0] at f1 hdk htk ht hvt
    have hdk2 : AscD (t :: ds.drop (k + 1)) := by rw [← hdk]; exact hdA'.sublist (List.drop_sublist _ _)
    have hdk3 : ∀ x ∈ t :: ds.drop (k + 1), IsDv x := fun x h => (hdi x (List.mem_of_mem_drop (by rw [hdk]; exact h))).1
    rw [hdk] at hYr hYi
    have t1 := dv_len ht
    have t2 := dv_all ht
    have t3 := dv_fits ht
    replace M := M.perm (l' := (bD, .cells (dvsC ds ++ junk).toArray 45 (0, 0)) :: (entR ++ ent)) (by classical exact List.perm_iff_count.2 fun _ => by simp only [List.count_append, List.count_cons, List.count_nil, Nat.add_zero, Nat.zero_add] <;> ac_rfl)
    refine c_seq (c_region ?_)
    refine sD F (o_lssT (F.ev rfl) (F.ev rfl) (by omega) ?_); clear F a; intro a F
    with_reducible refine l_nil (q_then (c_seq ?_))
    refine c_true F rfl rfl ?_
    with_reducible refine c_skip (q_then (c_seq (c_block (c_seq (c_region ?_)))))
    refine sD F (o_indexSl (F.ev rfl) (F.ev rfl) (by omega) (by omega) ?_); clear F a; intro a F
    refine sD F (o_loadA M (F.ev rfl) (by repeat constructor) (by first | assumption | rfl) ?_); clear F a; intro a F
    (refine sD F (o_alloc M ?_); clear F M; intro b19 w M a F)
    (refine stepN rfl F (o_storeA M (F.ev rfl) (F.ev rfl) (t1) (dv_one t)  (by repeat constructor)  (put_all (by rw [t1]; rfl)) (by repeat constructor) ?_); clear F M; intro w M a F)
    with_reducible refine l_nil (q_then (c_seq (c_region ?_)))
    refine sD F (o_assign (F.ev rfl) ?_); clear F a; intro a F
    with_reducible refine l_nil (q_then (c_seq (c_region ?_)))
    (refine sD F (o_makeMap0 M ?_); clear F M; intro bS w M a F)
    refine sD F (o_assign (F.ev rfl) ?_); clear F a; intro a F
    refine l_nil ?_
    refine q_then ?_
    repeat (refine c_seq ?_)
    refine c_cut (fun a w => ∃ (r1 : Nat) (zO : Value) (entO entS : List (Nat × Obj)), Yet RouV.to l (ds.drop (k + 1)) r1 ∧ OwnS 55 2 zO (optsV now s cm t l).length (opsC (optsV now s cm t l)) entO ∧ OwnM (Value.int .u64) (.map (some bS)) (mapQ (saidV now s cm t l)) entS ∧ Frm a 190 [] [(16, .int .i64 r1), (20, zO), (21, .map (some bS)), (19, .pointer (some ⟨b19, 0, none⟩)), (69, .int .i64 k), (68, .int .i64 ds.length), (67, .slice (some ⟨bD, 0, none⟩) ds.length capd), (12, .map (some b12)), (15, z), (17, .int .i64 i), (0, .int .i64 now), (1, .slice q l.length cap), (2, vs), (4, .slice qo old.length capo)] ∧ Mem [] W w (entS ++ (entO ++ ((b19, .cells (dvC t).toArray 45 (0, 0)) :: (bD, .cells (dvsC ds ++ junk).toArray 45 (0, 0)) :: (entR ++ ent))))) ?_ ?_
    · refine c_block ?_
      refine c_loop (fun m a w => ∃ (r' : Nat) (zO : Value) (entO entS : List (Nat × Obj)), m = l.length - r' ∧ r ≤ r' ∧ r' ≤ l.length ∧ (∀ j (hj : j < l.length), r ≤ j → j < r' → l[j].to = t) ∧ OwnS 55 2 zO (optsV now s cm t (l.take r')).length (opsC (optsV now s cm t (l.take r'))) entO ∧ OwnM (Value.int .u64) (.map (some bS)) (mapQ (saidV now s cm t (l.take r'))) entS ∧ Frm a 190 [] [(16, .int .i64 r'), (20, zO), (21, .map (some bS)), (19, .pointer (some ⟨b19, 0, none⟩)), (69, .int .i64 k), (68, .int .i64 ds.length), (67, .slice (some ⟨bD, 0, none⟩) ds.length capd), (12, .map (some b12)), (15, z), (17, .int .i64 i), (0, .int .i64 now), (1, .slice q l.length cap), (2, vs), (4, .slice qo old.length capo)] ∧ Mem [] W w (entS ++ (entO ++ ((b19, .cells (dvC t).toArray 45 (0, 0)) :: (bD, .cells (dvsC ds ++ junk).toArray 45 (0, 0)) :: (entR ++ ent))))) (l.length - r) ⟨r, .slice none 0 0, [], [(bS, _)], rfl, by omega, hYr.le, fun j hj h1 h2 => absurd h2 (by omega), by rw [optsV_nil (hYr.before)]; exact OwnS.nil _ _, by rw [saidV_nil (hYr.before)]; exact ⟨bS, _, rfl, rfl, MapAt.empty _⟩, F.only [16, 20, 21, 19, 69, 68, 67, 12, 15, 17, 0, 1, 2, 4] rfl, M⟩ ?_
      clear F M
      rintro m a w ⟨r', zO, entO, entS, hm2, hr1, hr2, hre, hOO, hOS, F, M⟩
      have hend : (∀ hj : r' < l.length, l[r'].to ≠ t) → Yet RouV.to l (ds.drop (k + 1)) r' ∧ optsV now s cm t l = optsV now s cm t (l.take r') ∧ saidV now s cm t l = saidV now s cm t (l.take r') := fun h => by
        obtain ⟨h1, h2⟩ := Yet.next hwR hdk2 hdk3 hYr hr1 hr2 hre h
        exact ⟨h1, optsV_all h2, saidV_all h2⟩
      by_cases hlt2 : r' < l.length
      · obtain ⟨b, o, cs, t', fz, rfl, hb, hs⟩ := hm (by omega)
        have g1 : seg cs (o + (r' : Int).toNat * 39) 39 = some (roC l[r']) := seg_el (ros_len hx) hs hlt2 (by omega)
        have hxv := hx _ (List.getElem_mem hlt2)
        have hos := fun h => optsV_step (now := now) (s := s) (cm := cm) (t := t) hlt2 h
        have hss := fun h => saidV_step (now := now) (s := s) (cm := cm) (t := t) hlt2 h
        obtain ⟨x, hx0⟩ : ∃ x, x = l[r'] := ⟨_, rfl⟩
        rw [← hx0] at g1 hxv hos hss
        have g2 : seg cs (o + (r' : Int).toNat * 39) 35 = some (dvC x.to) := sg_seg g1 (ro_to hxv) (by omega)
        have g3 : nth cs (o + (r' : Int).toNat * 39 + 35) = some (.int .u64 x.nb) := sg_nth g1 (ro_nb hxv) (by omega)
        have g4 : seg cs (o + (r' : Int).toNat * 39 + 36) 2 = some (diC x.said) := sg_seg g1 (ro_said hxv) (by omega)
        have g5 : nth cs (o + (r' : Int).toNat * 39 + 37) = some (.int .i64 x.said.met) := sg_nth g1 (ro_said_met hxv) (by omega)
        have g6 : nth cs (o + (r' : Int).toNat * 39 + 38) = some (.int .i64 x.til) := sg_nth g1 (ro_til hxv) (by omega)
        have g7 := dv_fits hxv.1
        have g8 := dv_eq hxv.1 ht
        replace M := M.perm (l' := (b19, .cells (dvC t).toArray 45 (0, 0)) :: (entS ++ (entO ++ ((bD, .cells (dvsC ds ++ junk).toArray 45 (0, 0)) :: (entR ++ ent))))) (by classical exact List.perm_iff_count.2 fun _ => by simp only [List.count_append, List.count_cons, List.count_nil, Nat.add_zero, Nat.zero_add] <;> ac_rfl)
        with_reducible refine c_seq (c_seq ?_)
        by_cases he : x.to = t
        · rw [decide_eq_true he] at g8
          refine c_draw 13 F (by kernel_rfl) ?_
          intro w1 hE hok
          have M1 := M.later hE
          refine mK hok rfl rfl (fun a' w' F' E' => o_move (F'.ev rfl) ⟨Ext.refl _ _, rfl⟩) ?_
          refine mK hok rfl rfl (fun a' w' F' E' => o_move (F'.ev rfl) ⟨Ext.refl _ _, rfl⟩) ?_
          refine mK hok rfl rfl (fun a' w' F' E' => o_lenSl (F'.ev rfl) ⟨Ext.refl _ _, rfl⟩) ?_
          refine mK hok rfl rfl (fun a' w' F' E' => o_lssT (F'.ev rfl) (F'.ev rfl) (by omega) ⟨Ext.refl _ _, rfl⟩) ?_
          refine mK hok rfl rfl (fun a' w' F' E' => o_move (F'.ev rfl) ⟨Ext.refl _ _, rfl⟩) ?_
          refine mKG hok rfl rfl rfl rfl (fun a' w' F' E' => o_move (F'.ev rfl) ⟨Ext.refl _ _, rfl⟩) ?_
          refine mKG hok rfl rfl rfl rfl (fun a' w' F' E' => o_move (F'.ev rfl) ⟨Ext.refl _ _, rfl⟩) ?_
          refine mKG hok rfl rfl rfl rfl (fun a' w' F' E' => o_indexSl (F'.ev rfl) (F'.ev rfl) (by omega) (by omega) ⟨Ext.refl _ _, rfl⟩) ?_
          refine mKG hok rfl rfl rfl rfl (fun a' w' F' E' => o_fieldAddr (F'.ev rfl) ⟨Ext.refl _ _, rfl⟩) ?_
          refine mKG hok rfl rfl rfl rfl (fun a' w' F' E' => o_loadWA (M1.later E') (F'.ev rfl) (by assumption) (by first | assumption | rfl) ⟨Ext.refl _ _, rfl⟩) ?_
          refine mKG hok rfl rfl rfl rfl (fun a' w' F' E' => o_loadA (M1.later E') (F'.ev rfl) (by repeat constructor) (by first | assumption | rfl) ⟨Ext.refl _ _, rfl⟩) ?_
          refine mKG hok rfl rfl rfl rfl (fun a' w' F' E' => o_eqlAT (F'.ev rfl) (F'.ev rfl) (by first | assumption | rfl) (by first | assumption | rfl) (by assumption) ⟨Ext.refl _ _, rfl⟩) ?_
          refine mK hok rfl rfl (fun a' w' F' E' => o_pickT (F'.ev rfl) (F'.ev rfl) ⟨Ext.refl _ _, rfl⟩) ?_
          (refine mDone rfl rfl ?_; clear F M; intro a w F hE2 hX hTT hDD hPP; have M := M1.later hE2; clear M1; clear hX; clear hE2; clear hok; clear hE; clear hTT; clear hDD; clear hPP; (try dsimp only at F))
          refine l_nil ?_
          dsimp only
          refine q_then ?_
          repeat (refine c_seq ?_)
          refine c_true F rfl rfl ?_
          refine c_skip ?_
          refine q_then ?_
          repeat (refine c_seq ?_)
          replace F := F.only [16, 20, 21, 19, 69, 68, 67, 12, 15, 17, 0, 1, 2, 4] rfl
          refine c_cut (fun a w => ∃ (zO2 : Value) (entO2 entS2 : List (Nat × Obj)), OwnS 55 2 zO2 (optsV now s cm t (l.take (r' + 1))).length (opsC (optsV now s cm t (l.take (r' + 1)))) entO2 ∧ OwnM (Value.int .u64) (.map (some bS)) (mapQ (saidV now s cm t (l.take (r' + 1)))) entS2 ∧ Frm a 190 [] [(16, .int .i64 r'), (20, zO2), (21, .map (some bS)), (19, .pointer (some ⟨b19, 0, none⟩)), (69, .int .i64 k), (68, .int .i64 ds.length), (67, .slice (some ⟨bD, 0, none⟩) ds.length capd), (12, .map (some b12)), (15, z), (17, .int .i64 i), (0, .int .i64 now), (1, .slice (some ⟨b, o, none⟩) l.length cap), (2, vs), (4, .slice qo old.length capo)] ∧ Mem [] W w (entS2 ++ (entO2 ++ ((b19, .cells (dvC t).toArray 45 (0, 0)) :: (bD, .cells (dvsC ds ++ junk).toArray 45 (0, 0)) :: (entR ++ ent))))) ?_ ?_
          · rw [hos he, hss he]
            clear hos hss hend hL
            with_reducible refine c_block (c_seq (c_region ?_))
            refine sD F (o_move (F.ev rfl) ?_); clear F a; intro a F
            refine sD F (o_move (F.ev rfl) ?_); clear F a; intro a F
            refine sD F (o_move (F.ev rfl) ?_); clear F a; intro a F
            refine sD F (o_indexSl (F.ev rfl) (F.ev rfl) (by omega) (by omega) ?_); clear F a; intro a F
            refine sD F (o_fieldAddr (F.ev rfl) ?_); clear F a; intro a F
            refine sD F (o_loadW1 M (F.ev rfl) (by assumption) (by first | assumption | rfl) ?_); clear F a; intro a F
            (refine sD F (o_lookup2 keyE_law zero_iR (hO.at_ (fun p hp => M.at_ p (by simp [hp]))) (fun _ _ => trivial) (a := x.nb) trivial (F.ev rfl) (F.ev rfl) ?_); clear F a; intro a F)
            rw [getA_mapI] at F
            cases hc : getA x.nb cm with
            | none =>
              rw [hc] at F
              have hv0 : optV now s cm t x = none := by unfold optV; rw [hc]
              rw [hv0]
              refine sD F (o_move (F.ev rfl) ?_); clear F a; intro a F
              refine sD F (o_extract (F.ev rfl) rfl ?_); clear F a; intro a F
              refine sD F (o_extract (F.ev rfl) rfl ?_); clear F a; intro a F
              refine sD F (o_assign (F.ev rfl) ?_); clear F a; intro a F
              refine sD F (o_assign (F.ev rfl) ?_); clear F a; intro a F
              with_reducible refine l_nil (q_then (c_seq (c_seq ?_)))
              replace F := F.only [16, 20, 21, 19, 69, 68, 67, 12, 15, 17, 0, 1, 2, 4, 22, 23] rfl
              refine c_draw 23 F (by kernel_rfl) ?_
              intro w1 hE hok
              have M1 := M.later hE
              refine mK hok rfl rfl (fun a' w' F' E' => o_move (F'.ev rfl) ⟨Ext.refl _ _, rfl⟩) ?_
              refine mK hok rfl rfl (fun a' w' F' E' => o_not (F'.ev rfl) ⟨Ext.refl _ _, rfl⟩) ?_
              refine mK hok rfl rfl (fun a' w' F' E' => o_move (F'.ev rfl) ⟨Ext.refl _ _, rfl⟩) ?_
              refine mOff hok rfl rfl rfl rfl rfl ?_
              refine mOff hok rfl rfl rfl rfl rfl ?_
              refine mOff hok rfl rfl rfl rfl rfl ?_
              refine mOff hok rfl rfl rfl rfl rfl ?_
              refine mOff hok rfl rfl rfl rfl rfl ?_
              refine mOff hok rfl rfl rfl rfl rfl ?_
              refine mOff hok rfl rfl rfl rfl rfl ?_
              refine mK hok rfl rfl (fun a' w' F' E' => o_pickT (F'.ev rfl) (F'.ev rfl) ⟨Ext.refl _ _, rfl⟩) ?_
              refine mK hok rfl rfl (fun a' w' F' E' => o_move (F'.ev rfl) ⟨Ext.refl _ _, rfl⟩) ?_
              refine mOff hok rfl rfl rfl rfl rfl ?_
              refine mOff hok rfl rfl rfl rfl rfl ?_
              refine mOff hok rfl rfl rfl rfl rfl ?_
              refine mOff hok rfl rfl rfl rfl rfl ?_
              refine mOff hok rfl rfl rfl rfl rfl ?_
              refine mOff hok rfl rfl rfl rfl rfl ?_
              refine mOff hok rfl rfl rfl rfl rfl ?_
              refine mOff hok rfl rfl rfl rfl rfl ?_
              refine mOff hok rfl rfl rfl rfl rfl ?_
              refine mOff hok rfl rfl rfl rfl rfl ?_
              refine mK hok rfl rfl (fun a' w' F' E' => o_pickT (F'.ev rfl) (F'.ev rfl) ⟨Ext.refl _ _, rfl⟩) ?_
              (refine mDone rfl rfl ?_; clear F M; intro a w F hE2 hX hTT hDD hPP; have M := M1.later hE2; clear M1; clear hX; clear hE2; clear hok; clear hE; clear hTT; clear hDD; clear hPP; (try dsimp only at F))
              with_reducible refine l_nil (q_then ?_)
              refine c_true F rfl rfl ?_
              with_reducible refine c_exit (q_thenX (q_inBX ?_))
              exact ⟨zO, entO, entS, by simpa using hOO, by simpa using hOS, F.only [16, 20, 21, 19, 69, 68, 67, 12, 15, 17, 0, 1, 2, 4] rfl, M.perm (by classical exact List.perm_iff_count.2 fun _ => by simp only [List.count_append, List.count_cons, List.count_nil, Nat.add_zero, Nat.zero_add] <;> ac_rfl)⟩
            | some c =>
              rw [hc] at F
              refine sD F (o_move (F.ev rfl) ?_); clear F a; intro a F
              refine sD F (o_extract (F.ev rfl) rfl ?_); clear F a; intro a F
              refine sD F (o_extract (F.ev rfl) rfl ?_); clear F a; intro a F
              refine sD F (o_assign (F.ev rfl) ?_); clear F a; intro a F
              refine sD F (o_assign (F.ev rfl) ?_); clear F a; intro a F
              with_reducible refine l_nil (q_then (c_seq (c_seq ?_)))
              replace F := F.only [16, 20, 21, 19, 69, 68, 67, 12, 15, 17, 0, 1, 2, 4, 22, 23] rfl
              by_cases c6 : x.til ≤ now
              · have hv0 : optV now s cm t x = none := by unfold optV; rw [hc]; dsimp only; rw [decide_eq_true c6]; rfl
                rw [hv0]
                refine c_draw 23 F (by kernel_rfl) ?_
                intro w1 hE hok
                have M1 := M.later hE
                refine mK hok rfl rfl (fun a' w' F' E' => o_move (F'.ev rfl) ⟨Ext.refl _ _, rfl⟩) ?_
                refine mK hok rfl rfl (fun a' w' F' E' => o_not (F'.ev rfl) ⟨Ext.refl _ _, rfl⟩) ?_
                refine mK hok rfl rfl (fun a' w' F' E' => o_move (F'.ev rfl) ⟨Ext.refl _ _, rfl⟩) ?_
                refine mKG hok rfl rfl rfl rfl (fun a' w' F' E' => o_move (F'.ev rfl) ⟨Ext.refl _ _, rfl⟩) ?_
                refine mKG hok rfl rfl rfl rfl (fun a' w' F' E' => o_move (F'.ev rfl) ⟨Ext.refl _ _, rfl⟩) ?_
                refine mKG hok rfl rfl rfl rfl (fun a' w' F' E' => o_indexSl (F'.ev rfl) (F'.ev rfl) (by omega) (by omega) ⟨Ext.refl _ _, rfl⟩) ?_
                refine mKG hok rfl rfl rfl rfl (fun a' w' F' E' => o_fieldAddr (F'.ev rfl) ⟨Ext.refl _ _, rfl⟩) ?_
                refine mKG hok rfl rfl rfl rfl (fun a' w' F' E' => o_loadW1 (M1.later E') (F'.ev rfl) (by assumption) (by first | assumption | rfl) ⟨Ext.refl _ _, rfl⟩) ?_
                refine mKG hok rfl rfl rfl rfl (fun a' w' F' E' => o_move (F'.ev rfl) ⟨Ext.refl _ _, rfl⟩) ?_
                refine mKG hok rfl rfl rfl rfl (fun a' w' F' E' => o_leqT (F'.ev rfl) (F'.ev rfl) (by omega) ⟨Ext.refl _ _, rfl⟩) ?_
                refine mK hok rfl rfl (fun a' w' F' E' => o_pickF (F'.ev rfl) (F'.ev rfl) ⟨Ext.refl _ _, rfl⟩) ?_
                refine mK hok rfl rfl (fun a' w' F' E' => o_move (F'.ev rfl) ⟨Ext.refl _ _, rfl⟩) ?_
                refine mOff hok rfl rfl rfl rfl rfl ?_
                refine mOff hok rfl rfl rfl rfl rfl ?_
                refine mOff hok rfl rfl rfl rfl rfl ?_
                refine mOff hok rfl rfl rfl rfl rfl ?_
                refine mOff hok rfl rfl rfl rfl rfl ?_
                refine mOff hok rfl rfl rfl rfl rfl ?_
                refine mOff hok rfl rfl rfl rfl rfl ?_
                refine mOff hok rfl rfl rfl rfl rfl ?_
                refine mOff hok rfl rfl rfl rfl rfl ?_
                refine mOff hok rfl rfl rfl rfl rfl ?_
                refine mK hok rfl rfl (fun a' w' F' E' => o_pickT (F'.ev rfl) (F'.ev rfl) ⟨Ext.refl _ _, rfl⟩) ?_
                (refine mDone rfl rfl ?_; clear F M; intro a w F hE2 hX hTT hDD hPP; have M := M1.later hE2; clear M1; clear hX; clear hE2; clear hok; clear hE; clear hTT; clear hDD; clear hPP; (try dsimp only at F))
                with_reducible refine l_nil (q_then ?_)
                refine c_true F rfl rfl ?_
                with_reducible refine c_exit (q_thenX (q_inBX ?_))
                exact ⟨zO, entO, entS, by simpa using hOO, by simpa using hOS, F.only [16, 20, 21, 19, 69, 68, 67, 12, 15, 17, 0, 1, 2, 4] rfl, M.perm (by classical exact List.perm_iff_count.2 fun _ => by simp only [List.count_append, List.count_cons, List.count_nil, Nat.add_zero, Nat.zero_add] <;> ac_rfl)⟩
              have hfe := scfeas_c s hs' c2 vs now c5 t ht hvt x.said
              cases c7 : feasV s now t x.said
              · have hv0 : optV now s cm t x = none := by unfold optV; rw [hc]; dsimp only; rw [decide_eq_false c6, c7]; rfl
                rw [hv0]
                rw [c7] at hfe
                refine c_draw 23 F (by kernel_rfl) ?_
                intro w1 hE hok
                have M1 := M.later hE
                refine mK hok rfl rfl (fun a' w' F' E' => o_move (F'.ev rfl) ⟨Ext.refl _ _, rfl⟩) ?_
                refine mK hok rfl rfl (fun a' w' F' E' => o_not (F'.ev rfl) ⟨Ext.refl _ _, rfl⟩) ?_
                refine mK hok rfl rfl (fun a' w' F' E' => o_move (F'.ev rfl) ⟨Ext.refl _ _, rfl⟩) ?_
                refine mKG hok rfl rfl rfl rfl (fun a' w' F' E' => o_move (F'.ev rfl) ⟨Ext.refl _ _, rfl⟩) ?_
                refine mKG hok rfl rfl rfl rfl (fun a' w' F' E' => o_move (F'.ev rfl) ⟨Ext.refl _ _, rfl⟩) ?_
                refine mKG hok rfl rfl rfl rfl (fun a' w' F' E' => o_indexSl (F'.ev rfl) (F'.ev rfl) (by omega) (by omega) ⟨Ext.refl _ _, rfl⟩) ?_
                refine mKG hok rfl rfl rfl rfl (fun a' w' F' E' => o_fieldAddr (F'.ev rfl) ⟨Ext.refl _ _, rfl⟩) ?_
                refine mKG hok rfl rfl rfl rfl (fun a' w' F' E' => o_loadW1 (M1.later E') (F'.ev rfl) (by assumption) (by first | assumption | rfl) ⟨Ext.refl _ _, rfl⟩) ?_
                refine mKG hok rfl rfl rfl rfl (fun a' w' F' E' => o_move (F'.ev rfl) ⟨Ext.refl _ _, rfl⟩) ?_
                refine mKG hok rfl rfl rfl rfl (fun a' w' F' E' => o_leqF (F'.ev rfl) (F'.ev rfl) (by omega) ⟨Ext.refl _ _, rfl⟩) ?_
                refine mK hok rfl rfl (fun a' w' F' E' => o_pickF (F'.ev rfl) (F'.ev rfl) ⟨Ext.refl _ _, rfl⟩) ?_
                refine mK hok rfl rfl (fun a' w' F' E' => o_move (F'.ev rfl) ⟨Ext.refl _ _, rfl⟩) ?_
                refine mKG hok rfl rfl rfl rfl (fun a' w' F' E' => o_move (F'.ev rfl) ⟨Ext.refl _ _, rfl⟩) ?_
                refine mKG hok rfl rfl rfl rfl (fun a' w' F' E' => o_move (F'.ev rfl) ⟨Ext.refl _ _, rfl⟩) ?_
                refine mKG hok rfl rfl rfl rfl (fun a' w' F' E' => o_loadA (M1.later E') (F'.ev rfl) (by repeat constructor) (by first | assumption | rfl) ⟨Ext.refl _ _, rfl⟩) ?_
                refine mKG hok rfl rfl rfl rfl (fun a' w' F' E' => o_move (F'.ev rfl) ⟨Ext.refl _ _, rfl⟩) ?_
                refine mKG hok rfl rfl rfl rfl (fun a' w' F' E' => o_move (F'.ev rfl) ⟨Ext.refl _ _, rfl⟩) ?_
                refine mKG hok rfl rfl rfl rfl (fun a' w' F' E' => o_indexSl (F'.ev rfl) (F'.ev rfl) (by omega) (by omega) ⟨Ext.refl _ _, rfl⟩) ?_
                refine mKG hok rfl rfl rfl rfl (fun a' w' F' E' => o_fieldAddr (F'.ev rfl) ⟨Ext.refl _ _, rfl⟩) ?_
                refine mKG hok rfl rfl rfl rfl (fun a' w' F' E' => o_loadWA (M1.later E') (F'.ev rfl) (by assumption) (by first | assumption | rfl) ⟨Ext.refl _ _, rfl⟩) ?_
                (refine mKG hok rfl rfl rfl rfl (fun a' w' F' E' => o_call (F'.ev rfl) (F'.evs rfl) (Cal.mono (hfe _ (hSs.later (M1.later E').ext)) fun _ _ hh => ⟨hh.2, hh.1⟩)) ?_)
                refine mKG hok rfl rfl rfl rfl (fun a' w' F' E' => o_not (F'.ev rfl) ⟨Ext.refl _ _, rfl⟩) ?_
                refine mK hok rfl rfl (fun a' w' F' E' => o_pickF (F'.ev rfl) (F'.ev rfl) ⟨Ext.refl _ _, rfl⟩) ?_
                (refine mDone rfl rfl ?_; clear F M; intro a w F hE2 hX hTT hDD hPP; have M := M1.later hE2; clear M1; clear hX; clear hE2; clear hok; clear hE; clear hTT; clear hDD; clear hPP; (try dsimp only at F))
                with_reducible refine l_nil (q_then ?_)
                refine c_true F rfl rfl ?_
                with_reducible refine c_exit (q_thenX (q_inBX ?_))
                exact ⟨zO, entO, entS, by simpa using hOO, by simpa using hOS, F.only [16, 20, 21, 19, 69, 68, 67, 12, 15, 17, 0, 1, 2, 4] rfl, M.perm (by classical exact List.perm_iff_count.2 fun _ => by simp only [List.count_append, List.count_cons, List.count_nil, Nat.add_zero, Nat.zero_add] <;> ac_rfl)⟩
              have hv0 : optV now s cm t x = some ⟨x.nb, addM x.said.met c⟩ := by unfold optV; rw [hc]; dsimp only; rw [decide_eq_false c6, c7]; rfl
              rw [hv0]
              rw [c7] at hfe
              refine c_draw 23 F (by kernel_rfl) ?_
              intro w1 hE hok
              have M1 := M.later hE
              refine mK hok rfl rfl (fun a' w' F' E' => o_move (F'.ev rfl) ⟨Ext.refl _ _, rfl⟩) ?_
              refine mK hok rfl rfl (fun a' w' F' E' => o_not (F'.ev rfl) ⟨Ext.refl _ _, rfl⟩) ?_
              refine mK hok rfl rfl (fun a' w' F' E' => o_move (F'.ev rfl) ⟨Ext.refl _ _, rfl⟩) ?_
              refine mKG hok rfl rfl rfl rfl (fun a' w' F' E' => o_move (F'.ev rfl) ⟨Ext.refl _ _, rfl⟩) ?_
              refine mKG hok rfl rfl rfl rfl (fun a' w' F' E' => o_move (F'.ev rfl) ⟨Ext.refl _ _, rfl⟩) ?_
              refine mKG hok rfl rfl rfl rfl (fun a' w' F' E' => o_indexSl (F'.ev rfl) (F'.ev rfl) (by omega) (by omega) ⟨Ext.refl _ _, rfl⟩) ?_
              refine mKG hok rfl rfl rfl rfl (fun a' w' F' E' => o_fieldAddr (F'.ev rfl) ⟨Ext.refl _ _, rfl⟩) ?_
              refine mKG hok rfl rfl rfl rfl (fun a' w' F' E' => o_loadW1 (M1.later E') (F'.ev rfl) (by assumption) (by first | assumption | rfl) ⟨Ext.refl _ _, rfl⟩) ?_
              refine mKG hok rfl rfl rfl rfl (fun a' w' F' E' => o_move (F'.ev rfl) ⟨Ext.refl _ _, rfl⟩) ?_
              refine mKG hok rfl rfl rfl rfl (fun a' w' F' E' => o_leqF (F'.ev rfl) (F'.ev rfl) (by omega) ⟨Ext.refl _ _, rfl⟩) ?_
              refine mK hok rfl rfl (fun a' w' F' E' => o_pickF (F'.ev rfl) (F'.ev rfl) ⟨Ext.refl _ _, rfl⟩) ?_
              refine mK hok rfl rfl (fun a' w' F' E' => o_move (F'.ev rfl) ⟨Ext.refl _ _, rfl⟩) ?_
              refine mKG hok rfl rfl rfl rfl (fun a' w' F' E' => o_move (F'.ev rfl) ⟨Ext.refl _ _, rfl⟩) ?_
              refine mKG hok rfl rfl rfl rfl (fun a' w' F' E' => o_move (F'.ev rfl) ⟨Ext.refl _ _, rfl⟩) ?_
              refine mKG hok rfl rfl rfl rfl (fun a' w' F' E' => o_loadA (M1.later E') (F'.ev rfl) (by repeat constructor) (by first | assumption | rfl) ⟨Ext.refl _ _, rfl⟩) ?_
              refine mKG hok rfl rfl rfl rfl (fun a' w' F' E' => o_move (F'.ev rfl) ⟨Ext.refl _ _, rfl⟩) ?_
              refine mKG hok rfl rfl rfl rfl (fun a' w' F' E' => o_move (F'.ev rfl) ⟨Ext.refl _ _, rfl⟩) ?_
              refine mKG hok rfl rfl rfl rfl (fun a' w' F' E' => o_indexSl (F'.ev rfl) (F'.ev rfl) (by omega) (by omega) ⟨Ext.refl _ _, rfl⟩) ?_
              refine mKG hok rfl rfl rfl rfl (fun a' w' F' E' => o_fieldAddr (F'.ev rfl) ⟨Ext.refl _ _, rfl⟩) ?_
              refine mKG hok rfl rfl rfl rfl (fun a' w' F' E' => o_loadWA (M1.later E') (F'.ev rfl) (by assumption) (by first | assumption | rfl) ⟨Ext.refl _ _, rfl⟩) ?_
              (refine mKG hok rfl rfl rfl rfl (fun a' w' F' E' => o_call (F'.ev rfl) (F'.evs rfl) (Cal.mono (hfe _ (hSs.later (M1.later E').ext)) fun _ _ hh => ⟨hh.2, hh.1⟩)) ?_)
              refine mKG hok rfl rfl rfl rfl (fun a' w' F' E' => o_not (F'.ev rfl) ⟨Ext.refl _ _, rfl⟩) ?_
              refine mK hok rfl rfl (fun a' w' F' E' => o_pickF (F'.ev rfl) (F'.ev rfl) ⟨Ext.refl _ _, rfl⟩) ?_
              (refine mDone rfl rfl ?_; clear F M; intro a w F hE2 hX hTT hDD hPP; have M := M1.later hE2; clear M1; clear hX; clear hE2; clear hok; clear hE; clear hTT; clear hDD; clear hPP; (try dsimp only at F))
              with_reducible refine l_nil (q_then ?_)
              refine c_false F rfl rfl ?_
              with_reducible refine c_skip (q_then (c_seq ?_))
              clear hov hoE hYi hdk2 hdk3 htk hfe hre
              have hol : (optsV now s cm t (l.take r')).length ≤ 512 := opts_len (by rw [List.length_take]; omega)
              replace F := F.only [16, 20, 21, 19, 69, 68, 67, 12, 15, 17, 0, 1, 2, 4, 22] rfl
              replace M := M.perm (l' := (b19, .cells (dvC t).toArray 45 (0, 0)) :: (bD, .cells (dvsC ds ++ junk).toArray 45 (0, 0)) :: (entO ++ (entR ++ (ent ++ entS)))) (by classical exact List.perm_iff_count.2 fun _ => by simp only [List.count_append, List.count_cons, List.count_nil, Nat.add_zero, Nat.zero_add] <;> ac_rfl)
              refine c_draw 11 F (by kernel_rfl) ?_
              intro w1 hE hok
              have M1 := M.later hE
              refine mK hok rfl rfl (fun a' w' F' E' => o_move (F'.ev rfl) ⟨Ext.refl _ _, rfl⟩) ?_
              refine mK hok rfl rfl (fun a' w' F' E' => o_move (F'.ev rfl) ⟨Ext.refl _ _, rfl⟩) ?_
              refine mK hok rfl rfl (fun a' w' F' E' => o_move (F'.ev rfl) ⟨Ext.refl _ _, rfl⟩) ?_
              refine mK hok rfl rfl (fun a' w' F' E' => o_indexSl (F'.ev rfl) (F'.ev rfl) (by omega) (by omega) ⟨Ext.refl _ _, rfl⟩) ?_
              refine mK hok rfl rfl (fun a' w' F' E' => o_fieldAddr (F'.ev rfl) ⟨Ext.refl _ _, rfl⟩) ?_
              refine mK hok rfl rfl (fun a' w' F' E' => o_loadW1 (M1.later E') (F'.ev rfl) (by assumption) (by first | assumption | rfl) ⟨Ext.refl _ _, rfl⟩) ?_
              refine mK hok rfl rfl (fun a' w' F' E' => o_move (F'.ev rfl) ⟨Ext.refl _ _, rfl⟩) ?_
              refine mK hok rfl rfl (fun a' w' F' E' => o_move (F'.ev rfl) ⟨Ext.refl _ _, rfl⟩) ?_
              refine mK hok rfl rfl (fun a' w' F' E' => o_indexSl (F'.ev rfl) (F'.ev rfl) (by omega) (by omega) ⟨Ext.refl _ _, rfl⟩) ?_
              refine mK hok rfl rfl (fun a' w' F' E' => o_fieldAddr (F'.ev rfl) ⟨Ext.refl _ _, rfl⟩) ?_
              refine mK hok rfl rfl (fun a' w' F' E' => o_loadWA (M1.later E') (F'.ev rfl) (by assumption) (by first | assumption | rfl) ⟨Ext.refl _ _, rfl⟩) ?_
              (refine mDone rfl rfl ?_; clear F M; intro a w F hE2 hX hTT hDD hPP; have M := M1.later hE2; clear M1; clear hX; clear hE2; clear hok; clear hE; clear hTT; clear hDD; clear hPP; (try dsimp only at F))
              (refine stepN rfl F (o_mapUpdate (u := diV x.said) keyE_law M hOS (.cons (.cons (.app (.app (.app .here))))) (fun _ _ => trivial) (a := x.nb) trivial (F.ev rfl) (F.ev rfl) (F.ev rfl) ?_); clear F M; intro entS2 w hOS2 M a F)
              replace M := M.perm (l' := (b19, .cells (dvC t).toArray 45 (0, 0)) :: (bD, .cells (dvsC ds ++ junk).toArray 45 (0, 0)) :: (entS2 ++ (entR ++ (ent ++ entO)))) (by classical exact List.perm_iff_count.2 fun _ => by simp only [List.count_append, List.count_cons, List.count_nil, Nat.add_zero, Nat.zero_add] <;> ac_rfl)
              with_reducible refine l_nil (q_then ?_)
              replace F := F.only [16, 20, 21, 19, 69, 68, 67, 12, 15, 17, 0, 1, 2, 4, 22] rfl
              refine c_draw 16 F (by kernel_rfl) ?_
              intro w1 hE hok
              have M1 := M.later hE
              refine mK hok rfl rfl (fun a' w' F' E' => o_move (F'.ev rfl) ⟨Ext.refl _ _, rfl⟩) ?_
              refine mK hok rfl rfl (fun a' w' F' E' => o_move (F'.ev rfl) ⟨Ext.refl _ _, rfl⟩) ?_
              refine mK hok rfl rfl (fun a' w' F' E' => o_move (F'.ev rfl) ⟨Ext.refl _ _, rfl⟩) ?_
              refine mK hok rfl rfl (fun a' w' F' E' => o_indexSl (F'.ev rfl) (F'.ev rfl) (by omega) (by omega) ⟨Ext.refl _ _, rfl⟩) ?_
              refine mK hok rfl rfl (fun a' w' F' E' => o_fieldAddr (F'.ev rfl) ⟨Ext.refl _ _, rfl⟩) ?_
              refine mK hok rfl rfl (fun a' w' F' E' => o_loadW1 (M1.later E') (F'.ev rfl) (by assumption) (by first | assumption | rfl) ⟨Ext.refl _ _, rfl⟩) ?_
              refine mK hok rfl rfl (fun a' w' F' E' => o_move (F'.ev rfl) ⟨Ext.refl _ _, rfl⟩) ?_
              refine mK hok rfl rfl (fun a' w' F' E' => o_move (F'.ev rfl) ⟨Ext.refl _ _, rfl⟩) ?_
              refine mK hok rfl rfl (fun a' w' F' E' => o_indexSl (F'.ev rfl) (F'.ev rfl) (by omega) (by omega) ⟨Ext.refl _ _, rfl⟩) ?_
              refine mK hok rfl rfl (fun a' w' F' E' => o_fieldAddr (F'.ev rfl) ⟨Ext.refl _ _, rfl⟩) ?_
              refine mK hok rfl rfl (fun a' w' F' E' => o_fieldAddr (F'.ev rfl) ⟨Ext.refl _ _, rfl⟩) ?_
              refine mK hok rfl rfl (fun a' w' F' E' => o_loadW1 (M1.later E') (F'.ev rfl) (by assumption) (by first | assumption | rfl) ⟨Ext.refl _ _, rfl⟩) ?_
              refine mK hok rfl rfl (fun a' w' F' E' => o_move (F'.ev rfl) ⟨Ext.refl _ _, rfl⟩) ?_
              (refine mK hok rfl rfl (fun a' w' F' E' => o_call (F'.ev rfl) (F'.evs rfl) (Cal.mono (addM_c x.said.met c _) fun _ _ hh => ⟨hh.2, hh.1⟩)) ?_)
              refine mK hok rfl rfl (fun a' w' F' E' => o_build F' rfl rfl ⟨Ext.refl _ _, rfl⟩) ?_
              refine mX (V := NewP w1.heap.size (PhO ⟨x.nb, addM x.said.met c⟩)) hok rfl rfl (NewP.stays _ _) (fun a' w' F' E' D' => bsO ⟨x.nb, addM x.said.met c⟩ F' E' rfl) ?_
              (refine mDone rfl rfl ?_; clear F M; intro a w F hE2 hX hTT hDD hPP; have M := M1.later hE2; (try dsimp only at F); obtain ⟨new, hΦ, hN⟩ := hX 15 _ rfl; replace M := M.joinNew M1 hN; obtain ⟨b148, hr, rfl⟩ := hΦ; replace F := F.know (d := 148) hr; clear hr; clear hN; clear M1; clear hX; clear hE2; clear hok; clear hE; clear hTT; clear hDD; clear hPP)
              replace M := M.perm (l' := (b148, opO ⟨x.nb, addM x.said.met c⟩) :: (b19, .cells (dvC t).toArray 45 (0, 0)) :: (bD, .cells (dvsC ds ++ junk).toArray 45 (0, 0)) :: (entS2 ++ (entR ++ (ent ++ entO)))) (by classical exact List.perm_iff_count.2 fun _ => by simp only [List.count_append, List.count_cons, List.count_nil, Nat.add_zero, Nat.zero_add] <;> ac_rfl)
              (refine sD F (o_append hOO M (.cons (.cons (.cons (.app (.app (.app .here)))))) (F.ev rfl) (F.ev rfl) (SrcOf.cells' (M.heap .here) (sg_all (op_len (o := ⟨x.nb, addM x.said.met c⟩) trivial)) (op_one _)) (by omega) (by omega) ?_); clear F M; intro zO2 entO2 w hOO2 M a F)
              refine sD F (o_assign (F.ev rfl) ?_); clear F a; intro a F
              with_reducible refine l_nil (q_inB ?_)
              refine ⟨zO2, entO2, entS2, ?_, ?_, F.only [16, 20, 21, 19, 69, 68, 67, 12, 15, 17, 0, 1, 2, 4] rfl, (M.perm (l' := (entS2 ++ (entO2 ++ ((b19, .cells (dvC t).toArray 45 (0, 0)) :: (bD, .cells (dvsC ds ++ junk).toArray 45 (0, 0)) :: (entR ++ ent)))) ++ [(b148, opO ⟨x.nb, addM x.said.met c⟩)]) (by classical exact List.perm_iff_count.2 fun _ => by simp only [List.count_append, List.count_cons, List.count_nil, Nat.add_zero, Nat.zero_add] <;> ac_rfl)).sub (List.sublist_append_left _ _)⟩
              · rw [show (some (⟨x.nb, addM x.said.met c⟩ : OptV)).toList = [⟨x.nb, addM x.said.met c⟩] from rfl, List.length_append]
                show OwnS _ 2 _ _ (encL opC _) _
                rw [encL_app, encL_one]
                exact hOO2
              · rw [if_pos (show (some (⟨x.nb, addM x.said.met c⟩ : OptV)).isSome = true from rfl)]
                unfold mapQ
                rw [← putA_map]
                exact hOS2
          · clear F M
            rintro a w ⟨zO2, entO2, entS2, hOO2, hOS2, F, M⟩
            with_reducible refine q_then (c_region ?_)
            refine sD F (o_move (F.ev rfl) ?_); clear F a; intro a F
            refine sD F (o_add (F.ev rfl) (F.ev rfl) (w_i64 (by omega) (by omega)) ?_); clear F a; intro a F
            refine sD F (o_assign (F.ev rfl) ?_); clear F a; intro a F
            with_reducible refine l_nil (q_then ?_)
            exact ⟨_, by omega, r' + 1, zO2, entO2, entS2, rfl, by omega, by omega, fun j hj h1 h2 => by
              rcases Nat.lt_or_ge j r' with h3 | h3
              · exact hre j hj h1 h3
              · obtain rfl : j = r' := by omega
                rw [← hx0]; exact he, hOO2, hOS2, F.only [16, 20, 21, 19, 69, 68, 67, 12, 15, 17, 0, 1, 2, 4] rfl, M⟩
        · rw [decide_eq_false he] at g8
          refine c_draw 13 F (by kernel_rfl) ?_
          intro w1 hE hok
          have M1 := M.later hE
          refine mK hok rfl rfl (fun a' w' F' E' => o_move (F'.ev rfl) ⟨Ext.refl _ _, rfl⟩) ?_
          refine mK hok rfl rfl (fun a' w' F' E' => o_move (F'.ev rfl) ⟨Ext.refl _ _, rfl⟩) ?_
          refine mK hok rfl rfl (fun a' w' F' E' => o_lenSl (F'.ev rfl) ⟨Ext.refl _ _, rfl⟩) ?_
          refine mK hok rfl rfl (fun a' w' F' E' => o_lssT (F'.ev rfl) (F'.ev rfl) (by omega) ⟨Ext.refl _ _, rfl⟩) ?_
          refine mK hok rfl rfl (fun a' w' F' E' => o_move (F'.ev rfl) ⟨Ext.refl _ _, rfl⟩) ?_
          refine mKG hok rfl rfl rfl rfl (fun a' w' F' E' => o_move (F'.ev rfl) ⟨Ext.refl _ _, rfl⟩) ?_
          refine mKG hok rfl rfl rfl rfl (fun a' w' F' E' => o_move (F'.ev rfl) ⟨Ext.refl _ _, rfl⟩) ?_
          refine mKG hok rfl rfl rfl rfl (fun a' w' F' E' => o_indexSl (F'.ev rfl) (F'.ev rfl) (by omega) (by omega) ⟨Ext.refl _ _, rfl⟩) ?_
          refine mKG hok rfl rfl rfl rfl (fun a' w' F' E' => o_fieldAddr (F'.ev rfl) ⟨Ext.refl _ _, rfl⟩) ?_
          refine mKG hok rfl rfl rfl rfl (fun a' w' F' E' => o_loadWA (M1.later E') (F'.ev rfl) (by assumption) (by first | assumption | rfl) ⟨Ext.refl _ _, rfl⟩) ?_
          refine mKG hok rfl rfl rfl rfl (fun a' w' F' E' => o_loadA (M1.later E') (F'.ev rfl) (by repeat constructor) (by first | assumption | rfl) ⟨Ext.refl _ _, rfl⟩) ?_
          refine mKG hok rfl rfl rfl rfl (fun a' w' F' E' => o_eqlAF (F'.ev rfl) (F'.ev rfl) (by first | assumption | rfl) (by first | assumption | rfl) (by assumption) ⟨Ext.refl _ _, rfl⟩) ?_
          refine mK hok rfl rfl (fun a' w' F' E' => o_pickT (F'.ev rfl) (F'.ev rfl) ⟨Ext.refl _ _, rfl⟩) ?_
          (refine mDone rfl rfl ?_; clear F M; intro a w F hE2 hX hTT hDD hPP; have M := M1.later hE2; clear M1; clear hX; clear hE2; clear hok; clear hE; clear hTT; clear hDD; clear hPP; (try dsimp only at F))
          with_reducible refine l_nil (q_then ?_)
          refine c_false F rfl rfl ?_
          with_reducible refine c_exit (q_thenX (q_thenX (q_inBX ?_)))
          obtain ⟨h1, h2, h3⟩ := hend (fun hj => by rw [← hx0]; exact he)
          exact ⟨r', zO, entO, entS, h1, by rw [h2]; exact hOO, by rw [h3]; exact hOS, F.only [16, 20, 21, 19, 69, 68, 67, 12, 15, 17, 0, 1, 2, 4] rfl, M.perm (by classical exact List.perm_iff_count.2 fun _ => by simp only [List.count_append, List.count_cons, List.count_nil, Nat.add_zero, Nat.zero_add] <;> ac_rfl)⟩
      · refine c_seq ?_
        refine c_seq ?_
        refine c_draw 13 F (by kernel_rfl) ?_
        intro w1 hE hok
        have M1 := M.later hE
        refine mK hok rfl rfl (fun a' w' F' E' => o_move (F'.ev rfl) ⟨Ext.refl _ _, rfl⟩) ?_
        refine mK hok rfl rfl (fun a' w' F' E' => o_move (F'.ev rfl) ⟨Ext.refl _ _, rfl⟩) ?_
        refine mK hok rfl rfl (fun a' w' F' E' => o_lenSl (F'.ev rfl) ⟨Ext.refl _ _, rfl⟩) ?_
        refine mK hok rfl rfl (fun a' w' F' E' => o_lssF (F'.ev rfl) (F'.ev rfl) (by omega) ⟨Ext.refl _ _, rfl⟩) ?_
        refine mK hok rfl rfl (fun a' w' F' E' => o_move (F'.ev rfl) ⟨Ext.refl _ _, rfl⟩) ?_
        refine mOff hok rfl rfl rfl rfl rfl ?_
        refine mOff hok rfl rfl rfl rfl rfl ?_
        refine mOff hok rfl rfl rfl rfl rfl ?_
        refine mOff hok rfl rfl rfl rfl rfl ?_
        refine mOff hok rfl rfl rfl rfl rfl ?_
        refine mOff hok rfl rfl rfl rfl rfl ?_
        refine mOff hok rfl rfl rfl rfl rfl ?_
        refine mK hok rfl rfl (fun a' w' F' E' => o_pickF (F'.ev rfl) (F'.ev rfl) ⟨Ext.refl _ _, rfl⟩) ?_
        (refine mDone rfl rfl ?_; clear F M; intro a w F hE2 hX hTT hDD hPP; have M := M1.later hE2; clear M1; clear hX; clear hE2; clear hok; clear hE; clear hTT; clear hDD; clear hPP; (try dsimp only at F))
        with_reducible refine l_nil (q_then ?_)
        refine c_false F rfl rfl ?_
        with_reducible refine c_exit (q_thenX (q_thenX (q_inBX ?_)))
        obtain ⟨h1, h2, h3⟩ := hend (fun hj => absurd hj hlt2)
        exact ⟨r', zO, entO, entS, h1, by rw [h2]; exact hOO, by rw [h3]; exact hOS, F.only [16, 20, 21, 19, 69, 68, 67, 12, 15, 17, 0, 1, 2, 4] rfl, M⟩
    · clear F M
      rintro a w ⟨r1, zO, entO, entS, hYr1, hOO, hOS, F, M⟩
      clear hYr
      have hvO := hov t
      have hlO : (ds.take k).length = k := by rw [List.length_take]; omega
      have hlR : ((ds.take k).filterMap (selE now l s cm old)).length ≤ 1024 := by
        have := List.length_filterMap_le (selE now l s cm old) (ds.take k)
        omega
      refine q_then ?_
      repeat (refine c_seq ?_)
      replace M := M.perm (l' := ((b19, .cells (dvC t).toArray 45 (0, 0)) :: (bD, .cells (dvsC ds ++ junk).toArray 45 (0, 0)) :: (entS ++ (entO ++ (entR ++ ent))))) (by classical exact List.perm_iff_count.2 fun _ => by simp only [List.count_append, List.count_cons, List.count_nil, Nat.add_zero, Nat.zero_add] <;> ac_rfl)
      refine c_cut (fun a w => ∃ had : Bool, (had = true → ∃ hil : i < old.length, old[i].to = t) ∧ (had = false → ∀ hil : i < old.length, old[i].to ≠ t) ∧ Frm a 190 [] [(24, .bool had), (17, .int .i64 i), (16, .int .i64 r1), (20, zO), (21, .map (some bS)), (19, .pointer (some ⟨b19, 0, none⟩)), (69, .int .i64 k), (68, .int .i64 ds.length), (67, .slice (some ⟨bD, 0, none⟩) ds.length capd), (12, .map (some b12)), (15, z), (0, .int .i64 now), (1, .slice q l.length cap), (2, vs), (4, .slice qo old.length capo)] ∧ Mem [] W w ((b19, .cells (dvC t).toArray 45 (0, 0)) :: (bD, .cells (dvsC ds ++ junk).toArray 45 (0, 0)) :: (entS ++ (entO ++ (entR ++ ent))))) ?_ ?_
      · clear hov hoE hYi hdk2 hdk3 htk
        by_cases hil : i < old.length
        · obtain ⟨b, o, cs, t', fz, rfl, hb, hs⟩ := hmo (by omega)
          have g1 : seg cs (o + (i : Int).toNat * 40) 40 = some (inC old[i]) := seg_el (ins_len hy) hs hil (by omega)
          have hxv := hy _ (List.getElem_mem hil)
          obtain ⟨y, hy0⟩ : ∃ y, y = old[i] := ⟨_, rfl⟩
          rw [← hy0] at g1 hxv
          have g2 : seg cs (o + (i : Int).toNat * 40) 35 = some (dvC y.to) := sg_seg g1 (in_to hxv) (by omega)
          have g7 := dv_fits hxv.1
          have g8 := dv_eq hxv.1 ht
          by_cases he : y.to = t
          · rw [decide_eq_true he] at g8
            refine c_draw 13 F (by kernel_rfl) ?_
            intro w1 hE hok
            have M1 := M.later hE
            refine mK hok rfl rfl (fun a' w' F' E' => o_move (F'.ev rfl) ⟨Ext.refl _ _, rfl⟩) ?_
            refine mK hok rfl rfl (fun a' w' F' E' => o_move (F'.ev rfl) ⟨Ext.refl _ _, rfl⟩) ?_
            refine mK hok rfl rfl (fun a' w' F' E' => o_lenSl (F'.ev rfl) ⟨Ext.refl _ _, rfl⟩) ?_
            refine mK hok rfl rfl (fun a' w' F' E' => o_lssT (F'.ev rfl) (F'.ev rfl) (by omega) ⟨Ext.refl _ _, rfl⟩) ?_
            refine mK hok rfl rfl (fun a' w' F' E' => o_move (F'.ev rfl) ⟨Ext.refl _ _, rfl⟩) ?_
            refine mKG hok rfl rfl rfl rfl (fun a' w' F' E' => o_move (F'.ev rfl) ⟨Ext.refl _ _, rfl⟩) ?_
            refine mKG hok rfl rfl rfl rfl (fun a' w' F' E' => o_move (F'.ev rfl) ⟨Ext.refl _ _, rfl⟩) ?_
            refine mKG hok rfl rfl rfl rfl (fun a' w' F' E' => o_indexSl (F'.ev rfl) (F'.ev rfl) (by omega) (by omega) ⟨Ext.refl _ _, rfl⟩) ?_
            refine mKG hok rfl rfl rfl rfl (fun a' w' F' E' => o_fieldAddr (F'.ev rfl) ⟨Ext.refl _ _, rfl⟩) ?_
            refine mKG hok rfl rfl rfl rfl (fun a' w' F' E' => o_loadWA (M1.later E') (F'.ev rfl) (by assumption) (by first | assumption | rfl) ⟨Ext.refl _ _, rfl⟩) ?_
            refine mKG hok rfl rfl rfl rfl (fun a' w' F' E' => o_loadA (M1.later E') (F'.ev rfl) (by repeat constructor) (by first | assumption | rfl) ⟨Ext.refl _ _, rfl⟩) ?_
            refine mKG hok rfl rfl rfl rfl (fun a' w' F' E' => o_eqlAT (F'.ev rfl) (F'.ev rfl) (by first | assumption | rfl) (by first | assumption | rfl) (by assumption) ⟨Ext.refl _ _, rfl⟩) ?_
            refine mK hok rfl rfl (fun a' w' F' E' => o_pickT (F'.ev rfl) (F'.ev rfl) ⟨Ext.refl _ _, rfl⟩) ?_
            (refine mDone rfl rfl ?_; clear F M; intro a w F hE2 hX hTT hDD hPP; have M := M1.later hE2; clear M1; clear hX; clear hE2; clear hok; clear hE; clear hTT; clear hDD; clear hPP; (try dsimp only at F))
            refine sD F (o_assign (F.ev rfl) ?_); clear F a; intro a F
            with_reducible refine l_nil ?_
            exact ⟨true, fun _ => ⟨hil, by rw [← hy0]; exact he⟩, fun h => (by cases h), F.only [24, 17, 16, 20, 21, 19, 69, 68, 67, 12, 15, 0, 1, 2, 4] rfl, M⟩
          · rw [decide_eq_false he] at g8
            refine c_draw 13 F (by kernel_rfl) ?_
            intro w1 hE hok
            have M1 := M.later hE
            refine mK hok rfl rfl (fun a' w' F' E' => o_move (F'.ev rfl) ⟨Ext.refl _ _, rfl⟩) ?_
            refine mK hok rfl rfl (fun a' w' F' E' => o_move (F'.ev rfl) ⟨Ext.refl _ _, rfl⟩) ?_
            refine mK hok rfl rfl (fun a' w' F' E' => o_lenSl (F'.ev rfl) ⟨Ext.refl _ _, rfl⟩) ?_
            refine mK hok rfl rfl (fun a' w' F' E' => o_lssT (F'.ev rfl) (F'.ev rfl) (by omega) ⟨Ext.refl _ _, rfl⟩) ?_
            refine mK hok rfl rfl (fun a' w' F' E' => o_move (F'.ev rfl) ⟨Ext.refl _ _, rfl⟩) ?_
            refine mKG hok rfl rfl rfl rfl (fun a' w' F' E' => o_move (F'.ev rfl) ⟨Ext.refl _ _, rfl⟩) ?_
            refine mKG hok rfl rfl rfl rfl (fun a' w' F' E' => o_move (F'.ev rfl) ⟨Ext.refl _ _, rfl⟩) ?_
            refine mKG hok rfl rfl rfl rfl (fun a' w' F' E' => o_indexSl (F'.ev rfl) (F'.ev rfl) (by omega) (by omega) ⟨Ext.refl _ _, rfl⟩) ?_
            refine mKG hok rfl rfl rfl rfl (fun a' w' F' E' => o_fieldAddr (F'.ev rfl) ⟨Ext.refl _ _, rfl⟩) ?_
            refine mKG hok rfl rfl rfl rfl (fun a' w' F' E' => o_loadWA (M1.later E') (F'.ev rfl) (by assumption) (by first | assumption | rfl) ⟨Ext.refl _ _, rfl⟩) ?_
            refine mKG hok rfl rfl rfl rfl (fun a' w' F' E' => o_loadA (M1.later E') (F'.ev rfl) (by repeat constructor) (by first | assumption | rfl) ⟨Ext.refl _ _, rfl⟩) ?_
            refine mKG hok rfl rfl rfl rfl (fun a' w' F' E' => o_eqlAF (F'.ev rfl) (F'.ev rfl) (by first | assumption | rfl) (by first | assumption | rfl) (by assumption) ⟨Ext.refl _ _, rfl⟩) ?_
            refine mK hok rfl rfl (fun a' w' F' E' => o_pickT (F'.ev rfl) (F'.ev rfl) ⟨Ext.refl _ _, rfl⟩) ?_
            (refine mDone rfl rfl ?_; clear F M; intro a w F hE2 hX hTT hDD hPP; have M := M1.later hE2; clear M1; clear hX; clear hE2; clear hok; clear hE; clear hTT; clear hDD; clear hPP; (try dsimp only at F))
            refine sD F (o_assign (F.ev rfl) ?_); clear F a; intro a F
            with_reducible refine l_nil ?_
            exact ⟨false, fun h => (by cases h), fun _ _ => by rw [← hy0]; exact he, F.only [24, 17, 16, 20, 21, 19, 69, 68, 67, 12, 15, 0, 1, 2, 4] rfl, M⟩
        · refine c_draw 13 F (by kernel_rfl) ?_
          intro w1 hE hok
          have M1 := M.later hE
          refine mK hok rfl rfl (fun a' w' F' E' => o_move (F'.ev rfl) ⟨Ext.refl _ _, rfl⟩) ?_
          refine mK hok rfl rfl (fun a' w' F' E' => o_move (F'.ev rfl) ⟨Ext.refl _ _, rfl⟩) ?_
          refine mK hok rfl rfl (fun a' w' F' E' => o_lenSl (F'.ev rfl) ⟨Ext.refl _ _, rfl⟩) ?_
          refine mK hok rfl rfl (fun a' w' F' E' => o_lssF (F'.ev rfl) (F'.ev rfl) (by omega) ⟨Ext.refl _ _, rfl⟩) ?_
          refine mK hok rfl rfl (fun a' w' F' E' => o_move (F'.ev rfl) ⟨Ext.refl _ _, rfl⟩) ?_
          refine mOff hok rfl rfl rfl rfl rfl ?_
          refine mOff hok rfl rfl rfl rfl rfl ?_
          refine mOff hok rfl rfl rfl rfl rfl ?_
          refine mOff hok rfl rfl rfl rfl rfl ?_
          refine mOff hok rfl rfl rfl rfl rfl ?_
          refine mOff hok rfl rfl rfl rfl rfl ?_
          refine mOff hok rfl rfl rfl rfl rfl ?_
          refine mK hok rfl rfl (fun a' w' F' E' => o_pickF (F'.ev rfl) (F'.ev rfl) ⟨Ext.refl _ _, rfl⟩) ?_
          (refine mDone rfl rfl ?_; clear F M; intro a w F hE2 hX hTT hDD hPP; have M := M1.later hE2; clear M1; clear hX; clear hE2; clear hok; clear hE; clear hTT; clear hDD; clear hPP; (try dsimp only at F))
          refine sD F (o_assign (F.ev rfl) ?_); clear F a; intro a F
          with_reducible refine l_nil ?_
          exact ⟨false, fun h => (by cases h), fun _ h => absurd h hil, F.only [24, 17, 16, 20, 21, 19, 69, 68, 67, 12, 15, 0, 1, 2, 4] rfl, M⟩
      clear F M
      rintro a w ⟨had, hh1, hh2, F, M⟩
      with_reducible refine q_then (c_seq (c_region ?_))
      (refine sD F (o_alloc M ?_); clear F M; intro b25 w M a F)
      with_reducible refine l_nil (q_then (c_seq (c_seq (c_region ?_))))
      refine sD F (o_move (F.ev rfl) ?_); clear F a; intro a F
      with_reducible refine l_nil (q_then ?_)
      refine c_cut (fun a w => ∃ (y : InsV) (i' : Nat), IsIn y ∧ (had = true → ins1 y = true) ∧ oldV old t = oldB y had ∧ Yet InsV.to old (ds.drop (k + 1)) i' ∧ Frm a 190 [] [(24, .bool had), (25, .pointer (some ⟨b25, 0, none⟩)), (17, .int .i64 i'), (16, .int .i64 r1), (20, zO), (21, .map (some bS)), (19, .pointer (some ⟨b19, 0, none⟩)), (69, .int .i64 k), (68, .int .i64 ds.length), (67, .slice (some ⟨bD, 0, none⟩) ds.length capd), (12, .map (some b12)), (15, z), (0, .int .i64 now), (1, .slice q l.length cap), (2, vs), (4, .slice qo old.length capo)] ∧ Mem [] W w ((b25, .cells (inC y).toArray 50 (0, 0)) :: ((b19, .cells (dvC t).toArray 45 (0, 0)) :: (bD, .cells (dvsC ds ++ junk).toArray 45 (0, 0)) :: (entS ++ (entO ++ (entR ++ ent)))))) ?_ ?_
      · cases had with
        | false =>
          have hn := hh2 rfl
          obtain ⟨h1, h2⟩ := Yet.next hwN hdk2 hdk3 hYi (Nat.le_refl _) hYi.le (fun j hj h1 h2 => absurd h2 (by omega)) hn
          have hov2 : oldV old t = none := oldV_no fun j hj => by
            rcases Nat.lt_or_ge j i with h3 | h3
            · exact hYi.before j hj h3
            · exact h2 j hj h3
          refine c_false F rfl rfl ?_
          with_reducible refine c_skip ?_
          exact ⟨in0, i, in0_is, fun h => (by cases h), hov2, h1, F.only [24, 25, 17, 16, 20, 21, 19, 69, 68, 67, 12, 15, 0, 1, 2, 4] rfl, M⟩
        | true =>
          obtain ⟨hil, he⟩ := hh1 rfl
          obtain ⟨b, o, cs, t', fz, rfl, hb, hs⟩ := hmo (by omega)
          have g1 : seg cs (o + (i : Int).toNat * 40) 40 = some (inC old[i]) := seg_el (ins_len hy) hs hil (by omega)
          have hxv := hy _ (List.getElem_mem hil)
          have hnx := Yet.next (r1 := i + 1) hwN hdk2 hdk3 hYi (by omega) (by omega) (fun j hj h1 h2 => by
            obtain rfl : j = i := by omega
            exact he) (fun hj e => by
            have h3 := (List.pairwise_iff_getElem.1 hascN) i (i + 1) hil hj (by omega)
            unfold cmpN at h3
            rw [e, he, cmpD_self] at h3
            omega)
          have hov2 : oldV old t = some old[i] := oldV_at hil he hYi.before
          have hin := hins _ (List.getElem_mem hil)
          obtain ⟨y, hy0⟩ : ∃ y, y = old[i] := ⟨_, rfl⟩
          rw [← hy0] at g1 hxv hov2 hin
          clear he
          refine c_true F rfl rfl ?_
          refine c_seq (c_region ?_)
          refine sD F (o_move (F.ev rfl) ?_); clear F a; intro a F
          refine sD F (o_move (F.ev rfl) ?_); clear F a; intro a F
          refine sD F (o_indexSl (F.ev rfl) (F.ev rfl) (by omega) (by omega) ?_); clear F a; intro a F
          refine sD F (o_loadWA M (F.ev rfl) (by assumption) (by first | assumption | rfl) ?_); clear F a; intro a F
          (refine stepN rfl F (o_storeA M (F.ev rfl) (F.ev rfl) (in_len hxv) (in_one y)  (by repeat constructor)  (put_all (by rw [in_len hxv]; rfl)) (by repeat constructor) ?_); clear F M; intro w M a F)
          with_reducible refine l_nil (q_then (c_region ?_))
          refine sD F (o_move (F.ev rfl) ?_); clear F a; intro a F
          refine sD F (o_add (F.ev rfl) (F.ev rfl) (w_i64 (by omega) (by omega)) ?_); clear F a; intro a F
          refine sD F (o_assign (F.ev rfl) ?_); clear F a; intro a F
          with_reducible refine l_nil ?_
          exact ⟨y, i + 1, hxv, fun _ => hin, hov2, hnx.1, F.only [24, 25, 17, 16, 20, 21, 19, 69, 68, 67, 12, 15, 0, 1, 2, 4] rfl, M⟩
      clear F M
      rintro a w ⟨y, i', hyI, hy1, hov2, hYi2, F, M⟩
      have hEq : selE now l s cm old t = aftV now t (oldB y had) (optsV now s cm t l) (saidV now s cm t l) := by
        unfold selE
        rw [hov2]
      rw [hEq] at htk
      have hEI : ∀ e, aftV now t (oldB y had) (optsV now s cm t l) (saidV now s cm t l) = some e → IsIn e := fun e h => hoE t ht e (by rw [hEq]; exact h)
      have haf := after_c now c5 t ht y hyI had hy1 (optsV now s cm t l) hvO zO (saidV now s cm t l) (.map (some bS))
      obtain ⟨E, hE⟩ : ∃ E, E = aftV now t (oldB y had) (optsV now s cm t l) (saidV now s cm t l) := ⟨_, rfl⟩
      rw [← hE] at htk hEI haf
      have hgI : IsIn (E.getD in0) := by
        cases E with
        | none => exact in0_is
        | some e => exact hEI e rfl
      have y1 := in_all hyI
      have e1 := in_all hgI
      have e2 := in_len hgI
      with_reducible refine q_then (c_seq (c_region ?_))
      refine sD F (o_move (F.ev rfl) ?_); clear F a; intro a F
      refine sD F (o_loadA M (F.ev rfl) (by repeat constructor) (by first | assumption | rfl) ?_); clear F a; intro a F
      refine sD F (o_loadA M (F.ev rfl) (by repeat constructor) (by first | assumption | rfl) ?_); clear F a; intro a F
      refine sD F (o_move (F.ev rfl) ?_); clear F a; intro a F
      refine sD F (o_move (F.ev rfl) ?_); clear F a; intro a F
      refine sD F (o_move (F.ev rfl) ?_); clear F a; intro a F
      (refine sD F (o_call (F.ev rfl) (F.evs rfl) (Cal.mono (haf _ (hOO.slAt M (fun p hp => by simp [hp])) (hOS.at_ (fun p hp => M.at_ p (by simp [hp])))) ?_)); clear F; clear a; rintro _ w ⟨rfl, hE⟩ a F; replace M := M.later hE; clear hE)
      refine sD F (o_move (F.ev rfl) ?_); clear F a; intro a F
      refine sD F (o_extract (F.ev rfl) rfl ?_); clear F a; intro a F
      refine sD F (o_extract (F.ev rfl) rfl ?_); clear F a; intro a F
      (refine sD F (o_alloc M ?_); clear F M; intro b26 w M a F)
      (refine stepN rfl F (o_storeA M (F.ev rfl) (F.ev rfl) (e2) (in_one _)  (by repeat constructor)  (put_all (by rw [e2]; rfl)) (by repeat constructor) ?_); clear F M; intro w M a F)
      cases E with
      | none =>
        have htk2 : (ds.take (k + 1)).filterMap (selE now l s cm old) = (ds.take k).filterMap (selE now l s cm old) := by rw [htk]; simp
        refine sD F (o_assign (F.ev rfl) ?_); clear F a; intro a F
        with_reducible refine l_nil (q_then (c_seq (c_region ?_)))
        refine sD F (o_move (F.ev rfl) ?_); clear F a; intro a F
        with_reducible refine l_nil (q_then ?_)
        refine c_false F rfl rfl ?_
        with_reducible refine c_skip (q_inB (q_then (c_region ?_)))
        refine sD F (o_add (F.ev rfl) (F.ev rfl) (w_i64 (by omega) (by omega)) ?_); clear F a; intro a F
        refine sD F (o_move (F.ev rfl) ?_); clear F a; intro a F
        with_reducible refine l_nil (q_then ?_)
        exact ⟨_, by omega, k + 1, r1, i', z, entR, rfl, by omega, hYr1, hYi2, by rw [htk2]; exact hR, F.only [69, 68, 67, 12, 15, 16, 17, 0, 1, 2, 4] rfl, (M.perm (l' := (entR ++ ([(bD, .cells (dvsC ds ++ junk).toArray 45 (0, 0))] ++ ent)) ++ ((b26, .cells (inC ((none : Option InsV).getD in0)).toArray 50 (0, 0)) :: (b25, .cells (inC y).toArray 50 (0, 0)) :: (b19, .cells (dvC t).toArray 45 (0, 0)) :: (entS ++ entO))) (by classical exact List.perm_iff_count.2 fun _ => by simp only [List.count_append, List.count_cons, List.count_nil, Nat.add_zero, Nat.zero_add] <;> ac_rfl)).sub (List.sublist_append_left _ _)⟩
      | some e =>
        have htk2 : (ds.take (k + 1)).filterMap (selE now l s cm old) = (ds.take k).filterMap (selE now l s cm old) ++ [e] := by rw [htk]; rfl
        have heI := hEI e rfl
        have e3 : seg (inC e) 0 40 = some (inC e) := in_all heI
        replace M := M.perm (l' := (b26, .cells (inC e).toArray 50 (0, 0)) :: (b25, .cells (inC y).toArray 50 (0, 0)) :: (b19, .cells (dvC t).toArray 45 (0, 0)) :: (bD, .cells (dvsC ds ++ junk).toArray 45 (0, 0)) :: (entS ++ (entO ++ (ent ++ entR)))) (by classical exact List.perm_iff_count.2 fun _ => by simp only [List.count_append, List.count_cons, List.count_nil, Nat.add_zero, Nat.zero_add] <;> ac_rfl)
        refine sD F (o_assign (F.ev rfl) ?_); clear F a; intro a F
        with_reducible refine l_nil (q_then (c_seq (c_region ?_)))
        refine sD F (o_move (F.ev rfl) ?_); clear F a; intro a F
        with_reducible refine l_nil (q_then ?_)
        refine c_true F rfl rfl ?_
        refine c_region ?_
        refine sD F (o_move (F.ev rfl) ?_); clear F a; intro a F
        refine sD F (o_loadA M (F.ev rfl) (by repeat constructor) (by first | assumption | rfl) ?_); clear F a; intro a F
        (refine sD F (o_buildSlice F M rfl rfl rfl (in_build1 heI) ?_); clear F M; intro b183 w M a F)
        (refine sD F (o_append hR M (.cons (.cons (.cons (.cons (.cons (.app (.app (.app .here)))))))) (F.ev rfl) (F.ev rfl) (SrcOf.cells' (M.heap .here) (sg_all (in_len heI)) (in_one _)) (by omega) (by omega) ?_); clear F M; intro z2 entR2 w hR2 M a F)
        refine sD F (o_assign (F.ev rfl) ?_); clear F a; intro a F
        with_reducible refine l_nil (q_inB (q_then (c_region ?_)))
        refine sD F (o_add (F.ev rfl) (F.ev rfl) (w_i64 (by omega) (by omega)) ?_); clear F a; intro a F
        refine sD F (o_move (F.ev rfl) ?_); clear F a; intro a F
        with_reducible refine l_nil (q_then ?_)
        refine ⟨_, by omega, k + 1, r1, i', z2, entR2, rfl, by omega, hYr1, hYi2, ?_, F.only [69, 68, 67, 12, 15, 16, 17, 0, 1, 2, 4] rfl, (M.perm (l' := (entR2 ++ ([(bD, .cells (dvsC ds ++ junk).toArray 45 (0, 0))] ++ ent)) ++ ((b183, .cells (inC e).toArray 50 (0, 0)) :: (b26, .cells (inC e).toArray 50 (0, 0)) :: (b25, .cells (inC y).toArray 50 (0, 0)) :: (b19, .cells (dvC t).toArray 45 (0, 0)) :: (entS ++ entO))) (by classical exact List.perm_iff_count.2 fun _ => by simp only [List.count_append, List.count_cons, List.count_nil, Nat.add_zero, Nat.zero_add] <;> ac_rfl)).sub (List.sublist_append_left _ _)⟩
        rw [htk2, List.length_append]
        show OwnS _ 40 _ _ (encL inC _) _
        rw [encL_app, encL_one]
        exact hR2
  · obtain rfl : k = ds.length := by omega
    rw [List.take_length] at hR
    obtain ⟨pz, cz, rfl⟩ := hR.slice
    clear hD hov hoE
    by_cases c9 : 512 < (ds.filterMap (selE now l s cm old)).length
    · rw [if_pos c9] at hL
      rw [hL]
      refine c_seq (c_region ?_)
      refine sD F (o_lssF (F.ev rfl) (F.ev rfl) (by omega) ?_); clear F a; intro a F
      with_reducible refine l_nil (q_then (c_seq ?_))
      refine c_false F rfl rfl ?_
      with_reducible refine c_exit (q_thenX (q_thenX (q_inBX (q_then (c_seq (c_seq (c_region ?_)))))))
      refine sD F (o_move (F.ev rfl) ?_); clear F a; intro a F
      refine sD F (o_lenSl (F.ev rfl) ?_); clear F a; intro a F
      refine sD F (o_gtrT (F.ev rfl) (F.ev rfl) (by omega) ?_); clear F a; intro a F
      with_reducible refine l_nil (q_then ?_)
      refine c_true F rfl rfl ?_
      refine c_seq (c_region ?_)
      refine sD F (o_assign (F.ev rfl) ?_); clear F a; intro a F
      refine sD F (o_assign (F.ev rfl) ?_); clear F a; intro a F
      with_reducible refine l_nil (q_then (c_ret (q_thenR ?_)))
      refine p_ret F rfl (.cons (.tmp (F.ev rfl)) (.cons (.tmp (F.ev rfl)) .nil)) ?_
      exact ⟨.slice none 0 0, [], rfl, OwnS.nil _ _, M.sub (List.nil_sublist _)⟩
    · rw [if_neg c9] at hL
      rw [hL]
      refine c_seq (c_region ?_)
      refine sD F (o_lssF (F.ev rfl) (F.ev rfl) (by omega) ?_); clear F a; intro a F
      with_reducible refine l_nil (q_then (c_seq ?_))
      refine c_false F rfl rfl ?_
      with_reducible refine c_exit (q_thenX (q_thenX (q_inBX (q_then (c_seq (c_seq (c_region ?_)))))))
      refine sD F (o_move (F.ev rfl) ?_); clear F a; intro a F
      refine sD F (o_lenSl (F.ev rfl) ?_); clear F a; intro a F
      refine sD F (o_gtrF (F.ev rfl) (F.ev rfl) (by omega) ?_); clear F a; intro a F
      with_reducible refine l_nil (q_then ?_)
      refine c_false F rfl rfl ?_
      with_reducible refine c_skip (q_then (c_seq (c_region ?_)))
      refine sD F (o_move (F.ev rfl) ?_); clear F a; intro a F
      refine sD F (o_assign (F.ev rfl) ?_); clear F a; intro a F
      refine sD F (o_assign (F.ev rfl) ?_); clear F a; intro a F
      with_reducible refine l_nil (q_then (c_ret ?_))
      refine p_ret F rfl (.cons (.tmp (F.ev rfl)) (.cons (.tmp (F.ev rfl)) .nil)) ?_
      exact ⟨_, entR, rfl, hR, M.sub (List.sublist_append_left _ _)⟩
end Go.Proofs.YtilgoepokaaleaaGreat
/-! ZG -/
namespace Go.Proofs.YtilgoepokaaleaaGreat
set_option linter.unusedVariables false
set_option linter.unusedSimpArgs false
open Go.RowKit
attribute [local irreducible] OpTo wpListIn Code.wpIn MW Cal
def hostD (n r : Int) : DstV := ⟨[32, 1, 0, 0, 0, 0, 0, 0, 0, 0, 0, 0, 0, 0, 0, n], 128, nul16, 0, r⟩
theorem hostD_is {n r : Int} (h0 : 0 ≤ n) (h1 : n < 256) : IsDv (hostD n r) := ⟨⟨rfl, by intro x hx; simp [hostD] at hx; omega⟩, nul16_is⟩
theorem host_c (n r : Int) (h0 : 0 ≤ n) (h1 : n < 256) (r0 : 0 ≤ r) (r1 : r < 100000) (W : World) : Cal Tryz.prog 30 [.int .i64 n, .int .i64 r].toArray W fun v w' => v = .agg (dvC (hostD n r)).toArray ∧ Ext [] W w' := by
  refine fn_ofM (n := 12) [] Tryz.func30 rfl rfl rfl ?_
  intro a w F M hwW
  refine c_seq ?_
  refine c_region ?_
  (refine sD F (o_alloc M ?_); clear F M; intro b4 w M a F)
  with_reducible refine l_nil (q_then (c_seq (c_region ?_)))
  refine sD F (o_move (F.ev rfl) ?_); clear F a; intro a F
  refine sD F (o_conv (F.ev rfl) (w_u8 (by omega) (by omega)) ?_); clear F a; intro a F
  refine sD F (o_build F rfl rfl ?_); clear F a; intro a F
  refine sD F (o_build F rfl rfl ?_); clear F a; intro a F
  refine sD F (o_move (F.ev rfl) ?_); clear F a; intro a F
  refine sD F (o_conv (F.ev rfl) (w_u64 (by omega) (by omega)) ?_); clear F a; intro a F
  refine sD F (o_build F rfl rfl ?_); clear F a; intro a F
  (refine stepN rfl F (o_storeA M (F.ev rfl) (F.ev rfl) (by rfl) (by rfl) (by repeat constructor) (by rfl) (by repeat constructor) ?_); clear F M; intro w M a F)
  with_reducible refine l_nil (q_then (c_ret ?_))
  exact p_ret F rfl (.cons (.cell (F.ev rfl) (run_loadVar_agg TAgg.h (M.heap (by repeat constructor)) rfl)) .nil) ⟨rfl, M.ext⟩
def kL : RouV := ⟨hostD 1 9, 2, ⟨3, 100⟩, 15⟩
def kI : InsV := ⟨hostD 1 9, 2, ⟨3, 356⟩, -1, 0⟩
def kH : InsV := ⟨hostD 1 9, 0, ⟨3, 65535⟩, -1, 21⟩
def kO : OptV := ⟨2, 256⟩
def kIP : List Int := [32, 1, 0, 0, 0, 0, 0, 0, 0, 0, 0, 0, 0, 0, 0, 1]
def kZ : DstV := ⟨nul16, 0, nul16, 0, 0⟩
theorem k_is : IsDv (hostD 1 9) := hostD_is (by omega) (by omega)
theorem kL_is : IsRo kL := ⟨k_is, trivial⟩
theorem kI_is : IsIn kI := ⟨k_is, trivial⟩
theorem kH_is : IsIn kH := ⟨k_is, trivial⟩
theorem kIP_is : IsIP kIP := ⟨rfl, by intro x hx; simp [kIP] at hx; omega⟩
theorem kZ_is : IsDv kZ := ⟨nul16_is, nul16_is⟩
theorem kLearn : learnV [] 5 (hostD 1 9) 2 ⟨3, 100⟩ = ([kL], 0) := by decide +kernel
theorem kSel1 : selectV 6 [kL] [] [kO] [] = ([kI], 0) := by decide +kernel
theorem kSel2 : selectV 7 [] [] [kO] [kI] = ([kH], 0) := by decide +kernel
theorem kLook1 : lookV [kI] nul16 kIP kZ false = (kI, 0) := by decide +kernel
theorem kLook2 : lookV [kH] nul16 kIP kZ false = (in0, 15) := by decide +kernel
theorem slAtO {w : World} {b : Nat} {x : OptV} {t : TypeId} {fz : Nat × Nat} (h : w.heap[b]? = some (.cells (opC x).toArray t fz)) : SlAt w 2 (.slice (some ⟨b, 0, none⟩) 1 1) 1 (opsC [x]) :=
  ⟨_, _, rfl, Nat.le_refl _, by simp, by rw [show opsC [x] = opC x from encL_one _ _, op_len (o := x) trivial], fun _ => ⟨b, 0, _, _, _, rfl, h, by rw [show opsC [x] = opC x from encL_one _ _]; exact sg_all (op_len (o := x) trivial)⟩⟩
end Go.Proofs.YtilgoepokaaleaaGreat
/-! ZK -/
namespace Go.Proofs.YtilgoepokaaleaaGreat
set_option linter.unusedVariables false
set_option linter.unusedSimpArgs false
open Go.RowKit
attribute [local irreducible] OpTo wpListIn Code.wpIn MW Cal
def OkR (x : InsV) : Prop := IsIn x ∧ ins1 x = true
structure InsR (n0 : Nat) (W : World) (v : Value) (l : List InsV) : Prop where
  at_ : SlN n0 W 40 v l.length (insC l)
  ok : ∀ x ∈ l, OkR x
  asc : AscK InsV.to l
theorem wt_time {xs : List Int} {k : Nat} {now : Int} (h0 : 0 ≤ now) (h1 : now ≤ 1099511627776) : isTime (wtV xs k now) = true := by
  unfold wtV isTime
  simp only [Bool.and_eq_true, decide_eq_true_eq]
  repeat' split
  all_goals omega
end Go.Proofs.YtilgoepokaaleaaGreat
/-! ZH -/
namespace Go.Proofs.YtilgoepokaaleaaGreat
set_option linter.unusedVariables false
set_option linter.unusedSimpArgs false
open Go.RowKit
def k5 : OptV := ⟨5, 300⟩
section
variable {t : DstV} {d : DisV} {now til : Int}
end
end Go.Proofs.YtilgoepokaaleaaGreat
/-! ZL -/
namespace Go.Proofs.YtilgoepokaaleaaGreat
set_option linter.unusedVariables false
set_option linter.unusedSimpArgs false
open Go.RowKit
attribute [local irreducible] OpTo wpListIn Code.wpIn MW Cal
theorem Mem.reR {S : List Nat} {W w : World} {l : List (Nat × Obj)} (M : Mem S W w l) (S' : List Nat) (h : ∀ p ∈ l, p.1 ∈ S') : Mem S' w w l := ⟨Ext.refl _ _, M.at_, M.nd, fun p hp => .inl (h p hp)⟩
end Go.Proofs.YtilgoepokaaleaaGreat

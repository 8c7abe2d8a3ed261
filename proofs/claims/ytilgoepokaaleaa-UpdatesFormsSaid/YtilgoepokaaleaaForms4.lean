/-
  Texts joined: LibW, Y5, YA, YB, YC, Y6, LibV, LibX, LibU, Y7, Y8.
-/
import Derived.Test.YtilgoepokaaleaaForms3
import Derived.MapKept
import Derived.Shelf.SlSortCmp.WholeK
import Derived.Shelf.SlSortCmp.NoneTotal
import Derived.Test.YtilgoepokaaleaaProg
/-! LibW -/
namespace Go.Proofs.Ytilgoepokaaleaa
set_option linter.unusedVariables false
set_option linter.unusedSimpArgs false
open Go.RowKit
/-! keys -/
def findA {κ : Type} [DecidableEq κ] (x : κ) : List (κ × Value) → Nat → Option (Nat × Value)
  | [], _ => none
  | p :: m, i => if x = p.1 then some (i, p.2) else findA x m (i + 1)
def getA {κ ν : Type} [DecidableEq κ] (x : κ) : List (κ × ν) → Option ν
  | [] => none
  | p :: m => if x = p.1 then some p.2 else getA x m
def putA {κ ν : Type} [DecidableEq κ] (x : κ) (v : ν) : List (κ × ν) → List (κ × ν)
  | [] => [(x, v)]
  | p :: m => if x = p.1 then (x, v) :: m else p :: putA x v m
section plain
variable {κ ν μ : Type} [DecidableEq κ]
theorem getA_put_same (x : κ) (v : ν) : ∀ m, getA x (putA x v m) = some v
  | [] => by simp [putA, getA]
  | p :: m => by
    unfold putA
    split
    · simp [getA]
    · rename_i h
      simp [getA, h, getA_put_same x v m]
theorem getA_put_other {x y : κ} (h : y ≠ x) (v : ν) : ∀ m, getA y (putA x v m) = getA y m
  | [] => by simp [putA, getA, h]
  | p :: m => by
    unfold putA
    split
    · rename_i h2
      subst h2
      simp [getA, h]
    · simp [getA, getA_put_other h v m]
theorem getA_put (x y : κ) (v : ν) (m : List (κ × ν)) : getA y (putA x v m) = if y = x then some v else getA y m := by
  split
  · rename_i h; subst h; exact getA_put_same _ _ _
  · rename_i h; exact getA_put_other h _ _
theorem getA_map (f : ν → μ) (x : κ) : ∀ m : List (κ × ν), getA x (m.map fun p => (p.1, f p.2)) = (getA x m).map f
  | [] => rfl
  | p :: m => by
    simp only [List.map_cons, getA, getA_map f x m]
    split <;> rfl
theorem putA_map (f : ν → μ) (x : κ) (v : ν) : ∀ m : List (κ × ν), putA x (f v) (m.map fun p => (p.1, f p.2)) = (putA x v m).map fun p => (p.1, f p.2)
  | [] => rfl
  | p :: m => by
    simp only [List.map_cons, putA, putA_map f x v m]
    split <;> rfl
theorem putA_all {p : κ → Prop} {x : κ} {v : ν} (hx : p x) : ∀ {m : List (κ × ν)}, (∀ q ∈ m, p q.1) → ∀ q ∈ putA x v m, p q.1
  | [], _, q, hq => by simp [putA] at hq; subst hq; exact hx
  | r :: m, h, q, hq => by
    unfold putA at hq
    split at hq
    · rcases List.mem_cons.1 hq with rfl | hq
      · exact hx
      · exact h q (List.mem_cons_of_mem _ hq)
    · rcases List.mem_cons.1 hq with rfl | hq
      · exact h _ List.mem_cons_self
      · exact putA_all hx (fun q hq => h q (List.mem_cons_of_mem _ hq)) q hq
theorem findA_get (x : κ) : ∀ (m : List (κ × Value)) (i : Nat), (findA x m i).map (·.2) = getA x m
  | [], _ => rfl
  | p :: m, i => by
    unfold findA getA
    split
    · rfl
    · exact findA_get x m (i + 1)
theorem findA_none {x : κ} {v : Value} : ∀ {m : List (κ × Value)} {i : Nat}, findA x m i = none → putA x v m = m ++ [(x, v)]
  | [], _, _ => rfl
  | p :: m, i, h => by
    unfold findA at h
    split at h
    · cases h
    · rename_i hn
      simp only [putA, hn, if_false, List.cons_append]
      rw [findA_none h]
theorem findA_some {x : κ} {v u : Value} : ∀ {m : List (κ × Value)} {i j : Nat}, findA x m i = some (j, u) → ∃ k, j = i + k ∧ k < m.length ∧ putA x v m = m.set k (x, v) ∧ ∃ y, m[k]? = some (x, y)
  | [], _, _, h => by cases h
  | p :: m, i, j, h => by
    unfold findA at h
    split at h
    · rename_i hx
      simp only [Option.some.injEq, Prod.mk.injEq] at h
      subst hx
      exact ⟨0, by omega, by simp, by simp [putA], p.2, by simp⟩
    · rename_i hn
      obtain ⟨k, e, hk, hp, y, hy⟩ := findA_some (v := v) h
      exact ⟨k + 1, by omega, by simpa using hk, by simp [putA, hn, hp], y, by simpa using hy⟩
end plain
structure KeyLw (P : Program) (k : TypeId) {κ : Type} [DecidableEq κ] (kv : κ → Value) (ok : κ → Prop) : Prop where
  check : ∀ (em : Bool) (w : World) (x : κ), ok x → (Instr.checkKey em 10000 k (kv x)).run P w = .ok () w
  find : ∀ (w : World) (x : κ) (m : List (κ × Value)) (es : List MapEntry), ok x → (∀ p ∈ m, ok p.1) → es.map (fun e => (e.key, e.val)) = m.map (fun p => (kv p.1, p.2)) → (Instr.findKey k (kv x) es).run P w = .ok (findA x m 0) w
  stays : ∀ (w : World) (x : κ), ok x → (Instr.keyThatStays (kv x) (kv x)).run P w = .ok (kv x) w
theorem sameBits_fits : ∀ {ks : List LK} {xs : List Value}, fitsK ks xs = true → ∀ (n : Nat), ((xs.zip xs).all fun (x, y) => Instr.sameBits n x y) = true
  | [], [], _, _ => rfl
  | k :: ks, x :: xs, h, n => by
    simp only [fitsK, Bool.and_eq_true] at h
    simp only [List.zip_cons_cons, List.all_cons, sameBits_fits h.2 n, Bool.and_true]
    cases k <;> cases x <;> simp [fitK] at h <;> cases n <;> simp [Instr.sameBits]
  | [], _ :: _, h, _ => by cases h
  | _ :: _, [], h, _ => by cases h
section
variable {P : Program}
theorem check_leaf (em : Bool) : ∀ (d : Nat) (t : TypeId) (ks : List LK), leafK P d t = some ks → ∀ (e : Nat) (w : World) (xs : List Value), fitsK ks xs = true → (Instr.checkKey em (e + d) t (mkT P t xs)).run P w = .ok () w
  | 0, _, _, h => by simp [leafK] at h
  | d + 1, t, ks, hk => by
    intro e w xs hx
    unfold leafK at hk
    cases hu : P.underlying t with
    | none => simp [hu] at hk
    | some dsc =>
      rw [hu] at hk
      cases dsc with
      | int k =>
        simp at hk; subst hk
        obtain ⟨x, rfl⟩ : ∃ x, xs = [.int k x] := by
          match xs, hx with
          | [.int k' x], h => simp [fitsK, fitK] at h; subst h; exact ⟨x, rfl⟩
          | .int _ _ :: _ :: _, h => simp [fitsK] at h
        simp only [mkT, isAggT, hu, Bool.false_eq_true, if_false, List.headD_cons]
        rw [show e + (d + 1) = (e + d) + 1 by omega]
        simp [Instr.checkKey, run_underlying hu]
      | bool =>
        simp at hk; subst hk
        obtain ⟨x, rfl⟩ : ∃ x, xs = [.bool x] := by
          match xs, hx with
          | [.bool x], _ => exact ⟨x, rfl⟩
        simp only [mkT, isAggT, hu, Bool.false_eq_true, if_false, List.headD_cons]
        rw [show e + (d + 1) = (e + d) + 1 by omega]
        simp [Instr.checkKey, run_underlying hu]
      | array n el =>
        simp only at hk
        cases hke : leafK P d el with
        | none => simp [hke] at hk
        | some ke =>
          rw [hke] at hk
          simp only at hk
          split at hk
          · rename_i hc
            simp only [Option.some.injEq] at hk
            subst hk
            obtain ⟨i, hi⟩ := Option.isSome_iff_exists.1 hc.2
            obtain ⟨lx, fx⟩ := fits_flat _ _ _ hx
            simp only [mkT, isAggT, hu, if_true]
            have hsz : i.size = ke.length := by rw [← hc.1]; simp [Program.cellsOf, hi]
            rw [show e + (d + 1) = (e + d) + 1 by omega, Instr.checkKey]
            simp only [Sem.run_bind, run_underlying hu, Result.andThen_ok]
            simp only [Std.Legacy.Range.forIn_eq_forIn_range', Std.Legacy.Range.size, Nat.sub_zero, Nat.add_one_sub_one, Nat.div_one]
            have each : ∀ j ∈ List.range' 0 n, j < n := fun j hj => by simp [List.mem_range'] at hj; omega
            generalize List.range' 0 n = is at each
            induction is with
            | nil => simp
            | cons j is ih =>
              have hjn := each j (by simp)
              have hmul : j * ke.length + ke.length ≤ n * ke.length := by
                rw [show j * ke.length + ke.length = (j + 1) * ke.length by rw [Nat.add_mul]; omega]
                exact Nat.mul_le_mul_right _ (by omega)
              have p1 := run_part_mk (w := w) hke hc.1 (show j * ke.length + ke.length ≤ xs.length by omega)
              have p2 := check_leaf em d el ke hke e w _ (fx j hjn)
              simp only [List.forIn_cons, Sem.run_bind, _root_.Go.run_sizeOf w hi, hc.1, Result.andThen_ok, p1, p2, Sem.run_pure]
              exact ih (fun y hy => each y (by simp [hy]))
          · cases hk
      | struct fs =>
        simp only at hk
        split at hk
        · cases hk
        · simp only [mkT, isAggT, hu, if_true]
          rw [show e + (d + 1) = (e + d) + 1 by omega, Instr.checkKey]
          simp only [Sem.run_bind, run_underlying hu, Result.andThen_ok]
          rw [← Array.forIn_toList]
          have key : ∀ (l : List Field) (off : Nat) (ks : List LK), leafF P (leafK P d) l off = some ks → fitsK ks (xs.drop off) = true → off ≤ xs.length →
              (∀ f ∈ l, f.name ≠ "_" ∧ ∃ v, (part f.type xs.toArray f.offset).run P w = .ok v w ∧ (Instr.checkKey em (e + d) f.type v).run P w = .ok () w) := by
            intro l
            induction l with
            | nil => intro _ _ _ _ _ f hf; simp at hf
            | cons f l ih =>
              intro off ks hl hx ox g hg
              simp only [leafF] at hl
              split at hl
              · cases hl
              · rename_i hno
                have hname : f.name ≠ "_" := fun h => hno (.inl h)
                have hoff : f.offset = off := Classical.byContradiction fun h => hno (.inr h)
                cases hkf : leafK P d f.type with
                | none => simp [hkf] at hl
                | some kf =>
                  rw [hkf] at hl
                  simp only at hl
                  split at hl
                  · rename_i hc
                    cases hr : leafF P (leafK P d) l (off + kf.length) with
                    | none => simp [hr] at hl
                    | some kr =>
                      simp only [hr, Option.map_some, Option.some.injEq] at hl
                      subst hl
                      obtain ⟨x1, x2⟩ := fitsK_append hx
                      have lx := fitsK_length x1
                      simp only [List.length_take, List.length_drop] at lx
                      rw [List.drop_drop] at x2
                      rcases List.mem_cons.1 hg with rfl | hg
                      · exact ⟨hname, _, by rw [hoff]; exact run_part_mk (w := w) hkf hc (show off + kf.length ≤ xs.length by omega), check_leaf em d g.type kf hkf e w _ x1⟩
                      · exact ih (off + kf.length) kr hr x2 (by omega) g hg
                  · cases hl
          have each := key fs.toList 0 ks hk (by simpa using hx) (Nat.zero_le _)
          generalize fs.toList = L at each
          induction L with
          | nil => simp
          | cons f L ih =>
            obtain ⟨hn, v, p1, p2⟩ := each f (by simp)
            simp only [List.forIn_cons, Sem.run_bind, hn, ne_eq, not_false_eq_true, if_true, Result.andThen_ok, p1, p2, Sem.run_pure]
            exact ih (fun y hy => each y (by simp [hy]))
      | _ => simp at hk
/-- keys that are structs or arrays of integers and bools -/
theorem keyLw_leaf {t : TypeId} {ks : List LK} (ht : eqB P t ks = true) {κ : Type} [DecidableEq κ] {ok : κ → Prop} (ec : κ → List Value) (fit : ∀ x, ok x → fitsK ks (ec x) = true) (eq : ∀ x y, ok x → ok y → eqVs (ec x) (ec y) = decide (x = y)) :
    KeyLw P t (fun x : κ => .agg (ec x).toArray) ok := by
  simp only [eqB, Bool.and_eq_true, decide_eq_true_eq, Bool.not_eq_true'] at ht
  obtain ⟨⟨hl, ha⟩, _⟩ := ht
  refine ⟨fun em w x hx => ?_, fun w x m es hx hm he => ?_, fun w x hx => ?_⟩
  · have := check_leaf em 8 t ks hl 9992 w _ (fit x hx)
    simpa [mkT, ha] using this
  · have hwide : (match P.underlying t with | some (.array _ _) | some (.struct _) => true | _ => false) = true := by
      unfold isAggT at ha
      cases hu : P.underlying t with
      | none => simp [hu] at ha
      | some dd => cases dd <;> simp [hu] at ha ⊢
    have hfind : (Instr.findKey t (.agg (ec x).toArray) es).run P w = (Instr.findAsking t (.agg (ec x).toArray) es).run P w := by
      cases hu : P.underlying t with
      | none => simp [hu] at hwide
      | some kd =>
        cases es with
        | nil => simp [Instr.findKey, run_underlying hu, Instr.findNow, Instr.findAsking]
        | cons e es => cases kd <;> simp [hu] at hwide <;> simp [Instr.findKey, run_underlying hu, Instr.findNow, Instr.sameNow]
    rw [hfind]
    clear hfind
    have key : ∀ (m : List (κ × Value)) (es : List MapEntry) (i : Nat), (∀ p ∈ m, ok p.1) → es.map (fun e => (e.key, e.val)) = m.map (fun p => (Value.agg (ec p.1).toArray, p.2)) → (Instr.findAsking t (.agg (ec x).toArray) es i).run P w = .ok (findA x m i) w := by
      intro m
      induction m with
      | nil =>
        intro es i _ h
        have : es = [] := by simpa using h
        subst this
        simp [Instr.findAsking, findA]
      | cons p m ih =>
        intro es i hm h
        cases es with
        | nil => simp at h
        | cons e es =>
          simp only [List.map_cons, List.cons.injEq, Prod.mk.injEq] at h
          obtain ⟨⟨h1, h2⟩, h3⟩ := h
          have hp := hm p List.mem_cons_self
          have heq := equal_leaf 8 t ks hl 9992 w _ _ (fit x hx) (fit p.1 hp)
          simp only [mkT, ha, if_true, eq x p.1 hx hp] at heq
          simp only [Instr.findAsking, h1, h2, Op.equal, Op.maxDepth, Sem.run_bind, heq, Result.andThen_ok, findA]
          by_cases hxp : x = p.1
          · simp [hxp]
          · simp only [hxp, decide_false, Bool.false_eq_true, if_false]
            exact ih es (i + 1) (fun q hq => hm q (List.mem_cons_of_mem _ hq)) h3
    exact key m es 0 hm he
  · have : Instr.sameBits 10000 (.agg (ec x).toArray) (.agg (ec x).toArray) = true := by
      have := sameBits_fits (fit x hx) 9999
      simp [Instr.sameBits, this]
    simp [Instr.keyThatStays, this]
end
/-! maps in memory -/
def MapAt {κ : Type} (kv : κ → Value) (m : List (κ × Value)) (o : Obj) : Prop := ∃ es clock, o = .map es clock ∧ es.toList.map (fun e => (e.key, e.val)) = m.map fun p => (kv p.1, p.2)
theorem MapAt.empty {κ : Type} (kv : κ → Value) : MapAt kv [] (.map #[] 0) := ⟨#[], 0, rfl, rfl⟩
def MapIn {κ : Type} (w : World) (kv : κ → Value) (v : Value) (m : List (κ × Value)) : Prop := ∃ b o, v = .map (some b) ∧ w.heap[b]? = some o ∧ MapAt kv m o
theorem MapIn.later {κ : Type} {W w : World} {kv : κ → Value} {v : Value} {m : List (κ × Value)} (h : MapIn W kv v m) (E : Ext [] W w) : MapIn w kv v m := by
  obtain ⟨b, o, rfl, hb, h⟩ := h
  exact ⟨b, o, rfl, by rw [E.block b (Array.getElem?_eq_some_iff.1 hb).1 (by simp)]; exact hb, h⟩
/-- a map that the call has made itself -/
def OwnM {κ : Type} (kv : κ → Value) (v : Value) (m : List (κ × Value)) (ent : List (Nat × Obj)) : Prop := ∃ b o, v = .map (some b) ∧ ent = [(b, o)] ∧ MapAt kv m o
def zeroIs (P : Program) (t : TypeId) (z : Value) : Prop := (P.info? t).bind (·.zero) = some z
theorem run_zeroIs {P : Program} {t : TypeId} {z : Value} {w : World} (h : zeroIs P t z) : (zeroValue t).run P w = .ok z w := by
  unfold zeroIs at h
  cases hi : P.info? t with
  | none => simp [hi] at h
  | some i =>
    simp [hi] at h
    simp [zeroValue, typeInfo, hi, h]
section
variable {P : Program} {ρ : Operand → Value} {w W0 : World} {S : List Nat} {l l' : List (Nat × Obj)} {R : Value → World → Prop} {d : Option Tmp} {ty : TypeId} {pos : String} {af : Array Edge} {g : Option (Nat × Bool)}
variable {κ : Type} [DecidableEq κ] {kv : κ → Value} {ok : κ → Prop}
theorem o_makeMap {t k e : TypeId} {x : Operand} {q : IntKind} {n : Int} [ht : TU P t (.map k e)] (M : Mem S W0 w l) (hx : ρ x = .int q n) (h : ∀ b w', Mem S W0 w' ((b, .map #[] 0) :: l) → R (.map (some b)) w') : OpTo P ⟨d, .makeMap t (some x), ty, pos, af, g⟩ ρ w R :=
  OpTo.val (v := .map (some w.heap.size)) (w' := w.alloc (.map #[] 0)) (by simp [execOp, Instr.makeMap, hx, run_underlying ht.h, asInt, asIntOf, Result.andThen]) (h _ _ (M.alloc _))
theorem run_lookup {t k e : TypeId} {v z : Value} {m : List (κ × Value)} {c : Bool} (ht : P.underlying t = some (.map k e)) (K : KeyLw P k kv ok) (hz : zeroIs P e z) (hM : MapIn w kv v m) (hm : ∀ p ∈ m, ok p.1) {x : κ} (hx : ok x) :
    (Instr.lookup t v (kv x) c).run P w = .ok (if c then .tuple #[(getA x m).getD z, .bool (getA x m).isSome] else (getA x m).getD z) w := by
  obtain ⟨b, o, rfl, hb, es, clock, rfl, he⟩ := hM
  have hf := K.find w x m es.toList hx hm he
  rw [← findA_get x m 0]
  cases hr : findA x m 0 with
  | none => simp [Instr.lookup, run_underlying ht, MapKept.run_getObj_map hb, K.check es.isEmpty w x hx, hf, hr, run_zeroIs hz, Result.andThen]
  | some q => simp [Instr.lookup, run_underlying ht, MapKept.run_getObj_map hb, K.check es.isEmpty w x hx, hf, hr, Result.andThen]
theorem o_lookup2 {t k e : TypeId} {x y : Operand} {v z : Value} {m : List (κ × Value)} [ht : TU P t (.map k e)] (K : KeyLw P k kv ok) (hz : zeroIs P e z) (hM : MapIn w kv v m) (hm : ∀ p ∈ m, ok p.1) {a : κ} (ha : ok a) (hx : ρ x = v) (hy : ρ y = kv a)
    (h : R (.tuple [(getA a m).getD z, .bool (getA a m).isSome].toArray) w) : OpTo P ⟨d, .lookup t x y true, ty, pos, af, g⟩ ρ w R :=
  OpTo.val (v := .tuple [(getA a m).getD z, .bool (getA a m).isSome].toArray) (w' := w) (by simp [execOp, hx, hy, run_lookup (c := true) ht.h K hz hM hm ha]) h
theorem run_mapUpdate {t k e : TypeId} {b : Nat} {o : Obj} {u : Value} {m : List (κ × Value)} (ht : P.underlying t = some (.map k e)) (K : KeyLw P k kv ok) (hb : w.heap[b]? = some o) (hA : MapAt kv m o) (hm : ∀ p ∈ m, ok p.1) {x : κ} (hx : ok x) :
    ∃ o', MapAt kv (putA x u m) o' ∧ (Instr.mapUpdate t (.map (some b)) (kv x) u).run P w = .ok () (w.putObj b o') := by
  obtain ⟨es, clock, rfl, he⟩ := hA
  have hf := K.find w x m es.toList hx hm he
  have hlen : es.toList.length = m.length := by simpa using congrArg List.length he
  cases hr : findA x m 0 with
  | none =>
    refine ⟨.map (es.push { key := kv x, val := u, born := clock }) (clock + 1), ⟨_, _, rfl, ?_⟩, ?_⟩
    · rw [findA_none hr]
      simp [he]
    · simp [Instr.mapUpdate, run_underlying ht, MapKept.run_getObj_map hb, K.check false w x hx, hf, hr, MapKept.run_setObj_map _ hb, Result.andThen, World.putObj]
  | some q =>
    obtain ⟨j, y⟩ := q
    obtain ⟨i, e1, hi, hp, y', hy⟩ := findA_some (v := u) hr
    rw [Nat.zero_add] at e1
    subst e1
    have hil : j < es.toList.length := by omega
    have hkey : (es[j]?).map (·.key) = some (kv x) := by
      have h2 : (es.toList.map fun e => (e.key, e.val))[j]? = (m.map fun p => (kv p.1, p.2))[j]? := by rw [he]
      rw [List.getElem?_map, List.getElem?_map, hy] at h2
      simp only [Option.map_some, Option.map_eq_some_iff, Prod.mk.injEq, Array.getElem?_toList] at h2
      obtain ⟨e0, h3, h4, _⟩ := h2
      rw [h3, Option.map_some, h4]
    refine ⟨.map (es.modify j fun e => { e with key := kv x, val := u }) clock, ⟨_, _, rfl, ?_⟩, ?_⟩
    · rw [hp]
      apply List.ext_getElem?
      intro n
      have h2 : (es.toList.map fun e => (e.key, e.val))[n]? = (m.map fun p => (kv p.1, p.2))[n]? := by rw [he]
      rw [List.getElem?_map, List.getElem?_map] at h2
      rw [List.getElem?_map, List.getElem?_map, Array.toList_modify, List.getElem?_modify, List.getElem?_set]
      split
      · rename_i h3
        subst h3
        rw [List.getElem?_eq_getElem hil]
        rfl
      · simpa using h2
    · simp [Instr.mapUpdate, run_underlying ht, MapKept.run_getObj_map hb, K.check false w x hx, hf, hr, hkey, K.stays w x hx, MapKept.run_setObj_map _ hb, Result.andThen, World.putObj]
/-- a store into a map that the call has made itself -/
theorem o_mapUpdate {t k e : TypeId} {x y z : Operand} {v u : Value} {m : List (κ × Value)} {ent : List (Nat × Obj)} {f : List (Nat × Obj) → List (Nat × Obj)} [ht : TU P t (.map k e)] (K : KeyLw P k kv ok) (M : Mem S W0 w l) (hO : OwnM kv v m ent) (hl : TailAt ent l f) (hm : ∀ p ∈ m, ok p.1) {a : κ} (ha : ok a)
    (hx : ρ x = v) (hy : ρ y = kv a) (hz : ρ z = u) (h : ∀ ent' w', OwnM kv v (putA a u m) ent' → Mem S W0 w' (f ent') → R undef w') : OpTo P ⟨d, .mapUpdate t x y z, ty, pos, af, g⟩ ρ w R := by
  obtain ⟨lr, rfl, hf⟩ := hl.spec
  obtain ⟨b, o, rfl, rfl, hA⟩ := hO
  have hb := M.at_ (b, o) (by simp)
  have hlt : b < w.heap.size := (Array.getElem?_eq_some_iff.1 hb).1
  obtain ⟨o', hA', hr⟩ := run_mapUpdate (u := u) ht.h K hb hA hm ha
  refine OpTo.skip (w' := w.putObj b o') (by simp [execOp, hx, hy, hz, hr]) (h [(b, o')] _ ⟨b, o', rfl, rfl, hA'⟩ ?_)
  rw [hf]
  exact M.turned ((Upd.here (l := [])).append lr) (Ext.putObj w b o') (World.putObj_heap_same hlt)
omit [DecidableEq κ] in
theorem OwnM.at_ {v : Value} {m : List (κ × Value)} {ent : List (Nat × Obj)} (h : OwnM kv v m ent) (hb : ∀ p ∈ ent, w.heap[p.1]? = some p.2) : MapIn w kv v m := by
  obtain ⟨b, o, rfl, rfl, hA⟩ := h
  exact ⟨b, o, rfl, hb (b, o) (by simp), hA⟩
end
end Go.Proofs.Ytilgoepokaaleaa
/-! Y5 -/
namespace Go.Proofs.Ytilgoepokaaleaa
set_option linter.unusedVariables false
set_option linter.unusedSimpArgs false
open Go.RowKit
attribute [local irreducible] OpTo wpListIn Code.wpIn MW Cal
def di0 : DisV := ⟨0, 0⟩
def dvV (d : DstV) : Value := .agg (dvC d).toArray
def diV (d : DisV) : Value := .agg (diC d).toArray
theorem getO_take {l : List AdvV} {t : DstV} {i : Nat} (h : ∀ j (hj : j < l.length), j < i → l[j].to ≠ t) (hi : i < l.length) (e : l[i].to = t) : getO l t = some l[i].own := by
  have h1 := List.find?_append (xs := l.take i) (ys := l[i] :: l.drop (i + 1)) (p := fun a => decide (a.to = t))
  rw [List.getElem_cons_drop, List.take_append_drop] at h1
  unfold getO
  rw [h1, List.find?_eq_none.2 ?_]
  · rw [← List.getElem_cons_drop hi, List.find?_cons]
    simp [e]
  · intro x hx
    obtain ⟨j, hj, rfl⟩ := List.mem_iff_getElem.1 hx
    simp only [List.length_take] at hj
    simp only [List.getElem_take, decide_eq_true_eq]
    exact h j (by omega) (by omega)
theorem getO_miss {l : List AdvV} {t : DstV} (h : ∀ j (hj : j < l.length), l[j].to ≠ t) : getO l t = none := by
  rw [getO_none]
  intro a ha
  obtain ⟨j, hj, rfl⟩ := List.mem_iff_getElem.1 ha
  exact h j hj
set_option maxHeartbeats 2000000 in
theorem rget_c (l : List AdvV) (hx : ∀ x ∈ l, IsAv x) (hlen : l.length ≤ 100000) (v : Value) (d : DstV) (hd : IsDv d) (W : World) (hS : SlAt W 37 v l.length (avsC l)) :
    Cal Try.prog 86 [v, .agg (dvC d).toArray].toArray W fun r w' => r = .tuple [diV ((getO l d).getD di0), .bool (getO l d).isSome].toArray ∧ Ext [] W w' := by
  obtain ⟨q, cap, rfl, hcap, hsp, hl, hm⟩ := hS
  have d1 := dv_all hd
  have d2 := dv_len hd
  have d3 := dv_fits hd
  refine fn_ofM (n := 22) [] Try.func86 rfl rfl rfl ?_
  intro a w F M hwW
  refine c_seq ?_
  refine c_region ?_
  (refine stepD rfl F rfl (o_box M (F.ev rfl) rfl ?_); clear F; clear M; intro b3 w M a F)
  (refine stepD rfl F rfl (o_alloc M ?_); clear F; clear M; intro b4 w M a F)
  refine stepD rfl F rfl (o_assign (F.ev rfl) ?_); clear F; clear a; intro a F
  with_reducible refine l_nil ?_
  with_reducible refine q_then ?_
  with_reducible refine c_seq ?_
  with_reducible refine c_seq ?_
  with_reducible refine c_region ?_
  refine stepD rfl F rfl (o_move (F.ev rfl) ?_); clear F; clear a; intro a F
  refine stepD rfl F rfl (o_lenSl (F.ev rfl) ?_); clear F; clear a; intro a F
  refine stepD rfl F rfl (o_move (F.ev rfl) ?_); clear F; clear a; intro a F
  with_reducible refine l_nil ?_
  with_reducible refine q_then ?_
  with_reducible refine c_block ?_
  refine c_loop (fun m a w => ∃ i : Nat, m = l.length - i ∧ i ≤ l.length ∧ (∀ j (hj : j < l.length), j < i → l[j].to ≠ d) ∧ Frm a 22 [] [(10, .int .i64 i), (9, .int .i64 l.length), (8, .slice q l.length cap), (3, .pointer (some ⟨b3, 0, none⟩)), (4, .pointer (some ⟨b4, 0, none⟩)), (5, .bool false)] ∧ Mem [] W w [(b4, .cells [Value.int .u16 0, .int .i64 0].toArray 50 (0, 0)), (b3, .cells (dvC d).toArray 47 (0, 0))]) l.length ⟨0, rfl, by omega, by omega, F.only [10, 9, 8, 3, 4, 5] rfl, M⟩ ?_
  clear F M
  rintro m a w ⟨i, hm', hi, hv, F, M⟩
  by_cases hlt : i < l.length
  · obtain ⟨b, o, cs, t, fz, rfl, hb, hs⟩ := hm (by omega)
    have hxv := hx _ (List.getElem_mem hlt)
    have f1 : seg cs (o + (i : Int).toNat * 37) 37 = some (avC l[i]) := seg_el (avs_len hx) hs hlt (by omega)
    have hget := getO_take hv hlt
    have hne : l[i].to ≠ d → ∀ j (hj : j < l.length), j < i + 1 → l[j].to ≠ d := fun h j hj hj2 => by
      rcases Nat.lt_or_ge j i with h1 | h1
      · exact hv j hj h1
      · obtain rfl : j = i := by omega
        exact h
    obtain ⟨x, hx0⟩ : ∃ x, x = l[i] := ⟨_, rfl⟩
    rw [← hx0] at hxv f1 hget hne
    have f2 : (avC x).length = 37 := av_len hxv
    have f3 := av_to hxv
    have f4 := av_own hxv
    have f6 := dv_fits hxv.1
    have f7 := dv_eq hxv.1 hd
    with_reducible refine c_seq ?_
    with_reducible refine c_region ?_
    refine stepD rfl F rfl (o_lssT (F.ev rfl) (F.ev rfl) (by omega) ?_); clear F; clear a; intro a F
    with_reducible refine l_nil ?_
    with_reducible refine q_then ?_
    with_reducible refine c_seq ?_
    refine c_true F rfl rfl ?_
    with_reducible refine c_skip ?_
    with_reducible refine q_then ?_
    with_reducible refine c_seq ?_
    with_reducible refine c_block ?_
    with_reducible refine c_seq ?_
    with_reducible refine c_region ?_
    refine stepD rfl F rfl (o_indexSl (F.ev rfl) (F.ev rfl) (by omega) (by omega) ?_); clear F; clear a; intro a F
    refine stepD rfl F rfl (o_loadWA M (F.ev rfl) (by assumption) (by first | assumption | rfl) ?_); clear F; clear a; intro a F
    (refine stepD rfl F rfl (o_alloc M ?_); clear F; clear M; intro b7 w M a F)
    skip
    (refine stepN rfl F (o_storeA M (F.ev rfl) (F.ev rfl) (f2) (av_one x)  (by repeat (first | exact .here | apply Has.there))  (put_all (by rw [f2]; rfl)) (by repeat (first | exact .here | apply Upd.there)) ?_); clear F; clear M; intro w M a F)
    with_reducible refine l_nil ?_
    with_reducible refine q_then ?_
    with_reducible refine c_seq ?_
    with_reducible refine c_region ?_
    refine stepD rfl F rfl (o_fieldAddr (F.ev rfl) ?_); clear F; clear a; intro a F
    refine stepD rfl F rfl (o_loadA M (F.ev rfl) (by repeat (first | exact .here | apply Has.there)) (by first | assumption | rfl) ?_); clear F; clear a; intro a F
    refine stepD rfl F rfl (o_loadA M (F.ev rfl) (by repeat (first | exact .here | apply Has.there)) (by first | assumption | rfl) ?_); clear F; clear a; intro a F
    refine stepD rfl F rfl (o_eqlA (F.ev rfl) (F.ev rfl) (by first | assumption | rfl) (by first | assumption | rfl) ?_); clear F; clear a; intro a F
    with_reducible refine l_nil ?_
    with_reducible refine q_then ?_
    by_cases he : x.to = d
    · rw [f7, decide_eq_true he] at F
      rw [hget he]
      refine c_true F rfl rfl ?_
      with_reducible refine c_seq ?_
      with_reducible refine c_region ?_
      refine stepD rfl F rfl (o_fieldAddr (F.ev rfl) ?_); clear F; clear a; intro a F
      refine stepD rfl F rfl (o_loadA M (F.ev rfl) (by repeat (first | exact .here | apply Has.there)) (by first | assumption | rfl) ?_); clear F; clear a; intro a F
      (refine stepN rfl F (o_storeA M (F.ev rfl) (F.ev rfl) (di_len (o := x.own) trivial) (di_one x.own)  (by repeat (first | exact .here | apply Has.there))  (put_all (by rw [di_len (o := x.own) trivial]; rfl)) (by repeat (first | exact .here | apply Upd.there)) ?_); clear F; clear M; intro w M a F)
      refine stepD rfl F rfl (o_assign (F.ev rfl) ?_); clear F; clear a; intro a F
      with_reducible refine l_nil ?_
      with_reducible refine q_then ?_
      with_reducible refine c_ret ?_
      with_reducible refine q_inBR ?_
      with_reducible refine q_thenR ?_
      with_reducible refine q_thenR ?_
      with_reducible refine q_inBR ?_
      with_reducible refine q_thenR ?_
      have e5 : seg (diC x.own) 0 2 = some (diC x.own) := di_all (o := x.own) trivial
      exact p_ret F rfl (.cons (.cell (F.ev rfl) (run_loadVar_agg TAgg.h (M.heap (by repeat (first | exact .here | apply Has.there))) e5)) (.cons (.tmp (F.ev rfl)) .nil)) ⟨rfl, M.ext⟩
    · rw [f7, decide_eq_false he] at F
      refine c_false F rfl rfl ?_
      with_reducible refine c_skip ?_
      with_reducible refine q_inB ?_
      with_reducible refine q_then ?_
      with_reducible refine c_region ?_
      refine stepD rfl F rfl (o_add (F.ev rfl) (F.ev rfl) (w_i64 (by omega) (by omega)) ?_); clear F; clear a; intro a F
      refine stepD rfl F rfl (o_move (F.ev rfl) ?_); clear F; clear a; intro a F
      with_reducible refine l_nil ?_
      with_reducible refine q_then ?_
      exact ⟨_, by omega, i + 1, rfl, by omega, hne he, F.only [10, 9, 8, 3, 4, 5] rfl, M.sub (List.sublist_cons_self _ _)⟩
  · obtain rfl : i = l.length := by omega
    rw [getO_miss (fun j hj => hv j hj hj)]
    with_reducible refine c_seq ?_
    with_reducible refine c_region ?_
    refine stepD rfl F rfl (o_lssF (F.ev rfl) (F.ev rfl) (by omega) ?_); clear F; clear a; intro a F
    with_reducible refine l_nil ?_
    with_reducible refine q_then ?_
    with_reducible refine c_seq ?_
    refine c_false F rfl rfl ?_
    with_reducible refine c_exit ?_
    with_reducible refine q_thenX ?_
    with_reducible refine q_thenX ?_
    with_reducible refine q_inBX ?_
    with_reducible refine q_then ?_
    with_reducible refine c_seq ?_
    with_reducible refine c_region ?_
    refine stepD rfl F rfl (o_build F rfl rfl ?_); clear F; clear a; intro a F
    (refine stepN rfl F (o_storeA M (F.ev rfl) (F.ev rfl) (rfl) (rfl)  (by repeat (first | exact .here | apply Has.there))  (rfl) (by repeat (first | exact .here | apply Upd.there)) ?_); clear F; clear M; intro w M a F)
    refine stepD rfl F rfl (o_assign (F.ev rfl) ?_); clear F; clear a; intro a F
    with_reducible refine l_nil ?_
    with_reducible refine q_then ?_
    with_reducible refine c_ret ?_
    exact p_ret F rfl (.cons (.cell (F.ev rfl) (run_loadVar_agg TAgg.h (M.heap (by repeat (first | exact .here | apply Has.there))) rfl)) (.cons (.tmp (F.ev rfl)) .nil)) ⟨rfl, M.ext⟩
/-! maps keyed by destinations -/
theorem keyD_law : KeyLw Try.prog 47 dvV IsDv := keyLw_leaf (ks := dvK) (by kernel_rfl) dvC (fun _ h => dv_fits h) (fun _ _ h k => dv_eq h k)
def mapD (l : List AdvV) : List (DstV × DisV) := l.foldl (fun m x => putA x.to x.own m) []
def mapV (m : List (DstV × DisV)) : List (DstV × Value) := m.map fun p => (p.1, diV p.2)
theorem mapD_take {l : List AdvV} {i : Nat} (h : i < l.length) : mapD (l.take (i + 1)) = putA l[i].to l[i].own (mapD (l.take i)) := by
  unfold mapD
  rw [List.take_add_one, List.getElem?_eq_getElem h, List.foldl_append]
  rfl
theorem mapD_is {l : List AdvV} (h : ∀ x ∈ l, IsDv x.to) : ∀ p ∈ mapD l, IsDv p.1 := by
  have key : ∀ (l : List AdvV) (m : List (DstV × DisV)), (∀ x ∈ l, IsDv x.to) → (∀ p ∈ m, IsDv p.1) → ∀ p ∈ l.foldl (fun m x => putA x.to x.own m) m, IsDv p.1 := by
    intro l
    induction l with
    | nil => intro m _ hm; exact hm
    | cons x l ih => intro m hl hm; exact ih _ (fun y hy => hl y (List.mem_cons_of_mem _ hy)) (putA_all (hl x List.mem_cons_self) hm)
  exact key l [] h (by simp)
theorem getA_mapD {l : List AdvV} (h : AscA l) (t : DstV) : getA t (mapD l) = getO l t := by
  have key : ∀ (l : List AdvV) (m : List (DstV × DisV)), AscA l → getA t (l.foldl (fun m x => putA x.to x.own m) m) = match getO l t with | some o => some o | none => getA t m := by
    intro l
    induction l with
    | nil => intro m _; rfl
    | cons x l ih =>
      intro m hl
      obtain ⟨h1, h2⟩ := List.pairwise_cons.1 hl
      rw [List.foldl_cons, ih _ h2, getO_cons, getA_put]
      by_cases e : x.to = t
      · subst e
        rw [Lo.ne h1]
        simp
      · rw [if_neg e, if_neg (fun e2 => e e2.symm)]
  have := key l [] h
  rw [mapD, this]
  cases getO l t <;> rfl
theorem mapV_all {m : List (DstV × DisV)} (h : ∀ p ∈ m, IsDv p.1) : ∀ p ∈ mapV m, IsDv p.1 := by
  intro p hp
  obtain ⟨q, hq, rfl⟩ := List.mem_map.1 hp
  exact h q hq
theorem getA_mapV (t : DstV) (m : List (DstV × DisV)) : getA t (mapV m) = (getA t m).map diV := getA_map diV t m
set_option maxHeartbeats 2000000 in
theorem byDest_c (l : List AdvV) (hx : ∀ x ∈ l, IsAv x) (hlen : l.length ≤ 100000) (v : Value) (W : World) (hS : SlAt W 37 v l.length (avsC l)) :
    Cal Try.prog 47 [v].toArray W fun r w' => ∃ ent, OwnM dvV r (mapV (mapD l)) ent ∧ Mem [] W w' ent := by
  obtain ⟨q, cap, rfl, hcap, hsp, hl, hm⟩ := hS
  refine fn_ofM (n := 22) [] Try.func47 rfl rfl rfl ?_
  intro a w F M hwW
  with_reducible refine c_seq ?_
  with_reducible refine c_region ?_
  refine stepD rfl F rfl (o_assign (F.ev rfl) ?_); clear F; clear a; intro a F
  with_reducible refine l_nil ?_
  with_reducible refine q_then ?_
  with_reducible refine c_seq ?_
  with_reducible refine c_region ?_
  refine stepD rfl F rfl (o_move (F.ev rfl) ?_); clear F; clear a; intro a F
  refine stepD rfl F rfl (o_lenSl (F.ev rfl) ?_); clear F; clear a; intro a F
  (refine stepD rfl F rfl (o_makeMap M (F.ev rfl) ?_); clear F; clear M; intro b3 w M a F)
  refine stepD rfl F rfl (o_assign (F.ev rfl) ?_); clear F; clear a; intro a F
  with_reducible refine l_nil ?_
  with_reducible refine q_then ?_
  with_reducible refine c_seq ?_
  with_reducible refine c_seq ?_
  with_reducible refine c_region ?_
  refine stepD rfl F rfl (o_move (F.ev rfl) ?_); clear F; clear a; intro a F
  refine stepD rfl F rfl (o_lenSl (F.ev rfl) ?_); clear F; clear a; intro a F
  refine stepD rfl F rfl (o_move (F.ev rfl) ?_); clear F; clear a; intro a F
  with_reducible refine l_nil ?_
  with_reducible refine q_then ?_
  with_reducible refine c_block ?_
  refine c_loop (fun m a w => ∃ (i : Nat) (u : Value) (ent : List (Nat × Obj)), m = l.length - i ∧ i ≤ l.length ∧ OwnM dvV u (mapV (mapD (l.take i))) ent ∧ Frm a 22 [] [(11, .int .i64 i), (10, .int .i64 l.length), (9, .slice q l.length cap), (3, u)] ∧ Mem [] W w ent) l.length ⟨0, _, _, rfl, by omega, ⟨b3, _, rfl, rfl, MapAt.empty _⟩, F.only [11, 10, 9, 3] rfl, M⟩ ?_
  clear F M
  rintro m a w ⟨i, u, ent, hm', hi, hO, F, M⟩
  by_cases hlt : i < l.length
  · obtain ⟨b, o, cs, t, fz, rfl, hb, hs⟩ := hm (by omega)
    have hxv := hx _ (List.getElem_mem hlt)
    have f1 : seg cs (o + (i : Int).toNat * 37) 37 = some (avC l[i]) := seg_el (avs_len hx) hs hlt (by omega)
    have hmt := mapD_take hlt
    have hall := mapV_all (mapD_is (l := l.take i) fun x h => (hx x (List.mem_of_mem_take h)).1)
    obtain ⟨x, hx0⟩ : ∃ x, x = l[i] := ⟨_, rfl⟩
    rw [← hx0] at hxv f1 hmt
    have f2 : (avC x).length = 37 := av_len hxv
    have f3 := av_to hxv
    have f4 := av_own hxv
    with_reducible refine c_seq ?_
    with_reducible refine c_region ?_
    refine stepD rfl F rfl (o_lssT (F.ev rfl) (F.ev rfl) (by omega) ?_); clear F; clear a; intro a F
    with_reducible refine l_nil ?_
    with_reducible refine q_then ?_
    with_reducible refine c_seq ?_
    refine c_true F rfl rfl ?_
    with_reducible refine c_skip ?_
    with_reducible refine q_then ?_
    with_reducible refine c_seq ?_
    with_reducible refine c_block ?_
    with_reducible refine c_seq ?_
    with_reducible refine c_region ?_
    refine stepD rfl F rfl (o_indexSl (F.ev rfl) (F.ev rfl) (by omega) (by omega) ?_); clear F; clear a; intro a F
    refine stepD rfl F rfl (o_loadWA M (F.ev rfl) (by assumption) (by first | assumption | rfl) ?_); clear F; clear a; intro a F
    (refine stepD rfl F rfl (o_alloc M ?_); clear F; clear M; intro b5 w M a F)
    skip
    (refine stepN rfl F (o_storeA M (F.ev rfl) (F.ev rfl) (f2) (av_one x)  (by repeat (first | exact .here | apply Has.there))  (put_all (by rw [f2]; rfl)) (by repeat (first | exact .here | apply Upd.there)) ?_); clear F; clear M; intro w M a F)
    with_reducible refine l_nil ?_
    with_reducible refine q_then ?_
    with_reducible refine c_region ?_
    refine stepD rfl F rfl (o_move (F.ev rfl) ?_); clear F; clear a; intro a F
    refine stepD rfl F rfl (o_fieldAddr (F.ev rfl) ?_); clear F; clear a; intro a F
    refine stepD rfl F rfl (o_loadA M (F.ev rfl) (by repeat (first | exact .here | apply Has.there)) (by first | assumption | rfl) ?_); clear F; clear a; intro a F
    refine stepD rfl F rfl (o_fieldAddr (F.ev rfl) ?_); clear F; clear a; intro a F
    refine stepD rfl F rfl (o_loadA M (F.ev rfl) (by repeat (first | exact .here | apply Has.there)) (by first | assumption | rfl) ?_); clear F; clear a; intro a F
    (refine stepN rfl F (o_mapUpdate (u := diV x.own) keyD_law M hO (.cons .here) hall (a := x.to) hxv.1 (F.ev rfl) (F.ev rfl) (F.ev rfl) ?_); clear F; clear M; intro ent2 w hO2 M a F)
    with_reducible refine l_nil ?_
    with_reducible refine q_inB ?_
    with_reducible refine q_then ?_
    with_reducible refine c_region ?_
    refine stepD rfl F rfl (o_add (F.ev rfl) (F.ev rfl) (w_i64 (by omega) (by omega)) ?_); clear F; clear a; intro a F
    refine stepD rfl F rfl (o_move (F.ev rfl) ?_); clear F; clear a; intro a F
    with_reducible refine l_nil ?_
    with_reducible refine q_then ?_
    exact ⟨_, by omega, i + 1, u, ent2, rfl, by omega, by rw [hmt]; unfold mapV; rw [← putA_map]; exact hO2, F.only [11, 10, 9, 3] rfl, M.sub (List.sublist_cons_self _ _)⟩
  · obtain rfl : i = l.length := by omega
    rw [List.take_length] at hO
    with_reducible refine c_seq ?_
    with_reducible refine c_region ?_
    refine stepD rfl F rfl (o_lssF (F.ev rfl) (F.ev rfl) (by omega) ?_); clear F; clear a; intro a F
    with_reducible refine l_nil ?_
    with_reducible refine q_then ?_
    with_reducible refine c_seq ?_
    refine c_false F rfl rfl ?_
    with_reducible refine c_exit ?_
    with_reducible refine q_thenX ?_
    with_reducible refine q_thenX ?_
    with_reducible refine q_inBX ?_
    with_reducible refine q_then ?_
    with_reducible refine c_seq ?_
    with_reducible refine c_region ?_
    refine stepD rfl F rfl (o_move (F.ev rfl) ?_); clear F; clear a; intro a F
    refine stepD rfl F rfl (o_assign (F.ev rfl) ?_); clear F; clear a; intro a F
    with_reducible refine l_nil ?_
    with_reducible refine q_then ?_
    with_reducible refine c_ret ?_
    refine p_ret F rfl (.cons (.tmp (F.ev rfl)) .nil) ?_
    exact ⟨ent, hO, M⟩
set_option maxHeartbeats 2000000 in
theorem equalA_c (l : List AdvV) (hx : ∀ x ∈ l, IsAv x) (hlen : l.length ≤ 100000) (u v : Value) (W : World) (hu : SlAt W 37 u l.length (avsC l)) (hv : SlAt W 37 v l.length (avsC l)) :
    Cal Try.prog 19 [u, v].toArray W fun r w' => r = .bool true ∧ Ext [] W w' := by
  obtain ⟨q1, cap1, rfl, hc1, hn1, hl1, hm1⟩ := hu
  obtain ⟨q2, cap2, rfl, hc2, hn2, hl2, hm2⟩ := hv
  refine fn_ofM (n := 26) [] Try.func19 rfl rfl rfl ?_
  intro a w F M hwW
  with_reducible refine c_seq ?_
  with_reducible refine c_region ?_
  refine stepD rfl F rfl (o_assign (F.ev rfl) ?_); clear F; clear a; intro a F
  with_reducible refine l_nil ?_
  with_reducible refine q_then ?_
  with_reducible refine c_seq ?_
  with_reducible refine c_seq ?_
  with_reducible refine c_region ?_
  refine stepD rfl F rfl (o_move (F.ev rfl) ?_); clear F; clear a; intro a F
  refine stepD rfl F rfl (o_lenSl (F.ev rfl) ?_); clear F; clear a; intro a F
  refine stepD rfl F rfl (o_move (F.ev rfl) ?_); clear F; clear a; intro a F
  refine stepD rfl F rfl (o_lenSl (F.ev rfl) ?_); clear F; clear a; intro a F
  refine stepD rfl F rfl (o_neqF (F.ev rfl) (F.ev rfl) (by omega) ?_); clear F; clear a; intro a F
  with_reducible refine l_nil ?_
  with_reducible refine q_then ?_
  refine c_false F rfl rfl ?_
  with_reducible refine c_skip ?_
  with_reducible refine q_then ?_
  with_reducible refine c_seq ?_
  with_reducible refine c_seq ?_
  with_reducible refine c_region ?_
  refine stepD rfl F rfl (o_move (F.ev rfl) ?_); clear F; clear a; intro a F
  refine stepD rfl F rfl (o_lenSl (F.ev rfl) ?_); clear F; clear a; intro a F
  refine stepD rfl F rfl (o_move (F.ev rfl) ?_); clear F; clear a; intro a F
  with_reducible refine l_nil ?_
  with_reducible refine q_then ?_
  with_reducible refine c_block ?_
  refine c_loop (fun m a w => ∃ i : Nat, m = l.length - i ∧ i ≤ l.length ∧ Frm a 26 [] [(13, .int .i64 i), (12, .int .i64 l.length), (0, .slice q1 l.length cap1), (1, .slice q2 l.length cap2)] ∧ Mem [] W w []) l.length ⟨0, rfl, by omega, F.only [13, 12, 0, 1] rfl, M⟩ ?_
  clear F M
  rintro m a w ⟨i, hm', hi, F, M⟩
  by_cases hlt : i < l.length
  · obtain ⟨b, o, cs, t, fz, rfl, hb, hs⟩ := hm1 (by omega)
    obtain ⟨b', o', cs', t', fz', rfl, hb', hs'⟩ := hm2 (by omega)
    obtain ⟨p, hp0⟩ : ∃ p, p = l[i] := ⟨_, rfl⟩
    have hpi : IsAv p := by rw [hp0]; exact hx _ (List.getElem_mem hlt)
    have f1 : seg cs (o + (i : Int).toNat * 37) 37 = some (avC p) := by rw [hp0]; exact seg_el (avs_len hx) hs hlt (by omega)
    have f2 : seg cs' (o' + (i : Int).toNat * 37) 37 = some (avC p) := by rw [hp0]; exact seg_el (avs_len hx) hs' hlt (by omega)
    have f3 := av_fits hpi
    have f4 : eqVs (avC p) (avC p) = true := by rw [av_eq hpi hpi]; simp
    with_reducible refine c_seq ?_
    with_reducible refine c_region ?_
    refine stepD rfl F rfl (o_lssT (F.ev rfl) (F.ev rfl) (by omega) ?_); clear F; clear a; intro a F
    with_reducible refine l_nil ?_
    with_reducible refine q_then ?_
    with_reducible refine c_seq ?_
    refine c_true F rfl rfl ?_
    with_reducible refine c_skip ?_
    with_reducible refine q_then ?_
    with_reducible refine c_seq ?_
    with_reducible refine c_block ?_
    with_reducible refine c_seq ?_
    with_reducible refine c_region ?_
    refine stepD rfl F rfl (o_move (F.ev rfl) ?_); clear F; clear a; intro a F
    refine stepD rfl F rfl (o_assign (F.ev rfl) ?_); clear F; clear a; intro a F
    with_reducible refine l_nil ?_
    with_reducible refine q_then ?_
    with_reducible refine c_seq ?_
    replace F := F.only [13, 12, 0, 1, 5] rfl
    refine c_draw 8 F (by kernel_rfl) ?_
    intro w1 hE hok
    have M1 := M.later hE
    refine mK hok rfl rfl (fun a' w' F' E' => o_move (F'.ev rfl) ⟨Ext.refl _ _, rfl⟩) ?_
    refine mK hok rfl rfl (fun a' w' F' E' => o_move (F'.ev rfl) ⟨Ext.refl _ _, rfl⟩) ?_
    refine mK hok rfl rfl (fun a' w' F' E' => o_indexSl (F'.ev rfl) (F'.ev rfl) (by omega) (by omega) ⟨Ext.refl _ _, rfl⟩) ?_
    refine mK hok rfl rfl (fun a' w' F' E' => o_loadWA (M1.later E') (F'.ev rfl) (by assumption) (by first | assumption | rfl) ⟨Ext.refl _ _, rfl⟩) ?_
    refine mK hok rfl rfl (fun a' w' F' E' => o_move (F'.ev rfl) ⟨Ext.refl _ _, rfl⟩) ?_
    refine mK hok rfl rfl (fun a' w' F' E' => o_move (F'.ev rfl) ⟨Ext.refl _ _, rfl⟩) ?_
    refine mK hok rfl rfl (fun a' w' F' E' => o_indexSl (F'.ev rfl) (F'.ev rfl) (by omega) (by omega) ⟨Ext.refl _ _, rfl⟩) ?_
    refine mK hok rfl rfl (fun a' w' F' E' => o_loadWA (M1.later E') (F'.ev rfl) (by assumption) (by first | assumption | rfl) ⟨Ext.refl _ _, rfl⟩) ?_
    (refine mDone rfl rfl ?_; clear F; clear M; intro a w F hE2 hX hTT hDD hPP; have M := M1.later hE2; clear M1; clear hX; clear hE2; clear hok; clear hE; clear hTT; clear hDD; clear hPP; (try dsimp only at F))
    refine stepD rfl F rfl (o_neqAF (F.ev rfl) (F.ev rfl) (by first | assumption | rfl) (by first | assumption | rfl) (by assumption) ?_); clear F; clear a; intro a F
    with_reducible refine l_nil ?_
    with_reducible refine q_then ?_
    refine c_false F rfl rfl ?_
    with_reducible refine c_skip ?_
    with_reducible refine q_inB ?_
    with_reducible refine q_then ?_
    with_reducible refine c_region ?_
    refine stepD rfl F rfl (o_add (F.ev rfl) (F.ev rfl) (w_i64 (by omega) (by omega)) ?_); clear F; clear a; intro a F
    refine stepD rfl F rfl (o_move (F.ev rfl) ?_); clear F; clear a; intro a F
    with_reducible refine l_nil ?_
    with_reducible refine q_then ?_
    exact ⟨_, by omega, i + 1, rfl, by omega, F.only [13, 12, 0, 1] rfl, M⟩
  · obtain rfl : i = l.length := by omega
    with_reducible refine c_seq ?_
    with_reducible refine c_region ?_
    refine stepD rfl F rfl (o_lssF (F.ev rfl) (F.ev rfl) (by omega) ?_); clear F; clear a; intro a F
    with_reducible refine l_nil ?_
    with_reducible refine q_then ?_
    with_reducible refine c_seq ?_
    refine c_false F rfl rfl ?_
    with_reducible refine c_exit ?_
    with_reducible refine q_thenX ?_
    with_reducible refine q_thenX ?_
    with_reducible refine q_inBX ?_
    with_reducible refine q_then ?_
    with_reducible refine c_seq ?_
    with_reducible refine c_region ?_
    refine stepD rfl F rfl (o_assign (F.ev rfl) ?_); clear F; clear a; intro a F
    with_reducible refine l_nil ?_
    with_reducible refine q_then ?_
    with_reducible refine c_ret ?_
    refine p_ret F rfl (.cons (.tmp (F.ev rfl)) .nil) ?_
    exact ⟨rfl, M.ext⟩
end Go.Proofs.Ytilgoepokaaleaa
/-! YA -/
namespace Go.Proofs.Ytilgoepokaaleaa
set_option linter.unusedVariables false
set_option linter.unusedSimpArgs false
open Go.RowKit
attribute [local irreducible] OpTo wpListIn Code.wpIn MW Cal
theorem seqE_c {bt : Nat} {p : Option Addr} {len cap k : Nat} {xs : List Int} (W : World) (hT : TapeS W bt p len xs) (hb : W.heap[bt]? = some (tobj p len cap k)) :
    Cal Try.prog 82 [.pointer (some ⟨bt, 0, none⟩)].toArray W fun v w' => ∃ x k', v = .int .u16 x ∧ Mem [bt] W w' [(bt, tobj p len cap k')] := by
  refine fn_ofM (n := 7) [bt] Try.func82 rfl rfl rfl ?_
  intro a w F M hwW
  replace M := M.came hwW hb (by simp) (by simp)
  with_reducible refine c_seq ?_
  with_reducible refine c_region ?_
  refine stepD rfl F rfl (o_assign (F.ev rfl) ?_); clear F; clear a; intro a F
  with_reducible refine l_nil ?_
  with_reducible refine q_then ?_
  with_reducible refine c_seq ?_
  with_reducible refine c_region ?_
  refine stepD rfl F rfl (o_move (F.ev rfl) ?_); clear F; clear a; intro a F
  (refine stepD rfl F rfl (o_call (F.ev rfl) (F.evs rfl) (Cal.mono (nextE_c 6 (by omega) (by omega) _ (hT.later M.ext) (M.heap .here) ) ?_)); clear F; clear a; have M0 := M; clear M; rintro _ w ⟨x, k', rfl, hx, N⟩ a F)
  replace M := M0.turn1 N .here
  clear M0 N
  refine stepD rfl F rfl (o_sub (F.ev rfl) (F.ev rfl) (w_i64 (by omega) (by omega)) ?_); clear F; clear a; intro a F
  refine stepD rfl F rfl (o_conv (F.ev rfl) rfl ?_); clear F; clear a; intro a F
  refine stepD rfl F rfl (o_assign (F.ev rfl) ?_); clear F; clear a; intro a F
  with_reducible refine l_nil ?_
  with_reducible refine q_then ?_
  with_reducible refine c_ret ?_
  refine p_ret F rfl (.cons (.tmp (F.ev rfl)) .nil) ?_
  exact ⟨_, k', rfl, M⟩
theorem costE_c {bt : Nat} {p : Option Addr} {len cap k : Nat} {xs : List Int} (W : World) (hT : TapeS W bt p len xs) (hb : W.heap[bt]? = some (tobj p len cap k)) :
    Cal Try.prog 83 [.pointer (some ⟨bt, 0, none⟩)].toArray W fun v w' => ∃ x k', v = .int .i64 x ∧ (0 ≤ x ∧ x ≤ 65534) ∧ Mem [bt] W w' [(bt, tobj p len cap k')] := by
  refine fn_ofM (n := 18) [bt] Try.func83 rfl rfl rfl ?_
  intro a w F M hwW
  replace M := M.came hwW hb (by simp) (by simp)
  with_reducible refine c_seq ?_
  with_reducible refine c_region ?_
  refine stepD rfl F rfl (o_assign (F.ev rfl) ?_); clear F; clear a; intro a F
  with_reducible refine l_nil ?_
  with_reducible refine q_then ?_
  with_reducible refine c_seq ?_
  with_reducible refine c_seq ?_
  with_reducible refine c_region ?_
  refine stepD rfl F rfl (o_move (F.ev rfl) ?_); clear F; clear a; intro a F
  (refine stepD rfl F rfl (o_call (F.ev rfl) (F.evs rfl) (Cal.mono (nextE_c 6 (by omega) (by omega) _ (hT.later M.ext) (M.heap .here) ) ?_)); clear F; clear a; have M0 := M; clear M; rintro _ w ⟨x, k', rfl, hx, N⟩ a F)
  replace M := M0.turn1 N .here
  clear M0 N
  by_cases c1 : x = 0
  · with_reducible refine l_nil ?_
    with_reducible refine q_then ?_
    with_reducible refine c_block ?_
    with_reducible refine c_seq ?_
    with_reducible refine c_region ?_
    refine stepD rfl F rfl (o_eqlT (F.ev rfl) (F.ev rfl) (by omega) ?_); clear F; clear a; intro a F
    refine stepD rfl F rfl (o_assign (F.ev rfl) ?_); clear F; clear a; intro a F
    with_reducible refine l_nil ?_
    with_reducible refine q_then ?_
    refine c_true F rfl rfl ?_
    with_reducible refine c_seq ?_
    with_reducible refine c_region ?_
    refine stepD rfl F rfl (o_move (F.ev rfl) ?_); clear F; clear a; intro a F
    (refine stepD rfl F rfl (o_call (F.ev rfl) (F.evs rfl) (Cal.mono (nextE_c 4 (by omega) (by omega) _ (hT.later M.ext) (M.heap .here) ) ?_)); clear F; clear a; have M0 := M; clear M; rintro _ w ⟨x2, k2, rfl, hx2, N⟩ a F)
    replace M := M0.turn1 N .here
    refine stepD rfl F rfl (o_assign (F.ev rfl) ?_); clear F; clear a; intro a F
    with_reducible refine l_nil ?_
    with_reducible refine q_then ?_
    with_reducible refine c_ret ?_
    with_reducible refine q_inBR ?_
    with_reducible refine q_thenR ?_
    refine p_ret F rfl (.cons (.tmp (F.ev rfl)) .nil) ?_
    exact ⟨_, k2, rfl, by omega, M⟩
  by_cases c2 : x = 1
  · with_reducible refine l_nil ?_
    with_reducible refine q_then ?_
    with_reducible refine c_block ?_
    with_reducible refine c_seq ?_
    with_reducible refine c_region ?_
    refine stepD rfl F rfl (o_eqlF (F.ev rfl) (F.ev rfl) (by omega) ?_); clear F; clear a; intro a F
    refine stepD rfl F rfl (o_assign (F.ev rfl) ?_); clear F; clear a; intro a F
    with_reducible refine l_nil ?_
    with_reducible refine q_then ?_
    refine c_false F rfl rfl ?_
    with_reducible refine c_seq ?_
    with_reducible refine c_region ?_
    refine stepD rfl F rfl (o_eqlT (F.ev rfl) (F.ev rfl) (by omega) ?_); clear F; clear a; intro a F
    refine stepD rfl F rfl (o_assign (F.ev rfl) ?_); clear F; clear a; intro a F
    with_reducible refine l_nil ?_
    with_reducible refine q_then ?_
    refine c_true F rfl rfl ?_
    with_reducible refine c_seq ?_
    with_reducible refine c_region ?_
    refine stepD rfl F rfl (o_move (F.ev rfl) ?_); clear F; clear a; intro a F
    (refine stepD rfl F rfl (o_call (F.ev rfl) (F.evs rfl) (Cal.mono (nextE_c 600 (by omega) (by omega) _ (hT.later M.ext) (M.heap .here) ) ?_)); clear F; clear a; have M0 := M; clear M; rintro _ w ⟨x2, k2, rfl, hx2, N⟩ a F)
    replace M := M0.turn1 N .here
    refine stepD rfl F rfl (o_sub (F.ev rfl) (F.ev rfl) (w_i64 (by omega) (by omega)) ?_); clear F; clear a; intro a F
    refine stepD rfl F rfl (o_assign (F.ev rfl) ?_); clear F; clear a; intro a F
    with_reducible refine l_nil ?_
    with_reducible refine q_then ?_
    with_reducible refine c_ret ?_
    with_reducible refine q_inBR ?_
    with_reducible refine q_thenR ?_
    refine p_ret F rfl (.cons (.tmp (F.ev rfl)) .nil) ?_
    exact ⟨_, k2, rfl, by omega, M⟩
  · with_reducible refine l_nil ?_
    with_reducible refine q_then ?_
    with_reducible refine c_block ?_
    with_reducible refine c_seq ?_
    with_reducible refine c_region ?_
    refine stepD rfl F rfl (o_eqlF (F.ev rfl) (F.ev rfl) (by omega) ?_); clear F; clear a; intro a F
    refine stepD rfl F rfl (o_assign (F.ev rfl) ?_); clear F; clear a; intro a F
    with_reducible refine l_nil ?_
    with_reducible refine q_then ?_
    refine c_false F rfl rfl ?_
    with_reducible refine c_seq ?_
    with_reducible refine c_region ?_
    refine stepD rfl F rfl (o_eqlF (F.ev rfl) (F.ev rfl) (by omega) ?_); clear F; clear a; intro a F
    refine stepD rfl F rfl (o_assign (F.ev rfl) ?_); clear F; clear a; intro a F
    with_reducible refine l_nil ?_
    with_reducible refine q_then ?_
    refine c_false F rfl rfl ?_
    with_reducible refine c_skip ?_
    with_reducible refine q_inB ?_
    with_reducible refine q_then ?_
    with_reducible refine c_seq ?_
    with_reducible refine c_region ?_
    refine stepD rfl F rfl (o_move (F.ev rfl) ?_); clear F; clear a; intro a F
    (refine stepD rfl F rfl (o_call (F.ev rfl) (F.evs rfl) (Cal.mono (nextE_c 30 (by omega) (by omega) _ (hT.later M.ext) (M.heap .here) ) ?_)); clear F; clear a; have M0 := M; clear M; rintro _ w ⟨x2, k2, rfl, hx2, N⟩ a F)
    replace M := M0.turn1 N .here
    refine stepD rfl F rfl (o_mul (F.ev rfl) (F.ev rfl) (w_i64 (by omega) (by omega)) ?_); clear F; clear a; intro a F
    refine stepD rfl F rfl (o_add (F.ev rfl) (F.ev rfl) (w_i64 (by omega) (by omega)) ?_); clear F; clear a; intro a F
    refine stepD rfl F rfl (o_assign (F.ev rfl) ?_); clear F; clear a; intro a F
    with_reducible refine l_nil ?_
    with_reducible refine q_then ?_
    with_reducible refine c_ret ?_
    refine p_ret F rfl (.cons (.tmp (F.ev rfl)) .nil) ?_
    exact ⟨_, k2, rfl, by omega, M⟩
theorem distE_c {bt : Nat} {p : Option Addr} {len cap k : Nat} {xs : List Int} (W : World) (hT : TapeS W bt p len xs) (hb : W.heap[bt]? = some (tobj p len cap k)) :
    Cal Try.prog 40 [.pointer (some ⟨bt, 0, none⟩)].toArray W fun v w' => ∃ x k', v = diV x ∧ (0 ≤ x.met ∧ x.met ≤ 65534) ∧ Mem [bt] W w' [(bt, tobj p len cap k')] := by
  refine fn_ofM (n := 8) [bt] Try.func40 rfl rfl rfl ?_
  intro a w F M hwW
  replace M := M.came hwW hb (by simp) (by simp)
  refine c_seq ?_
  refine c_region ?_
  (refine stepD rfl F rfl (o_alloc M ?_); clear F; clear M; intro b2 w M a F)
  with_reducible refine l_nil ?_
  with_reducible refine q_then ?_
  with_reducible refine c_seq ?_
  with_reducible refine c_region ?_
  refine stepD rfl F rfl (o_move (F.ev rfl) ?_); clear F; clear a; intro a F
  (refine stepD rfl F rfl (o_call (F.ev rfl) (F.evs rfl) (Cal.mono (seqE_c _ (hT.later M.ext) (M.heap (.there .here)) ) ?_)); clear F; clear a; have M0 := M; clear M; rintro _ w ⟨x, k1, rfl, N⟩ a F)
  replace M := M0.turn1 N (.there .here)
  clear M0 N
  refine stepD rfl F rfl (o_move (F.ev rfl) ?_); clear F; clear a; intro a F
  (refine stepD rfl F rfl (o_call (F.ev rfl) (F.evs rfl) (Cal.mono (costE_c _ (hT.later M.ext) (M.heap (.there .here)) ) ?_)); clear F; clear a; have M0 := M; clear M; rintro _ w ⟨y, k2, rfl, hy, N⟩ a F)
  replace M := M0.turn1 N (.there .here)
  clear M0 N
  refine stepD rfl F rfl (o_build F rfl rfl ?_); clear F; clear a; intro a F
  (refine stepN rfl F (o_storeA M (F.ev rfl) (F.ev rfl) (by rfl) (by rfl) (by repeat (first | exact .here | apply Has.there)) (by rfl) (by repeat (first | exact .here | apply Upd.there)) ?_); clear F; clear M; intro w M a F)
  with_reducible refine l_nil ?_
  with_reducible refine q_then ?_
  with_reducible refine c_ret ?_
  exact p_ret F rfl (.cons (.cell (F.ev rfl) (run_loadVar_agg TAgg.h (M.heap (by repeat (first | exact .here | apply Has.there))) rfl)) .nil) ⟨⟨x, y⟩, k2, rfl, hy, M.sub (.cons _ (.refl _))⟩
def tabTo : List Int := [128, 128, 64, 0]
theorem tabTo_bd (i : Nat) : 0 ≤ tabTo.getD i 0 ∧ tabTo.getD i 0 ≤ 128 := by
  rcases Nat.lt_or_ge i 4 with h | h
  · have : ∀ i : Fin 4, 0 ≤ tabTo.getD i.val 0 ∧ tabTo.getD i.val 0 ≤ 128 := by decide
    exact this ⟨i, h⟩
  · rw [List.getD_eq_getElem?_getD, List.getElem?_eq_none (by simpa [tabTo] using h)]
    simp
def zr16 : List Int := [0, 0, 0, 0, 0, 0, 0, 0, 0, 0, 0, 0, 0, 0, 0, 0]
theorem zr16_is : IsIP zr16 := ⟨rfl, by intro x hx; simp [zr16] at hx; omega⟩
theorem dv_buildT {z : List Int} (hz : IsIP z) (n e : Int) : putAll [(0, 17), (17, 17), (34, 1)] dvZ [(0, pfC z n), (2, [.int .u64 e])] = some (dvC ⟨z, n, zr16, 0, e⟩) := by
  obtain ⟨z0, z1, z2, z3, z4, z5, z6, z7, z8, z9, z10, z11, z12, z13, z14, z15, ez⟩ := len16 hz.len
  subst ez
  rfl
theorem zero_valid : validP zr16 0 = true := by decide
set_option maxHeartbeats 1000000 in
theorem toE_c {bt : Nat} {p : Option Addr} {len cap k : Nat} {xs : List Int} (W : World) (hT : TapeS W bt p len xs) (hb : W.heap[bt]? = some (tobj p len cap k)) :
    Cal Try.prog 26 [.pointer (some ⟨bt, 0, none⟩)].toArray W fun v w' => ∃ x k', v = dvV x ∧ IsDv x ∧ validT x = true ∧ Mem [bt] W w' [(bt, tobj p len cap k')] := by
  refine fn_ofM (n := 21) [bt] Try.func26 rfl rfl rfl ?_
  intro a w F M hwW
  replace M := M.came hwW hb (by simp) (by simp)
  refine c_seq ?_
  refine c_region ?_
  (refine stepD rfl F rfl (o_alloc M ?_); clear F; clear M; intro b2 w M a F)
  with_reducible refine l_nil ?_
  with_reducible refine q_then ?_
  with_reducible refine c_seq ?_
  with_reducible refine c_region ?_
  refine stepD rfl F rfl (o_move (F.ev rfl) ?_); clear F; clear a; intro a F
  (refine stepD rfl F rfl (o_call (F.ev rfl) (F.evs rfl) (Cal.mono (wipD_c _ (hT.later M.ext) (M.heap (.there .here)) ) ?_)); clear F; clear a; have M0 := M; clear M; rintro _ w ⟨rfl, N⟩ a F)
  replace M := M0.turn1 N (.there .here)
  clear M0 N
  have hip := wipV_is xs k
  generalize wipV xs k = ip at *
  generalize wipK xs k = k1 at *
  skip
  (refine stepD rfl F rfl (o_buildSlice F M rfl rfl rfl rfl ?_); clear F; clear M; intro b6 w M a F)
  refine stepD rfl F rfl (o_move (F.ev rfl) ?_); clear F; clear a; intro a F
  (refine stepD rfl F rfl (o_call (F.ev rfl) (F.evs rfl) (Cal.mono (next_c 4 (by omega) (by omega) _ (hT.later M.ext) (M.heap (.there (.there .here))) ) ?_)); clear F; clear a; have M0 := M; clear M; rintro _ w ⟨rfl, N⟩ a F)
  replace M := M0.turn1 N (.there (.there .here))
  clear M0 N
  have v1 := nxV_bd xs k1 (n := 4) (by omega)
  have n1 := nth_tab (k := .i64) (xs := tabTo) v1.1 (by simpa [tabTo] using v1.2)
  have hbd := tabTo_bd (nxV xs k1 4).toNat
  (refine stepD rfl F rfl (o_indexSl (F.ev rfl) (F.ev rfl) (by omega) (by omega) ?_); clear F; clear a; intro a F)
  (refine stepD rfl F rfl (o_load1 M (F.ev rfl) (by repeat (first | exact .here | apply Has.there)) (n1) ?_); clear F; clear a; intro a F)
  generalize tabTo.getD (nxV xs k1 4).toNat 0 = n at *
  generalize nxV xs k1 4 = q at *
  generalize nxK xs k1 = k2 at *
  have hcl : clampB n = n := clamp_in hbd.1 hbd.2
  (refine stepD rfl F rfl (o_call (F.ev rfl) (F.evs rfl) (Cal.mono (Cal.to (rmask_c ip hip n _) (by rw [hcl])) ?_)); clear F; clear a; rintro _ w ⟨rfl, hE⟩ a F; replace M := M.later hE; clear hE)
  have hmi := mask_isIP hip n
  have hvm := valid_mask hip hbd.1 hbd.2
  generalize maskI ip n = mip at *
  refine stepD rfl F rfl (o_move (F.ev rfl) ?_); clear F; clear a; intro a F
  (refine stepD rfl F rfl (o_call (F.ev rfl) (F.evs rfl) (Cal.mono (eui_c _ (hT.later M.ext) (M.heap (.there (.there .here))) ) ?_)); clear F; clear a; have M0 := M; clear M; rintro _ w ⟨e, k3, rfl, he, N⟩ a F)
  replace M := M0.turn1 N (.there (.there .here))
  clear M0 N
  have hd : IsDv ⟨mip, n, zr16, 0, e⟩ := ⟨hmi, zr16_is⟩
  (refine stepD rfl F rfl (o_build F rfl (dv_buildT hmi n e) ?_); clear F; clear a; intro a F)
  skip
  (refine stepD rfl F rfl (o_alloc M ?_); clear F; clear M; intro b3 w M a F)
  (refine stepN rfl F (o_storeA M (F.ev rfl) (F.ev rfl) (dv_len hd) (dv_one _)  (by repeat (first | exact .here | apply Has.there))  (put_all (by rw [dv_len hd]; rfl)) (by repeat (first | exact .here | apply Upd.there)) ?_); clear F; clear M; intro w M a F)
  with_reducible refine l_nil ?_
  with_reducible refine q_then ?_
  with_reducible refine c_seq ?_
  with_reducible refine c_seq ?_
  with_reducible refine c_region ?_
  refine stepD rfl F rfl (o_move (F.ev rfl) ?_); clear F; clear a; intro a F
  (refine stepD rfl F rfl (o_call (F.ev rfl) (F.evs rfl) (Cal.mono (boolE_c 3 (by omega) (by omega) _ (hT.later M.ext) (M.heap (.there (.there (.there .here)))) ) ?_)); clear F; clear a; have M0 := M; clear M; rintro _ w ⟨c, k4, rfl, N⟩ a F)
  replace M := M0.turn1 N (.there (.there (.there .here)))
  clear M0 N
  cases c
  · have g0 := dv_all hd
    with_reducible refine l_nil ?_
    with_reducible refine q_then ?_
    refine c_false F rfl rfl ?_
    with_reducible refine c_skip ?_
    with_reducible refine q_then ?_
    with_reducible refine c_seq ?_
    with_reducible refine c_region ?_
    refine stepD rfl F rfl (o_loadA M (F.ev rfl) (by repeat (first | exact .here | apply Has.there)) (by first | assumption | rfl) ?_); clear F; clear a; intro a F
    (refine stepN rfl F (o_storeA M (F.ev rfl) (F.ev rfl) (dv_len hd) (dv_one _)  (by repeat (first | exact .here | apply Has.there))  (put_all (by rw [dv_len hd]; rfl)) (by repeat (first | exact .here | apply Upd.there)) ?_); clear F; clear M; intro w M a F)
    with_reducible refine l_nil ?_
    with_reducible refine q_then ?_
    with_reducible refine c_ret ?_
    exact p_ret F rfl (.cons (.cell (F.ev rfl) (run_loadVar_agg TAgg.h (M.heap (by repeat (first | exact .here | apply Has.there))) g0)) .nil) ⟨_, k4, rfl, hd, by simp [validT, hvm, zero_valid]; omega, M.sub (by repeat (first | exact List.Sublist.refl _ | apply List.Sublist.cons))⟩
  · with_reducible refine l_nil ?_
    with_reducible refine q_then ?_
    refine c_true F rfl rfl ?_
    with_reducible refine c_region ?_
    refine stepD rfl F rfl (o_move (F.ev rfl) ?_); clear F; clear a; intro a F
    (refine stepD rfl F rfl (o_call (F.ev rfl) (F.evs rfl) (Cal.mono (wprefix_c _ (hT.later M.ext) (M.heap (.there (.there (.there .here)))) ) ?_)); clear F; clear a; have M0 := M; clear M; rintro _ w ⟨rfl, N⟩ a F)
    replace M := M0.turn1 N (.there (.there (.there .here)))
    clear M0 N
    have hpi : IsIP (maskI (wpA xs k4) (wpN xs k4)) := mask_isIP (wipV_is _ _) _
    have hpb := wpN_bd xs k4
    have hpv := valid_mask (wipV_is xs (wpK0 xs k4)) hpb.1 hpb.2
    change validP (maskI (wpA xs k4) (wpN xs k4)) (wpN xs k4) = true at hpv
    generalize maskI (wpA xs k4) (wpN xs k4) = sip at *
    generalize wpN xs k4 = sn at *
    generalize wpK xs k4 = k5 at *
    have hd2 : IsDv ⟨mip, n, sip, sn, e⟩ := ⟨hmi, hpi⟩
    have g0 := dv_all hd2
    refine stepD rfl F rfl (o_fieldAddr (F.ev rfl) ?_); clear F; clear a; intro a F
    (refine stepN rfl F (o_storeA M (F.ev rfl) (F.ev rfl) (pfC_len hpi.len sn) (one_pf _ _)  (by repeat (first | exact .here | apply Has.there))  (dv_put_src hd hpi sn) (by repeat (first | exact .here | apply Upd.there)) ?_); clear F; clear M; intro w M a F)
    replace M : Mem [bt] W w [(b3, .cells (dvC ⟨mip, n, sip, sn, e⟩).toArray 47 (0, 0)), (b6, _), (b2, _), (bt, _)] := M
    with_reducible refine l_nil ?_
    with_reducible refine q_then ?_
    with_reducible refine c_seq ?_
    with_reducible refine c_region ?_
    refine stepD rfl F rfl (o_loadA M (F.ev rfl) (by repeat (first | exact .here | apply Has.there)) (by first | assumption | rfl) ?_); clear F; clear a; intro a F
    (refine stepN rfl F (o_storeA M (F.ev rfl) (F.ev rfl) (dv_len hd2) (dv_one _)  (by repeat (first | exact .here | apply Has.there))  (put_all (by rw [dv_len hd2]; rfl)) (by repeat (first | exact .here | apply Upd.there)) ?_); clear F; clear M; intro w M a F)
    with_reducible refine l_nil ?_
    with_reducible refine q_then ?_
    with_reducible refine c_ret ?_
    exact p_ret F rfl (.cons (.cell (F.ev rfl) (run_loadVar_agg TAgg.h (M.heap (by repeat (first | exact .here | apply Has.there))) g0)) .nil) ⟨_, k5, rfl, hd2, by simp [validT, hvm, hpv]; omega, M.sub (by repeat (first | exact List.Sublist.refl _ | apply List.Sublist.cons))⟩
end Go.Proofs.Ytilgoepokaaleaa
/-! YB -/
namespace Go.Proofs.Ytilgoepokaaleaa
set_option linter.unusedVariables false
set_option linter.unusedSimpArgs false
open Go.RowKit
attribute [local irreducible] OpTo wpListIn Code.wpIn MW Cal
/-! slices in new memory -/
def SlN (n0 : Nat) (W : World) (sz : Nat) (v : Value) (n : Nat) (cs : List Value) : Prop := SlAt W sz v n cs ∧ NewV n0 v
section
variable {n0 n1 bt sz n : Nat} {W w : World} {v : Value} {cs : List Value}
theorem SlN.mono (h : SlN n1 W sz v n cs) (hle : n0 ≤ n1) : SlN n0 W sz v n cs := ⟨h.1, fun b o s k c e => Nat.le_trans hle (h.2 b o s k c e)⟩
theorem SlN.notIn (h : SlN n0 W sz v n cs) (hbt : bt < n0) : ∀ b o s k c, v = .slice (some ⟨b, o, s⟩) k c → b ∉ [bt] := fun b o s k c e hb => by
  have := h.2 b o s k c e
  simp only [List.mem_singleton] at hb
  omega
theorem SlN.laterB (h : SlN n0 W sz v n cs) (hbt : bt < n0) (E : Ext [bt] W w) : SlN n0 w sz v n cs := ⟨h.1.laterB (h.notIn hbt) E, h.2⟩
theorem SlN.later (h : SlN n0 W sz v n cs) (E : Ext [] W w) : SlN n0 w sz v n cs := ⟨h.1.later E, h.2⟩
theorem SlN.nil (n0 sz : Nat) (W : World) : SlN n0 W sz (.slice none 0 0) 0 [] := ⟨SlAt.nil _ _, NewV.nil _ _ _⟩
theorem OwnS.slN {e : TypeId} {ent : List (Nat × Obj)} (h : OwnS e sz v n cs ent) {S : List Nat} {W0 : World} {l : List (Nat × Obj)} (M : Mem S W0 w l) (hs : ∀ p ∈ ent, p ∈ l) (hS : ∀ p ∈ ent, p.1 ∉ S) : SlN W0.heap.size w sz v n cs := by
  refine ⟨h.slAt M hs, ?_⟩
  rcases h with ⟨rfl, _, _, rfl⟩ | ⟨b, cap, junk, rfl, rfl, _, _, _⟩
  · exact NewV.nil _ _ _
  · intro b' o s n c h
    cases h
    exact (M.own _ (hs _ List.mem_cons_self)).resolve_left (hS _ List.mem_cons_self)
theorem SlAt.mem {q : Option Addr} {cap : Nat} (h : SlAt W sz (.slice q n cap) n cs) : 0 < n → ∃ b o xs t fz, q = some ⟨b, o, none⟩ ∧ W.heap[b]? = some (.cells (List.toArray xs) t fz) ∧ seg xs o (n * sz) = some cs := by
  obtain ⟨p, cap', e, _, _, _, h5⟩ := h
  cases e
  exact h5
theorem nd_not {b : Nat} {o : Obj} {l ent : List (Nat × Obj)} (h : (((b, o) :: l).map (·.1)).Nodup) (hs : ∀ p ∈ ent, p ∈ l) : ∀ p ∈ ent, p.1 ∉ [b] := fun p hp hb => by
  simp only [List.mem_singleton] at hb
  exact (List.nodup_cons.1 h).1 (List.mem_map.2 ⟨p, hs p hp, hb⟩)
end
/-! PutInstalled, plain -/
def putG (x : InsV) : Bool → List InsV → List InsV
  | done, [] => if done then [] else [x]
  | done, y :: l => (if decide (0 ≤ cmpD y.to x.to) && !done then [x] else []) ++ ((if cmpD y.to x.to = 0 then [] else [y]) ++ putG x (done || decide (0 ≤ cmpD y.to x.to)) l)
theorem putG_cons {x y : InsV} {l : List InsV} {done : Bool} : putG x done (y :: l) = (if decide (0 ≤ cmpD y.to x.to) && !done then [x] else []) ++ ((if cmpD y.to x.to = 0 then [] else [y]) ++ putG x (done || decide (0 ≤ cmpD y.to x.to)) l) := by
  conv => lhs; unfold putG
theorem putG_mem {x : InsV} : ∀ {done : Bool} {l : List InsV} {z : InsV}, z ∈ putG x done l → z = x ∨ z ∈ l
  | done, [], z, h => by
    unfold putG at h
    cases done <;> simp_all
  | done, y :: l, z, h => by
    unfold putG at h
    rcases List.mem_append.1 h with h | h
    · split at h
      · exact .inl (by simpa using h)
      · cases h
    · rcases List.mem_append.1 h with h | h
      · split at h
        · cases h
        · exact .inr (by simp at h; simp [h])
      · exact (putG_mem h).imp_right fun h => List.mem_cons_of_mem _ h
theorem putG_len {x : InsV} : ∀ {done : Bool} {l : List InsV}, (putG x done l).length ≤ l.length + (if done then 0 else 1)
  | done, [] => by
    unfold putG
    cases done <;> simp
  | done, y :: l => by
    rw [putG_cons]
    have := putG_len (x := x) (done := done || decide (0 ≤ cmpD y.to x.to)) (l := l)
    generalize decide (0 ≤ cmpD y.to x.to) = g at *
    have h1 : (if cmpD y.to x.to = 0 then [] else [y]).length ≤ 1 := by split <;> simp
    generalize (if cmpD y.to x.to = 0 then [] else [y]) = ys at *
    rw [List.length_append, List.length_append, List.length_cons]
    cases done <;> cases g <;> simp at this ⊢ <;> omega
theorem putG_done {x : InsV} : ∀ {l : List InsV}, (∀ y ∈ l, cmpD x.to y.to < 0) → putG x true l = l
  | [], _ => rfl
  | y :: l, h => by
    have h1 := h y List.mem_cons_self
    have h2 := cmpD_anti x.to y.to
    rw [putG_cons, Bool.true_or, putG_done fun z hz => h z (List.mem_cons_of_mem _ hz), Bool.not_true, Bool.and_false, if_neg Bool.false_ne_true, if_neg (show ¬ cmpD y.to x.to = 0 by omega)]
    rfl
theorem putG_asc {x : InsV} (hx : IsDv x.to) : ∀ {l : List InsV}, AscK InsV.to l → (∀ y ∈ l, IsDv y.to) → AscK InsV.to (putG x false l)
  | [], _, _ => by
    unfold putG
    exact List.pairwise_singleton _ _
  | y :: l, h, hd => by
    obtain ⟨h1, h2⟩ := List.pairwise_cons.1 h
    have ih := putG_asc hx h2 fun z hz => hd z (List.mem_cons_of_mem _ hz)
    have ha := cmpD_anti y.to x.to
    rw [putG_cons]
    rcases Int.lt_trichotomy (cmpD y.to x.to) 0 with hc | hc | hc
    · rw [decide_eq_false (by omega), if_neg (show ¬ cmpD y.to x.to = 0 by omega)]
      simp only [Bool.false_and, Bool.false_or, Bool.false_eq_true, if_false, List.nil_append, List.cons_append]
      refine List.pairwise_cons.2 ⟨fun z hz => ?_, ih⟩
      rcases putG_mem hz with rfl | hz
      · exact hc
      · exact h1 z hz
    · have e := cmpD_zero (hd y List.mem_cons_self) hx hc
      rw [decide_eq_true (by omega), if_pos hc]
      have hl : ∀ z ∈ l, cmpD x.to z.to < 0 := fun z hz => by rw [← e]; exact h1 z hz
      simp only [Bool.not_false, Bool.true_and, if_true, Bool.or_true, List.nil_append, putG_done hl, List.singleton_append]
      exact List.pairwise_cons.2 ⟨hl, h2⟩
    · rw [decide_eq_true (by omega), if_neg (show ¬ cmpD y.to x.to = 0 by omega)]
      have hl : ∀ z ∈ l, cmpD x.to z.to < 0 := fun z hz => cmpD_trans (show cmpD x.to y.to < 0 by omega) (h1 z hz)
      simp only [Bool.not_false, Bool.true_and, if_true, Bool.or_true, putG_done hl, List.singleton_append]
      refine List.pairwise_cons.2 ⟨fun z hz => ?_, h⟩
      rcases List.mem_cons.1 hz with rfl | hz
      · omega
      · exact hl z hz
set_option maxHeartbeats 4000000 in
theorem put_c (l : List InsV) (hl : ∀ x ∈ l, IsIn x) (x : InsV) (hx : IsIn x) (hlen : l.length ≤ 100000) (v : Value) (W : World) (hS : SlAt W 40 v l.length (insC l)) :
    Cal Try.prog 55 [v, .agg (inC x).toArray].toArray W fun r w' => ∃ ent, OwnS 62 40 r (putG x false l).length (insC (putG x false l)) ent ∧ Mem [] W w' ent := by
  obtain ⟨q, cap, rfl, hcap, hsp, hll, hm⟩ := hS
  have x1 : (inC x).length = 40 := in_len hx
  have x2 := in_all hx
  have x3 := in_to hx
  have hpl := putG_len (x := x) (done := false) (l := l)
  rw [if_neg (by simp)] at hpl
  refine fn_ofM (n := 45) [] Try.func55 rfl rfl rfl ?_
  intro a w F M hwW
  refine c_seq ?_
  refine c_region ?_
  (refine stepD rfl F rfl (o_box M (F.ev rfl) rfl ?_); clear F; clear M; intro b3 w M a F)
  refine stepD rfl F rfl (o_assign (F.ev rfl) ?_); clear F; clear a; intro a F
  with_reducible refine l_nil ?_
  with_reducible refine q_then ?_
  with_reducible refine c_seq ?_
  with_reducible refine c_region ?_
  refine stepD rfl F rfl (o_assign (F.ev rfl) ?_); clear F; clear a; intro a F
  with_reducible refine l_nil ?_
  with_reducible refine q_then ?_
  with_reducible refine c_seq ?_
  with_reducible refine c_region ?_
  refine stepD rfl F rfl (o_assign (F.ev rfl) ?_); clear F; clear a; intro a F
  with_reducible refine l_nil ?_
  with_reducible refine q_then ?_
  with_reducible refine c_seq ?_
  with_reducible refine c_seq ?_
  with_reducible refine c_region ?_
  refine stepD rfl F rfl (o_move (F.ev rfl) ?_); clear F; clear a; intro a F
  refine stepD rfl F rfl (o_lenSl (F.ev rfl) ?_); clear F; clear a; intro a F
  refine stepD rfl F rfl (o_move (F.ev rfl) ?_); clear F; clear a; intro a F
  with_reducible refine l_nil ?_
  with_reducible refine q_then ?_
  with_reducible refine c_block ?_
  obtain ⟨u, hu⟩ : ∃ u, u = Value.slice none 0 0 := ⟨_, rfl⟩
  rw [← hu] at F
  obtain ⟨es, hes⟩ : ∃ es : List (Nat × Obj), es = [] := ⟨_, rfl⟩
  replace M : Mem [] W w ((b3, .cells (inC x).toArray 62 (0, 0)) :: es) := by
    rw [hes]
    exact M
  have hOs : OwnS 62 40 u ([] : List InsV).length (insC []) es := by
    rw [hu, hes]
    exact OwnS.nil _ _
  clear hu hes
  refine c_loop (fun m a w => ∃ (i : Nat) (u : Value) (dn : Bool) (out : List InsV) (es : List (Nat × Obj)), m = l.length - i ∧ i ≤ l.length ∧ out ++ putG x dn (l.drop i) = putG x false l ∧ OwnS 62 40 u out.length (insC out) es ∧ Frm a 45 [] [(12, .int .i64 i), (11, .int .i64 l.length), (10, .slice q l.length cap), (5, u), (6, .bool dn), (3, .pointer (some ⟨b3, 0, none⟩))] ∧ Mem [] W w ((b3, .cells (inC x).toArray 62 (0, 0)) :: es)) l.length ⟨0, u, false, [], es, rfl, by omega, rfl, hOs, F.only [12, 11, 10, 5, 6, 3] rfl, M⟩ ?_
  clear F M a w hOs u es
  rintro m a w ⟨i, u, dn, out, es, hm', hi, hout, hOs, F, M⟩
  have hol : out.length ≤ 100001 := by
    have := congrArg List.length hout
    rw [List.length_append] at this
    omega
  by_cases hlt : i < l.length
  · obtain ⟨b, o, cs, t, fz, rfl, hb, hs⟩ := hm (by omega)
    obtain ⟨y, hy0⟩ : ∃ y, y = l[i] := ⟨_, rfl⟩
    have hyi : IsIn y := by rw [hy0]; exact hl _ (List.getElem_mem hlt)
    have f1 : seg cs (o + (i : Int).toNat * 40) 40 = some (inC y) := by rw [hy0]; exact seg_el (ins_len hl) hs hlt (by omega)
    rw [← List.getElem_cons_drop hlt, ← hy0, putG_cons] at hout
    have f2 : (inC y).length = 40 := in_len hyi
    have f3 := in_to hyi
    have f4 := in_all hyi
    with_reducible refine c_seq ?_
    with_reducible refine c_region ?_
    refine stepD rfl F rfl (o_lssT (F.ev rfl) (F.ev rfl) (by omega) ?_); clear F; clear a; intro a F
    with_reducible refine l_nil ?_
    with_reducible refine q_then ?_
    with_reducible refine c_seq ?_
    refine c_true F rfl rfl ?_
    with_reducible refine c_skip ?_
    with_reducible refine q_then ?_
    with_reducible refine c_seq ?_
    with_reducible refine c_block ?_
    with_reducible refine c_seq ?_
    with_reducible refine c_region ?_
    refine stepD rfl F rfl (o_indexSl (F.ev rfl) (F.ev rfl) (by omega) (by omega) ?_); clear F; clear a; intro a F
    refine stepD rfl F rfl (o_loadWA M (F.ev rfl) (by assumption) (by first | assumption | rfl) ?_); clear F; clear a; intro a F
    (refine stepD rfl F rfl (o_alloc M ?_); clear F; clear M; intro b8 w M a F)
    skip
    (refine stepN rfl F (o_storeA M (F.ev rfl) (F.ev rfl) (f2) (in_one y)  (by repeat (first | exact .here | apply Has.there))  (put_all (by rw [f2]; rfl)) (by repeat (first | exact .here | apply Upd.there)) ?_); clear F; clear M; intro w M a F)
    with_reducible refine l_nil ?_
    with_reducible refine q_then ?_
    with_reducible refine c_seq ?_
    with_reducible refine c_region ?_
    refine stepD rfl F rfl (o_fieldAddr (F.ev rfl) ?_); clear F; clear a; intro a F
    refine stepD rfl F rfl (o_loadA M (F.ev rfl) (by repeat (first | exact .here | apply Has.there)) (by first | assumption | rfl) ?_); clear F; clear a; intro a F
    refine stepD rfl F rfl (o_fieldAddr (F.ev rfl) ?_); clear F; clear a; intro a F
    refine stepD rfl F rfl (o_loadA M (F.ev rfl) (by repeat (first | exact .here | apply Has.there)) (by first | assumption | rfl) ?_); clear F; clear a; intro a F
    (refine stepD rfl F rfl (o_call (F.ev rfl) (F.evs rfl) (Cal.mono (rcompare_c y.to x.to hyi.1 hx.1 _) ?_)); clear F; clear a; rintro _ w ⟨rfl, hE⟩ a F; replace M := M.later hE; clear hE)
    generalize cmpD y.to x.to = cc at *
    refine stepD rfl F rfl (o_assign (F.ev rfl) ?_); clear F; clear a; intro a F
    with_reducible refine l_nil ?_
    refine q_then ?_
    refine c_seq ?_
    refine c_cut (fun a w => ∃ (u : Value) (out2 : List InsV) (es : List (Nat × Obj)), out2 = out ++ (if decide (0 ≤ cc) && !dn then [x] else []) ∧ OwnS 62 40 u out2.length (insC out2) es ∧ Frm a 45 [] [(9, .int .i64 cc), (12, .int .i64 i), (11, .int .i64 l.length), (10, .slice (some ⟨b, o, none⟩) l.length cap), (5, u), (6, .bool (dn || decide (0 ≤ cc))), (3, .pointer (some ⟨b3, 0, none⟩)), (8, .pointer (some ⟨b8, 0, none⟩))] ∧ Mem [] W w ((b8, .cells (inC y).toArray 62 (0, 0)) :: (b3, .cells (inC x).toArray 62 (0, 0)) :: es)) ?_ ?_
    · by_cases hc : 0 ≤ cc
      · rw [decide_eq_true hc]
        cases dn
        · with_reducible refine c_seq ?_
          with_reducible refine c_region ?_
          refine stepD rfl F rfl (o_move (F.ev rfl) ?_); clear F; clear a; intro a F
          refine stepD rfl F rfl (o_geqT (F.ev rfl) (F.ev rfl) (by omega) ?_); clear F; clear a; intro a F
          refine stepD rfl F rfl (o_move (F.ev rfl) ?_); clear F; clear a; intro a F
          refine stepG rfl F rfl rfl rfl (o_move (F.ev rfl) ?_); clear F; clear a; intro a F
          refine stepG rfl F rfl rfl rfl (o_not (F.ev rfl) ?_); clear F; clear a; intro a F
          refine stepD rfl F rfl (o_pickT (F.ev rfl) (F.ev rfl) ?_); clear F; clear a; intro a F
          with_reducible refine l_nil ?_
          with_reducible refine q_then ?_
          refine c_true F rfl rfl ?_
          with_reducible refine c_seq ?_
          with_reducible refine c_region ?_
          refine stepD rfl F rfl (o_move (F.ev rfl) ?_); clear F; clear a; intro a F
          refine stepD rfl F rfl (o_loadA M (F.ev rfl) (by repeat (first | exact .here | apply Has.there)) (by first | assumption | rfl) ?_); clear F; clear a; intro a F
          (refine stepD rfl F rfl (o_buildSlice F M rfl rfl rfl (in_build1 hx) ?_); clear F; clear M; intro bs w M a F)
          (refine stepD rfl F rfl (o_append hOs M (.cons (.cons (.cons .here))) (F.ev rfl) (F.ev rfl) (SrcOf.cells' (M.heap .here) (sg_all (by omega)) (in_one _)) (by omega) (by omega) ?_); clear F; clear M; intro v2 es2 w hO2 M a F)
          refine stepD rfl F rfl (o_assign (F.ev rfl) ?_); clear F; clear a; intro a F
          with_reducible refine l_nil ?_
          with_reducible refine q_then ?_
          with_reducible refine c_region ?_
          refine stepD rfl F rfl (o_assign (F.ev rfl) ?_); clear F; clear a; intro a F
          with_reducible refine l_nil ?_
          exact ⟨v2, _, es2, rfl, by show OwnS _ 40 _ (out ++ [x]).length (encL inC (out ++ [x])) _; rw [show (out ++ [x]).length = out.length + 1 by simp, encL_app, encL_one]; exact hO2, F.only [9, 12, 11, 10, 5, 6, 3, 8] rfl, M.sub (.cons _ (.refl _))⟩
        · with_reducible refine c_seq ?_
          with_reducible refine c_region ?_
          refine stepD rfl F rfl (o_move (F.ev rfl) ?_); clear F; clear a; intro a F
          refine stepD rfl F rfl (o_geqT (F.ev rfl) (F.ev rfl) (by omega) ?_); clear F; clear a; intro a F
          refine stepD rfl F rfl (o_move (F.ev rfl) ?_); clear F; clear a; intro a F
          refine stepG rfl F rfl rfl rfl (o_move (F.ev rfl) ?_); clear F; clear a; intro a F
          refine stepG rfl F rfl rfl rfl (o_not (F.ev rfl) ?_); clear F; clear a; intro a F
          refine stepD rfl F rfl (o_pickT (F.ev rfl) (F.ev rfl) ?_); clear F; clear a; intro a F
          with_reducible refine l_nil ?_
          with_reducible refine q_then ?_
          refine c_false F rfl rfl ?_
          with_reducible refine c_skip ?_
          exact ⟨u, _, es, rfl, by rw [if_neg (by simp), List.append_nil]; exact hOs, F.only [9, 12, 11, 10, 5, 6, 3, 8] rfl, M⟩
      · rw [decide_eq_false hc]
        with_reducible refine c_seq ?_
        with_reducible refine c_region ?_
        refine stepD rfl F rfl (o_move (F.ev rfl) ?_); clear F; clear a; intro a F
        refine stepD rfl F rfl (o_geqF (F.ev rfl) (F.ev rfl) (by omega) ?_); clear F; clear a; intro a F
        refine stepD rfl F rfl (o_move (F.ev rfl) ?_); clear F; clear a; intro a F
        refine stepOff F rfl rfl rfl rfl ?_; clear F; clear a; intro a F
        refine stepOff F rfl rfl rfl rfl ?_; clear F; clear a; intro a F
        refine stepD rfl F rfl (o_pickF (F.ev rfl) (F.ev rfl) ?_); clear F; clear a; intro a F
        with_reducible refine l_nil ?_
        with_reducible refine q_then ?_
        refine c_false F rfl rfl ?_
        with_reducible refine c_skip ?_
        exact ⟨u, _, es, rfl, by rw [if_neg (by simp), List.append_nil]; exact hOs, by rw [Bool.or_false]; exact F.only [9, 12, 11, 10, 5, 6, 3, 8] rfl, M⟩
    clear F M a w hOs u es
    rintro a w ⟨u, out2, es, hout2, hOs, F, M⟩
    rw [← List.append_assoc, ← hout2] at hout
    have hol2 : out2.length ≤ 100001 := by
      have := congrArg List.length hout
      rw [List.length_append] at this
      omega
    generalize (dn || decide (0 ≤ cc)) = dn2 at *
    by_cases hc : cc = 0
    · rw [if_pos hc, List.nil_append] at hout
      with_reducible refine q_then ?_
      with_reducible refine c_seq ?_
      with_reducible refine c_region ?_
      refine stepD rfl F rfl (o_move (F.ev rfl) ?_); clear F; clear a; intro a F
      refine stepD rfl F rfl (o_neqF (F.ev rfl) (F.ev rfl) (by omega) ?_); clear F; clear a; intro a F
      with_reducible refine l_nil ?_
      with_reducible refine q_then ?_
      refine c_false F rfl rfl ?_
      with_reducible refine c_skip ?_
      with_reducible refine q_inB ?_
      with_reducible refine q_then ?_
      with_reducible refine c_region ?_
      refine stepD rfl F rfl (o_add (F.ev rfl) (F.ev rfl) (w_i64 (by omega) (by omega)) ?_); clear F; clear a; intro a F
      refine stepD rfl F rfl (o_move (F.ev rfl) ?_); clear F; clear a; intro a F
      with_reducible refine l_nil ?_
      with_reducible refine q_then ?_
      exact ⟨_, by omega, i + 1, u, dn2, out2, es, rfl, by omega, hout, hOs, F.only [12, 11, 10, 5, 6, 3] rfl, M.sub (.cons _ (.refl _))⟩
    · rw [if_neg hc, ← List.append_assoc] at hout
      with_reducible refine q_then ?_
      with_reducible refine c_seq ?_
      with_reducible refine c_region ?_
      refine stepD rfl F rfl (o_move (F.ev rfl) ?_); clear F; clear a; intro a F
      refine stepD rfl F rfl (o_neqT (F.ev rfl) (F.ev rfl) (by omega) ?_); clear F; clear a; intro a F
      with_reducible refine l_nil ?_
      with_reducible refine q_then ?_
      refine c_true F rfl rfl ?_
      with_reducible refine c_region ?_
      refine stepD rfl F rfl (o_move (F.ev rfl) ?_); clear F; clear a; intro a F
      refine stepD rfl F rfl (o_loadA M (F.ev rfl) (by repeat (first | exact .here | apply Has.there)) (by first | assumption | rfl) ?_); clear F; clear a; intro a F
      (refine stepD rfl F rfl (o_buildSlice F M rfl rfl rfl (in_build1 hyi) ?_); clear F; clear M; intro bs w M a F)
      (refine stepD rfl F rfl (o_append hOs M (.cons (.cons (.cons .here))) (F.ev rfl) (F.ev rfl) (SrcOf.cells' (M.heap .here) (sg_all (by omega)) (in_one _)) (by omega) (by omega) ?_); clear F; clear M; intro v2 es2 w hO2 M a F)
      refine stepD rfl F rfl (o_assign (F.ev rfl) ?_); clear F; clear a; intro a F
      with_reducible refine l_nil ?_
      with_reducible refine q_inB ?_
      with_reducible refine q_then ?_
      with_reducible refine c_region ?_
      refine stepD rfl F rfl (o_add (F.ev rfl) (F.ev rfl) (w_i64 (by omega) (by omega)) ?_); clear F; clear a; intro a F
      refine stepD rfl F rfl (o_move (F.ev rfl) ?_); clear F; clear a; intro a F
      with_reducible refine l_nil ?_
      with_reducible refine q_then ?_
      exact ⟨_, by omega, i + 1, v2, dn2, out2 ++ [y], es2, rfl, by omega, hout, by show OwnS _ 40 _ (out2 ++ [y]).length (encL inC (out2 ++ [y])) _; rw [show (out2 ++ [y]).length = out2.length + 1 by simp, encL_app, encL_one]; exact hO2, F.only [12, 11, 10, 5, 6, 3] rfl, M.sub (.cons _ (.cons _ (.refl _)))⟩
  · obtain rfl : i = l.length := by omega
    rw [List.drop_length] at hout
    cases dn
    · have hout : out ++ [x] = putG x false l := hout
      rw [← hout]
      with_reducible refine c_seq ?_
      with_reducible refine c_region ?_
      refine stepD rfl F rfl (o_lssF (F.ev rfl) (F.ev rfl) (by omega) ?_); clear F; clear a; intro a F
      with_reducible refine l_nil ?_
      with_reducible refine q_then ?_
      with_reducible refine c_seq ?_
      refine c_false F rfl rfl ?_
      with_reducible refine c_exit ?_
      with_reducible refine q_thenX ?_
      with_reducible refine q_thenX ?_
      with_reducible refine q_inBX ?_
      with_reducible refine q_then ?_
      with_reducible refine c_seq ?_
      with_reducible refine c_seq ?_
      with_reducible refine c_region ?_
      refine stepD rfl F rfl (o_move (F.ev rfl) ?_); clear F; clear a; intro a F
      refine stepD rfl F rfl (o_not (F.ev rfl) ?_); clear F; clear a; intro a F
      with_reducible refine l_nil ?_
      with_reducible refine q_then ?_
      refine c_true F rfl rfl ?_
      with_reducible refine c_region ?_
      refine stepD rfl F rfl (o_move (F.ev rfl) ?_); clear F; clear a; intro a F
      refine stepD rfl F rfl (o_loadA M (F.ev rfl) (by repeat (first | exact .here | apply Has.there)) (by first | assumption | rfl) ?_); clear F; clear a; intro a F
      (refine stepD rfl F rfl (o_buildSlice F M rfl rfl rfl (in_build1 hx) ?_); clear F; clear M; intro bs w M a F)
      (refine stepD rfl F rfl (o_append hOs M (.cons (.cons .here)) (F.ev rfl) (F.ev rfl) (SrcOf.cells' (M.heap .here) (sg_all (by omega)) (in_one _)) (by omega) (by omega) ?_); clear F; clear M; intro v2 es2 w hO2 M a F)
      refine stepD rfl F rfl (o_assign (F.ev rfl) ?_); clear F; clear a; intro a F
      with_reducible refine l_nil ?_
      with_reducible refine q_then ?_
      with_reducible refine c_seq ?_
      with_reducible refine c_region ?_
      refine stepD rfl F rfl (o_move (F.ev rfl) ?_); clear F; clear a; intro a F
      refine stepD rfl F rfl (o_assign (F.ev rfl) ?_); clear F; clear a; intro a F
      with_reducible refine l_nil ?_
      with_reducible refine q_then ?_
      with_reducible refine c_ret ?_
      refine p_ret F rfl (.cons (.tmp (F.ev rfl)) .nil) ?_
      exact ⟨es2, by show OwnS _ 40 _ (out ++ [x]).length (encL inC (out ++ [x])) _; rw [show (out ++ [x]).length = out.length + 1 by simp, encL_app, encL_one]; exact hO2, M.sub (.cons _ (.cons _ (.refl _)))⟩
    · have hout : out ++ [] = putG x false l := hout
      rw [List.append_nil] at hout
      rw [← hout]
      with_reducible refine c_seq ?_
      with_reducible refine c_region ?_
      refine stepD rfl F rfl (o_lssF (F.ev rfl) (F.ev rfl) (by omega) ?_); clear F; clear a; intro a F
      with_reducible refine l_nil ?_
      with_reducible refine q_then ?_
      with_reducible refine c_seq ?_
      refine c_false F rfl rfl ?_
      with_reducible refine c_exit ?_
      with_reducible refine q_thenX ?_
      with_reducible refine q_thenX ?_
      with_reducible refine q_inBX ?_
      with_reducible refine q_then ?_
      with_reducible refine c_seq ?_
      with_reducible refine c_seq ?_
      with_reducible refine c_region ?_
      refine stepD rfl F rfl (o_move (F.ev rfl) ?_); clear F; clear a; intro a F
      refine stepD rfl F rfl (o_not (F.ev rfl) ?_); clear F; clear a; intro a F
      with_reducible refine l_nil ?_
      with_reducible refine q_then ?_
      refine c_false F rfl rfl ?_
      with_reducible refine c_skip ?_
      with_reducible refine q_then ?_
      with_reducible refine c_seq ?_
      with_reducible refine c_region ?_
      refine stepD rfl F rfl (o_move (F.ev rfl) ?_); clear F; clear a; intro a F
      refine stepD rfl F rfl (o_assign (F.ev rfl) ?_); clear F; clear a; intro a F
      with_reducible refine l_nil ?_
      with_reducible refine q_then ?_
      with_reducible refine c_ret ?_
      refine p_ret F rfl (.cons (.tmp (F.ev rfl)) .nil) ?_
      exact ⟨es, hOs, M.sub (.cons _ (.refl _))⟩
end Go.Proofs.Ytilgoepokaaleaa
/-! YC -/
namespace Go.Proofs.Ytilgoepokaaleaa
set_option linter.unusedVariables false
set_option linter.unusedSimpArgs false
open Go.RowKit
attribute [local irreducible] OpTo wpListIn Code.wpIn MW Cal
/-- an installed destination off the tape -/
def OkI (x : InsV) : Prop := IsIn x ∧ validT x.to = true ∧ validM x.own.met = true
structure InsO (n0 : Nat) (W : World) (v : Value) (l : List InsV) : Prop where
  at_ : SlN n0 W 40 v l.length (insC l)
  ok : ∀ x ∈ l, OkI x
  asc : AscK InsV.to l
theorem in_buildI {d : DstV} (hd : IsDv d) (e : Int) (o : DisV) : putAll [(0, 35), (35, 1), (36, 2), (38, 1), (39, 1)] inZ [(0, dvC d), (1, [.int .u64 e]), (2, diC o), (3, [.int .i64 (-1)])] = some (inC ⟨d, e, o, -1, 0⟩) := by
  obtain ⟨p1, n1, p2, n2, rt⟩ := d
  obtain ⟨x0, x1, x2, x3, x4, x5, x6, x7, x8, x9, x10, x11, x12, x13, x14, x15, e0⟩ := len16 (show p1.length = 16 from hd.1.len)
  obtain ⟨y0, y1, y2, y3, y4, y5, y6, y7, y8, y9, y10, y11, y12, y13, y14, y15, e1⟩ := len16 (show p2.length = 16 from hd.2.len)
  subst e0
  subst e1
  rfl
theorem validM_of {m : Int} (h : 0 ≤ m ∧ m ≤ 65534) : validM m = true := by
  unfold validM
  rw [decide_eq_true h.1, decide_eq_true (by omega)]
  rfl
set_option maxHeartbeats 4000000 in
theorem installed_c {bt : Nat} {p : Option Addr} {len cap k : Nat} {xs : List Int} (now : Int) (h0 : 0 ≤ now) (h1 : now ≤ 1099511627776) (W : World) (hT : TapeS W bt p len xs) (hb : W.heap[bt]? = some (tobj p len cap k)) :
    Cal Try.prog 25 [.pointer (some ⟨bt, 0, none⟩), .int .i64 now, .slice none 0 0].toArray W fun r w' => ∃ l k', InsO W.heap.size w' r l ∧ l.length ≤ 7 ∧ Mem [bt] W w' [(bt, tobj p len cap k')] := by
  have hbt : bt < W.heap.size := (Array.getElem?_eq_some_iff.1 hb).1
  refine fn_ofM (n := 65) [bt] Try.func25 rfl rfl rfl ?_
  intro a w F M hwW
  replace M := M.came hwW hb (by simp) (by simp)
  with_reducible refine c_seq ?_
  with_reducible refine c_region ?_
  refine stepD rfl F rfl (o_assign (F.ev rfl) ?_); clear F; clear a; intro a F
  with_reducible refine l_nil ?_
  with_reducible refine q_then ?_
  with_reducible refine c_seq ?_
  with_reducible refine c_region ?_
  refine stepD rfl F rfl (o_assign (F.ev rfl) ?_); clear F; clear a; intro a F
  with_reducible refine l_nil ?_
  with_reducible refine q_then ?_
  with_reducible refine c_seq ?_
  with_reducible refine c_seq ?_
  with_reducible refine c_region ?_
  refine stepD rfl F rfl (o_move (F.ev rfl) ?_); clear F; clear a; intro a F
  (refine stepD rfl F rfl (o_call (F.ev rfl) (F.evs rfl) (Cal.mono (next_c 8 (by omega) (by omega) _ (hT.later M.ext) (M.heap .here) ) ?_)); clear F; clear a; have M0 := M; clear M; rintro _ w ⟨rfl, N⟩ a F)
  replace M := M0.turn1 N .here
  clear M0 N
  have v1 := nxV_bd xs k (n := 8) (by omega)
  obtain ⟨c0, hc0⟩ := Int.eq_ofNat_of_zero_le v1.1
  rw [hc0] at F v1
  refine stepD rfl F rfl (o_assign (F.ev rfl) ?_); clear F; clear a; intro a F
  with_reducible refine l_nil ?_
  with_reducible refine q_then ?_
  with_reducible refine c_block ?_
  refine c_loop (fun m a w => ∃ (c : Nat) (x : Int) (l : List InsV) (v : Value) (k : Nat), m = c ∧ x = c ∧ l.length + c ≤ 7 ∧ InsO W.heap.size w v l ∧ Frm a 65 [] [(8, .int .i64 x), (7, v), (0, .pointer (some ⟨bt, 0, none⟩)), (1, .int .i64 now), (2, .slice none 0 0)] ∧ Mem [bt] W w [(bt, tobj p len cap k)]) c0 ⟨c0, _, [], _, nxK xs k, rfl, rfl, by simp; omega, ⟨SlN.nil _ _ _, by simp, .nil⟩, F.only [8, 7, 0, 1, 2] rfl, M⟩ ?_
  clear F M
  rintro m a w ⟨c, x, l, v, kk, hm, hxc, hc5, hO, F, M⟩
  by_cases hlt : 0 < c
  · with_reducible refine c_seq ?_
    with_reducible refine c_seq ?_
    with_reducible refine c_region ?_
    refine stepD rfl F rfl (o_move (F.ev rfl) ?_); clear F; clear a; intro a F
    refine stepD rfl F rfl (o_gtrT (F.ev rfl) (F.ev rfl) (by omega) ?_); clear F; clear a; intro a F
    with_reducible refine l_nil ?_
    with_reducible refine q_then ?_
    refine c_true F rfl rfl ?_
    with_reducible refine c_skip ?_
    with_reducible refine q_then ?_
    with_reducible refine c_seq ?_
    with_reducible refine c_block ?_
    with_reducible refine c_seq ?_
    with_reducible refine c_region ?_
    refine stepD rfl F rfl (o_move (F.ev rfl) ?_); clear F; clear a; intro a F
    (refine stepD rfl F rfl (o_call (F.ev rfl) (F.evs rfl) (Cal.mono (toE_c _ (hT.later M.ext) (M.heap .here) ) ?_)); clear F; clear a; have M0 := M; clear M; rintro _ w ⟨d, k2, rfl, hd, hdv, N⟩ a F)
    replace hO : InsO W.heap.size w v l := ⟨hO.at_.laterB hbt N.ext, hO.ok, hO.asc⟩
    replace M := M0.turn1 N .here
    clear M0 N
    refine stepD rfl F rfl (o_move (F.ev rfl) ?_); clear F; clear a; intro a F
    (refine stepD rfl F rfl (o_call (F.ev rfl) (F.evs rfl) (Cal.mono (eui_c _ (hT.later M.ext) (M.heap .here) ) ?_)); clear F; clear a; have M0 := M; clear M; rintro _ w ⟨e, k3, rfl, he, N⟩ a F)
    replace hO : InsO W.heap.size w v l := ⟨hO.at_.laterB hbt N.ext, hO.ok, hO.asc⟩
    replace M := M0.turn1 N .here
    clear M0 N
    refine stepD rfl F rfl (o_move (F.ev rfl) ?_); clear F; clear a; intro a F
    (refine stepD rfl F rfl (o_call (F.ev rfl) (F.evs rfl) (Cal.mono (distE_c _ (hT.later M.ext) (M.heap .here) ) ?_)); clear F; clear a; have M0 := M; clear M; rintro _ w ⟨o, k4, rfl, ho, N⟩ a F)
    replace hO : InsO W.heap.size w v l := ⟨hO.at_.laterB hbt N.ext, hO.ok, hO.asc⟩
    replace M := M0.turn1 N .here
    clear M0 N
    have E0 := M.ext
    obtain ⟨wb, hwb, M⟩ : ∃ wb, wb = w ∧ Mem [bt] wb w [(bt, tobj p len cap k4)] := ⟨w, rfl, M.re (by simp)⟩
    rw [← hwb] at E0 hO
    clear hwb
    have hTw := hT.later E0
    (refine stepD rfl F rfl (o_build F rfl (in_buildI hd e o) ?_); clear F; clear a; intro a F)
    have hi : IsIn ⟨d, e, o, -1, 0⟩ := ⟨hd, trivial⟩
    have hom := validM_of ho
    (refine stepD rfl F rfl (o_alloc M ?_); clear F; clear M; intro b9 w M a F)
    (refine stepN rfl F (o_storeA M (F.ev rfl) (F.ev rfl) (in_len hi) (in_one _)  (by repeat (first | exact .here | apply Has.there))  (put_all (by rw [in_len hi]; rfl)) (by repeat (first | exact .here | apply Upd.there)) ?_); clear F; clear M; intro w M a F)
    with_reducible refine l_nil ?_
    with_reducible refine q_then ?_
    with_reducible refine c_seq ?_
    with_reducible refine c_seq ?_
    with_reducible refine c_region ?_
    refine stepD rfl F rfl (o_move (F.ev rfl) ?_); clear F; clear a; intro a F
    refine stepD rfl F rfl (o_lenSl (F.ev rfl) ?_); clear F; clear a; intro a F
    refine stepD rfl F rfl (o_gtrF (F.ev rfl) (F.ev rfl) (by omega) ?_); clear F; clear a; intro a F
    refine stepD rfl F rfl (o_move (F.ev rfl) ?_); clear F; clear a; intro a F
    refine stepOff F rfl rfl rfl rfl ?_; clear F; clear a; intro a F
    refine stepOff F rfl rfl rfl rfl ?_; clear F; clear a; intro a F
    refine stepD rfl F rfl (o_pickF (F.ev rfl) (F.ev rfl) ?_); clear F; clear a; intro a F
    with_reducible refine l_nil ?_
    with_reducible refine q_then ?_
    refine c_false F rfl rfl ?_
    with_reducible refine c_skip ?_
    with_reducible refine q_then ?_
    with_reducible refine c_seq ?_
    with_reducible refine c_seq ?_
    with_reducible refine c_region ?_
    refine stepD rfl F rfl (o_move (F.ev rfl) ?_); clear F; clear a; intro a F
    (refine stepD rfl F rfl (o_call (F.ev rfl) (F.evs rfl) (Cal.mono (nextE_c 3 (by omega) (by omega) _ (hTw.later M.ext) (M.heap (.there .here)) ) ?_)); clear F; clear a; have M0 := M; clear M; rintro _ w ⟨q, k5, rfl, hq, N⟩ a F)
    replace M := M0.turn1 N (.there .here)
    clear M0 N
    refine l_nil ?_
    refine q_then ?_
    repeat (with_reducible refine c_seq ?_)
    refine c_cut (fun a w => ∃ (y : InsV) (k : Nat), OkI y ∧ Frm a 65 [] [(9, .pointer (some ⟨b9, 0, none⟩)), (8, .int .i64 x), (7, v), (0, .pointer (some ⟨bt, 0, none⟩)), (1, .int .i64 now), (2, .slice none 0 0)] ∧ Mem [bt] wb w [(b9, .cells (inC y).toArray 62 (0, 0)), (bt, tobj p len cap k)]) ?_ ?_
    · by_cases q0 : q = 0
      · with_reducible refine c_block ?_
        with_reducible refine c_seq ?_
        with_reducible refine c_region ?_
        refine stepD rfl F rfl (o_eqlT (F.ev rfl) (F.ev rfl) (by omega) ?_); clear F; clear a; intro a F
        refine stepD rfl F rfl (o_assign (F.ev rfl) ?_); clear F; clear a; intro a F
        with_reducible refine l_nil ?_
        with_reducible refine q_then ?_
        refine c_true F rfl rfl ?_
        with_reducible refine c_region ?_
        refine stepD rfl F rfl (o_move (F.ev rfl) ?_); clear F; clear a; intro a F
        refine stepD rfl F rfl (o_move (F.ev rfl) ?_); clear F; clear a; intro a F
        (refine stepD rfl F rfl (o_call (F.ev rfl) (F.evs rfl) (Cal.mono (wtime_c now h0 h1 _ (hTw.later M.ext) (M.heap (.there .here)) ) ?_)); clear F; clear a; have M0 := M; clear M; rintro _ w ⟨rfl, N⟩ a F)
        replace M := M0.turn1 N (.there .here)
        clear M0 N
        refine stepD rfl F rfl (o_fieldAddr (F.ev rfl) ?_); clear F; clear a; intro a F
        (refine stepN rfl F (o_store1 M (F.ev rfl) (F.ev rfl) rfl (by repeat (first | exact .here | apply Has.there)) (in_put_btn hi _) (by repeat (first | exact .here | apply Upd.there)) ?_); clear F; clear M; intro w M a F)
        with_reducible refine l_nil ?_
        with_reducible refine q_inB ?_
        exact ⟨⟨d, e, o, wtV xs k5 now, 0⟩, _, ⟨⟨hd, trivial⟩, hdv, hom⟩, F.only [9, 8, 7, 0, 1, 2] rfl, M⟩
      by_cases q1 : q = 1
      · with_reducible refine c_block ?_
        with_reducible refine c_seq ?_
        with_reducible refine c_region ?_
        refine stepD rfl F rfl (o_eqlF (F.ev rfl) (F.ev rfl) (by omega) ?_); clear F; clear a; intro a F
        refine stepD rfl F rfl (o_assign (F.ev rfl) ?_); clear F; clear a; intro a F
        with_reducible refine l_nil ?_
        with_reducible refine q_then ?_
        refine c_false F rfl rfl ?_
        with_reducible refine c_seq ?_
        with_reducible refine c_region ?_
        refine stepD rfl F rfl (o_eqlT (F.ev rfl) (F.ev rfl) (by omega) ?_); clear F; clear a; intro a F
        refine stepD rfl F rfl (o_assign (F.ev rfl) ?_); clear F; clear a; intro a F
        with_reducible refine l_nil ?_
        with_reducible refine q_then ?_
        refine c_true F rfl rfl ?_
        with_reducible refine c_region ?_
        refine stepD rfl F rfl (o_move (F.ev rfl) ?_); clear F; clear a; intro a F
        refine stepD rfl F rfl (o_move (F.ev rfl) ?_); clear F; clear a; intro a F
        (refine stepD rfl F rfl (o_call (F.ev rfl) (F.evs rfl) (Cal.mono (wtime_c now h0 h1 _ (hTw.later M.ext) (M.heap (.there .here)) ) ?_)); clear F; clear a; have M0 := M; clear M; rintro _ w ⟨rfl, N⟩ a F)
        replace M := M0.turn1 N (.there .here)
        clear M0 N
        have hi2 : IsIn ⟨d, 0, o, -1, 0⟩ := ⟨hd, trivial⟩
        have hi3 : IsIn ⟨d, 0, { o with met := 65535 }, -1, 0⟩ := ⟨hd, trivial⟩
        refine stepD rfl F rfl (o_fieldAddr (F.ev rfl) ?_); clear F; clear a; intro a F
        (refine stepN rfl F (o_store1 M (F.ev rfl) (F.ev rfl) rfl (by repeat (first | exact .here | apply Has.there)) (in_put_nb hi 0) (by repeat (first | exact .here | apply Upd.there)) ?_); clear F; clear M; intro w M a F)
        refine stepD rfl F rfl (o_fieldAddr (F.ev rfl) ?_); clear F; clear a; intro a F
        refine stepD rfl F rfl (o_fieldAddr (F.ev rfl) ?_); clear F; clear a; intro a F
        (refine stepN rfl F (o_store1 M (F.ev rfl) (F.ev rfl) rfl (by repeat (first | exact .here | apply Has.there)) (in_put_own_met hi2 65535) (by repeat (first | exact .here | apply Upd.there)) ?_); clear F; clear M; intro w M a F)
        refine stepD rfl F rfl (o_fieldAddr (F.ev rfl) ?_); clear F; clear a; intro a F
        (refine stepN rfl F (o_store1 M (F.ev rfl) (F.ev rfl) rfl (by repeat (first | exact .here | apply Has.there)) (in_put_til hi3 _) (by repeat (first | exact .here | apply Upd.there)) ?_); clear F; clear M; intro w M a F)
        with_reducible refine l_nil ?_
        with_reducible refine q_inB ?_
        exact ⟨⟨d, 0, { o with met := 65535 }, -1, wtV xs k5 now⟩, _, ⟨⟨hd, trivial⟩, hdv, rfl⟩, F.only [9, 8, 7, 0, 1, 2] rfl, M⟩
      · with_reducible refine c_block ?_
        with_reducible refine c_seq ?_
        with_reducible refine c_region ?_
        refine stepD rfl F rfl (o_eqlF (F.ev rfl) (F.ev rfl) (by omega) ?_); clear F; clear a; intro a F
        refine stepD rfl F rfl (o_assign (F.ev rfl) ?_); clear F; clear a; intro a F
        with_reducible refine l_nil ?_
        with_reducible refine q_then ?_
        refine c_false F rfl rfl ?_
        with_reducible refine c_seq ?_
        with_reducible refine c_region ?_
        refine stepD rfl F rfl (o_eqlF (F.ev rfl) (F.ev rfl) (by omega) ?_); clear F; clear a; intro a F
        refine stepD rfl F rfl (o_assign (F.ev rfl) ?_); clear F; clear a; intro a F
        with_reducible refine l_nil ?_
        with_reducible refine q_then ?_
        refine c_false F rfl rfl ?_
        with_reducible refine c_skip ?_
        with_reducible refine q_inB ?_
        exact ⟨_, k5, ⟨hi, hdv, hom⟩, F.only [9, 8, 7, 0, 1, 2] rfl, M⟩
    clear F M a w
    rintro a w ⟨y, k6, hy, F, M⟩
    have hol := putG_len (x := y) (done := false) (l := l)
    rw [if_neg (by simp)] at hol
    have g1 := in_all hy.1
    with_reducible refine q_then ?_
    with_reducible refine c_region ?_
    refine stepD rfl F rfl (o_move (F.ev rfl) ?_); clear F; clear a; intro a F
    refine stepD rfl F rfl (o_loadA M (F.ev rfl) (by repeat (first | exact .here | apply Has.there)) (by first | assumption | rfl) ?_); clear F; clear a; intro a F
    (refine stepD rfl F rfl (o_call (F.ev rfl) (F.evs rfl) (Cal.mono (put_c l (fun z hz => (hO.ok z hz).1) y hy.1 (by omega) v _ (hO.at_.laterB hbt M.ext).1 ) ?_)); clear F; clear a; rintro _ w ⟨ent, hO2, N⟩ a F; replace M := M.joins N; clear N)
    have hnd := (M.perm (l' := (bt, tobj p len cap k6) :: (ent ++ [(b9, .cells (inC y).toArray 62 (0, 0))])) (by classical exact List.perm_iff_count.2 fun _ => by simp only [List.count_append, List.count_cons, List.count_nil, Nat.add_zero, Nat.zero_add] <;> ac_rfl)).nd
    have hO3 := (hO2.slN M (fun q hq => by simp [hq]) (nd_not hnd (fun q hq => by simp [hq]))).mono E0.size
    refine stepD rfl F rfl (o_assign (F.ev rfl) ?_); clear F; clear a; intro a F
    with_reducible refine l_nil ?_
    with_reducible refine q_inB ?_
    with_reducible refine q_then ?_
    with_reducible refine c_region ?_
    refine stepD rfl F rfl (o_move (F.ev rfl) ?_); clear F; clear a; intro a F
    refine stepD rfl F rfl (o_sub (F.ev rfl) (F.ev rfl) (w_i64 (by omega) (by omega)) ?_); clear F; clear a; intro a F
    refine stepD rfl F rfl (o_assign (F.ev rfl) ?_); clear F; clear a; intro a F
    with_reducible refine l_nil ?_
    with_reducible refine q_then ?_
    exact ⟨_, by omega, c - 1, _, putG y false l, _, k6, rfl, by omega, by omega, ⟨hO3, fun z hz => (putG_mem hz).elim (fun e => e ▸ hy) (hO.ok z), putG_asc hy.1.1 hO.asc fun z hz => (hO.ok z hz).1.1⟩, F.only [8, 7, 0, 1, 2] rfl, (M.sub (List.sublist_append_of_sublist_right (.cons _ (.refl _)))).un E0⟩
  · with_reducible refine c_seq ?_
    with_reducible refine c_seq ?_
    with_reducible refine c_region ?_
    refine stepD rfl F rfl (o_move (F.ev rfl) ?_); clear F; clear a; intro a F
    refine stepD rfl F rfl (o_gtrF (F.ev rfl) (F.ev rfl) (by omega) ?_); clear F; clear a; intro a F
    with_reducible refine l_nil ?_
    with_reducible refine q_then ?_
    refine c_false F rfl rfl ?_
    with_reducible refine c_exit ?_
    with_reducible refine q_thenX ?_
    with_reducible refine q_thenX ?_
    with_reducible refine q_inBX ?_
    with_reducible refine q_then ?_
    with_reducible refine c_seq ?_
    with_reducible refine c_region ?_
    refine stepD rfl F rfl (o_move (F.ev rfl) ?_); clear F; clear a; intro a F
    refine stepD rfl F rfl (o_assign (F.ev rfl) ?_); clear F; clear a; intro a F
    with_reducible refine l_nil ?_
    with_reducible refine q_then ?_
    with_reducible refine c_ret ?_
    refine p_ret F rfl (.cons (.tmp (F.ev rfl)) .nil) ?_
    exact ⟨l, kk, hO, by omega, M⟩
def advOf (x : InsV) : AdvV := ⟨x.to, x.own⟩
structure AdvO (n0 : Nat) (W : World) (v : Value) (l : List AdvV) : Prop where
  at_ : SlN n0 W 37 v l.length (avsC l)
  is : ∀ x ∈ l, IsAv x
theorem advOf_valid {l : List InsV} (h : ∀ x ∈ l, OkI x) (ha : AscK InsV.to l) (hn : l.length ≤ 520) : validAs (l.map advOf) = true := by
  refine validAs_iff.2 ⟨by simpa using hn, fun a h2 => ?_, ?_⟩
  · obtain ⟨x, hx, rfl⟩ := List.mem_map.1 h2
    exact ⟨(h x hx).2.1, (h x hx).2.2⟩
  · show List.Pairwise _ (l.map advOf)
    rw [List.pairwise_map]
    exact ha
set_option maxHeartbeats 2000000 in
theorem adverts_c {bt : Nat} {p : Option Addr} {len cap k : Nat} {xs : List Int} (W : World) (hT : TapeS W bt p len xs) (hb : W.heap[bt]? = some (tobj p len cap k)) :
    Cal Try.prog 12 [.pointer (some ⟨bt, 0, none⟩)].toArray W fun r w' => ∃ l k' ent, OwnS 52 37 r l.length (avsC l) ent ∧ (∀ x ∈ l, IsAv x) ∧ l.length ≤ 7 ∧ validAs l = true ∧ Mem [bt] W w' ((bt, tobj p len cap k') :: ent) := by
  have hbt : bt < W.heap.size := (Array.getElem?_eq_some_iff.1 hb).1
  refine fn_ofM (n := 23) [bt] Try.func12 rfl rfl rfl ?_
  intro a w F M hwW
  replace M := M.came hwW hb (by simp) (by simp)
  with_reducible refine c_seq ?_
  with_reducible refine c_region ?_
  refine stepD rfl F rfl (o_assign (F.ev rfl) ?_); clear F; clear a; intro a F
  with_reducible refine l_nil ?_
  with_reducible refine q_then ?_
  with_reducible refine c_seq ?_
  with_reducible refine c_region ?_
  refine stepD rfl F rfl (o_assign (F.ev rfl) ?_); clear F; clear a; intro a F
  with_reducible refine l_nil ?_
  with_reducible refine q_then ?_
  with_reducible refine c_seq ?_
  with_reducible refine c_seq ?_
  with_reducible refine c_region ?_
  refine stepD rfl F rfl (o_move (F.ev rfl) ?_); clear F; clear a; intro a F
  (refine stepD rfl F rfl (o_call (F.ev rfl) (F.evs rfl) (Cal.mono (installed_c 100 (by omega) (by omega) _ (hT.later M.ext) (M.heap .here)) ?_)); clear F; clear a; have M0 := M; clear M; rintro v w ⟨l, k1, hO, hl7, N⟩ a F)
  replace hO := hO.at_.mono M0.ext.size |> fun h => (⟨h, hO.ok, hO.asc⟩ : InsO W.heap.size w v l)
  replace M := M0.turn1 N .here
  clear M0 N
  have E0 := M.ext
  obtain ⟨wb, hwb, M⟩ : ∃ wb, wb = w ∧ Mem [bt] wb w [(bt, tobj p len cap k1)] := ⟨w, rfl, M.re (by simp)⟩
  rw [← hwb] at E0 hO
  clear hwb
  have hbb : bt < wb.heap.size := Nat.lt_of_lt_of_le hbt E0.size
  have hval := advOf_valid hO.ok hO.asc (by omega)
  have hav : ∀ x ∈ l.map advOf, IsAv x := fun x hx => by
    obtain ⟨y, hy, rfl⟩ := List.mem_map.1 hx
    exact (hO.ok y hy).1
  obtain ⟨q, qc, hv, _, _, _, _⟩ := id hO.at_.1
  subst hv
  refine stepD rfl F rfl (o_lenSl (F.ev rfl) ?_); clear F; clear a; intro a F
  refine stepD rfl F rfl (o_move (F.ev rfl) ?_); clear F; clear a; intro a F
  with_reducible refine l_nil ?_
  with_reducible refine q_then ?_
  with_reducible refine c_block ?_
  obtain ⟨u, hu⟩ : ∃ u, u = Value.slice none 0 0 := ⟨_, rfl⟩
  rw [← hu] at F
  obtain ⟨es, hes⟩ : ∃ es : List (Nat × Obj), es = [] := ⟨_, rfl⟩
  replace M : Mem [bt] wb w ((bt, tobj p len cap k1) :: es) := by
    rw [hes]
    exact M
  have hOs : OwnS 52 37 u ((l.map advOf).take 0).length (avsC ((l.map advOf).take 0)) es := by
    rw [hu, hes]
    exact OwnS.nil _ _
  clear hu hes
  refine c_loop (fun m a w => ∃ (i : Nat) (u : Value) (es : List (Nat × Obj)), m = l.length - i ∧ i ≤ l.length ∧ OwnS 52 37 u ((l.map advOf).take i).length (avsC ((l.map advOf).take i)) es ∧ Frm a 23 [] [(9, .int .i64 i), (8, .int .i64 l.length), (7, .slice q l.length qc), (3, u)] ∧ Mem [bt] wb w ((bt, tobj p len cap k1) :: es)) l.length ⟨0, u, es, rfl, by omega, hOs, F.only [9, 8, 7, 3] rfl, M⟩ ?_
  clear F M a hOs u es
  rintro m a w ⟨i, u, es, hm', hi, hOs, F, M⟩
  by_cases hlt : i < l.length
  · obtain ⟨b, o, cs, t, fz, rfl, hbw, hs⟩ := (hO.at_.laterB hbt M.ext).1.mem (by omega)
    have hlen : ((l.map advOf).take i).length ≤ 7 := by
      rw [List.length_take, List.length_map]
      omega
    have htk : (l.map advOf).take (i + 1) = (l.map advOf).take i ++ [advOf l[i]] := by
      rw [List.take_add_one, List.getElem?_eq_getElem (by simpa using hlt), List.getElem_map]
      rfl
    generalize (l.map advOf).take i = out at *
    obtain ⟨y, hy0⟩ : ∃ y, y = l[i] := ⟨_, rfl⟩
    have hyi : IsIn y := by rw [hy0]; exact (hO.ok _ (List.getElem_mem hlt)).1
    have f1 : seg cs (o + (i : Int).toNat * 40) 40 = some (inC y) := by rw [hy0]; exact seg_el (ins_len fun z hz => (hO.ok z hz).1) hs hlt (by omega)
    rw [← hy0] at htk
    have hya : IsAv (advOf y) := hyi
    have f2 : (inC y).length = 40 := in_len hyi
    have f3 := in_to hyi
    have f4 := in_own hyi
    have f5 : (avC (advOf y)).length = 37 := av_len hya
    with_reducible refine c_seq ?_
    with_reducible refine c_region ?_
    refine stepD rfl F rfl (o_lssT (F.ev rfl) (F.ev rfl) (by omega) ?_); clear F; clear a; intro a F
    with_reducible refine l_nil ?_
    with_reducible refine q_then ?_
    with_reducible refine c_seq ?_
    refine c_true F rfl rfl ?_
    with_reducible refine c_skip ?_
    with_reducible refine q_then ?_
    with_reducible refine c_seq ?_
    with_reducible refine c_block ?_
    with_reducible refine c_seq ?_
    with_reducible refine c_region ?_
    refine stepD rfl F rfl (o_indexSl (F.ev rfl) (F.ev rfl) (by omega) (by omega) ?_); clear F; clear a; intro a F
    (refine stepD rfl F rfl (o_load (F.ev rfl) (run_loadVar_agg TAgg.h hbw f1) ?_); clear F; clear a; intro a F)
    (refine stepD rfl F rfl (o_alloc M ?_); clear F; clear M; intro b5 w M a F)
    (refine stepN rfl F (o_storeA M (F.ev rfl) (F.ev rfl) (f2) (in_one y)  (by repeat (first | exact .here | apply Has.there))  (put_all (by rw [f2]; rfl)) (by repeat (first | exact .here | apply Upd.there)) ?_); clear F; clear M; intro w M a F)
    with_reducible refine l_nil ?_
    with_reducible refine q_then ?_
    with_reducible refine c_region ?_
    refine stepD rfl F rfl (o_move (F.ev rfl) ?_); clear F; clear a; intro a F
    refine stepD rfl F rfl (o_fieldAddr (F.ev rfl) ?_); clear F; clear a; intro a F
    refine stepD rfl F rfl (o_loadA M (F.ev rfl) (by repeat (first | exact .here | apply Has.there)) (by first | assumption | rfl) ?_); clear F; clear a; intro a F
    refine stepD rfl F rfl (o_fieldAddr (F.ev rfl) ?_); clear F; clear a; intro a F
    refine stepD rfl F rfl (o_loadA M (F.ev rfl) (by repeat (first | exact .here | apply Has.there)) (by first | assumption | rfl) ?_); clear F; clear a; intro a F
    (refine stepD rfl F rfl (o_build F rfl (av_build (o := advOf y) hya) ?_); clear F; clear a; intro a F)
    (refine stepD rfl F rfl (o_buildSlice F M rfl rfl rfl (av_build1 hya) ?_); clear F; clear M; intro bs w M a F)
    (refine stepD rfl F rfl (o_append hOs M (.cons (.cons (.cons .here))) (F.ev rfl) (F.ev rfl) (SrcOf.cells' (M.heap .here) (sg_all (by omega)) (av_one _)) (by omega) (by omega) ?_); clear F; clear M; intro v2 es2 w hO2 M a F)
    refine stepD rfl F rfl (o_assign (F.ev rfl) ?_); clear F; clear a; intro a F
    with_reducible refine l_nil ?_
    with_reducible refine q_inB ?_
    with_reducible refine q_then ?_
    with_reducible refine c_region ?_
    refine stepD rfl F rfl (o_add (F.ev rfl) (F.ev rfl) (w_i64 (by omega) (by omega)) ?_); clear F; clear a; intro a F
    refine stepD rfl F rfl (o_move (F.ev rfl) ?_); clear F; clear a; intro a F
    with_reducible refine l_nil ?_
    with_reducible refine q_then ?_
    exact ⟨_, by omega, i + 1, v2, es2, rfl, by omega, by rw [htk]; show OwnS _ 37 _ (out ++ [advOf y]).length (encL avC (out ++ [advOf y])) _; rw [show (out ++ [advOf y]).length = out.length + 1 by simp, encL_app, encL_one]; exact hO2, F.only [9, 8, 7, 3] rfl, M.sub (.cons _ (.cons _ (.refl _)))⟩
  · obtain rfl : i = l.length := by omega
    rw [show (l.map advOf).take l.length = l.map advOf by rw [← List.length_map (f := advOf), List.take_length]] at hOs
    with_reducible refine c_seq ?_
    with_reducible refine c_region ?_
    refine stepD rfl F rfl (o_lssF (F.ev rfl) (F.ev rfl) (by omega) ?_); clear F; clear a; intro a F
    with_reducible refine l_nil ?_
    with_reducible refine q_then ?_
    with_reducible refine c_seq ?_
    refine c_false F rfl rfl ?_
    with_reducible refine c_exit ?_
    with_reducible refine q_thenX ?_
    with_reducible refine q_thenX ?_
    with_reducible refine q_inBX ?_
    with_reducible refine q_then ?_
    with_reducible refine c_seq ?_
    with_reducible refine c_region ?_
    refine stepD rfl F rfl (o_move (F.ev rfl) ?_); clear F; clear a; intro a F
    refine stepD rfl F rfl (o_assign (F.ev rfl) ?_); clear F; clear a; intro a F
    with_reducible refine l_nil ?_
    with_reducible refine q_then ?_
    with_reducible refine c_ret ?_
    refine p_ret F rfl (.cons (.tmp (F.ev rfl)) .nil) ?_
    exact ⟨l.map advOf, k1, es, hOs, hav, by simpa using hl7, hval, M.un E0⟩
end Go.Proofs.Ytilgoepokaaleaa
/-! Y6 -/
namespace Go.Proofs.Ytilgoepokaaleaa
set_option linter.unusedVariables false
set_option linter.unusedSimpArgs false
open Go.Shelf
def sortAd_ren : Go.Shelf.Ren := ⟨fun | 6 => 48 | 15 => 91 | 14 => 90 | 28 => 120 | 29 => 121 | 20 => 112 | 21 => 113 | 22 => 114 | 23 => 115 | 24 => 116 | 25 => 117 | 26 => 118 | 27 => 119 | 46 => 132 | 47 => 133 | 48 => 134 | 49 => 135 | 50 => 136 | 57 => 147 | n => n, fun | 22 => 22 | 24 => 52 | 25 => 95 | 3 => 3 | 39 => 102 | 0 => 0 | 53 => 157 | 55 => 44 | 4 => 4 | 46 => 151 | 45 => 150 | 50 => 110 | 5 => 5 | 9 => 9 | 66 => 164 | 70 => 168 | 76 => 177 | 77 => 178 | n => n, fun | n => n⟩
theorem sortAd : Go.Proofs.SlLaysF0.n6 Try.prog sortAd_ren := {
  mixed := by kernel_rfl
  f6 := ⟨Try.f48.name, by decide, Try.func48.trans (congrArg some (by kernel_rfl))⟩
  f14 := ⟨Try.f90.name, by decide, Try.func90.trans (congrArg some (by kernel_rfl))⟩
  f15 := Try.func91.trans (congrArg some (by kernel_rfl))
  f20 := ⟨Try.f112.name, by decide, Try.func112.trans (congrArg some (by kernel_rfl))⟩
  f21 := ⟨Try.f113.name, by decide, Try.func113.trans (congrArg some (by kernel_rfl))⟩
  f22 := ⟨Try.f114.name, by decide, Try.func114.trans (congrArg some (by kernel_rfl))⟩
  f23 := ⟨Try.f115.name, by decide, Try.func115.trans (congrArg some (by kernel_rfl))⟩
  f24 := ⟨Try.f116.name, by decide, Try.func116.trans (congrArg some (by kernel_rfl))⟩
  f25 := ⟨Try.f117.name, by decide, Try.func117.trans (congrArg some (by kernel_rfl))⟩
  f26 := ⟨Try.f118.name, by decide, Try.func118.trans (congrArg some (by kernel_rfl))⟩
  f27 := ⟨Try.f119.name, by decide, Try.func119.trans (congrArg some (by kernel_rfl))⟩
  f28 := Try.func120.trans (congrArg some (by kernel_rfl))
  f29 := Try.func121.trans (congrArg some (by kernel_rfl))
  f46 := ⟨Try.f132.name, by decide, Try.func132.trans (congrArg some (by kernel_rfl))⟩
  f47 := Try.func133.trans (congrArg some (by kernel_rfl))
  f48 := Try.func134.trans (congrArg some (by kernel_rfl))
  f49 := ⟨Try.f135.name, by decide, Try.func135.trans (congrArg some (by kernel_rfl))⟩
  f50 := ⟨Try.f136.name, by decide, Try.func136.trans (congrArg some (by kernel_rfl))⟩
  f57 := ⟨Try.f147.name, by decide, Try.func147.trans (congrArg some (by kernel_rfl))⟩
  t0 := Try.underlying0
  a0 := Try.isAgg0
  z0 := Try.sizeOf0
  v0 := Try.zeroValue0
  t3 := Try.underlying3
  a3 := Try.isAgg3
  z3 := Try.sizeOf3
  v3 := Try.zeroValue3
  t4 := Try.underlying4
  a4 := Try.isAgg4
  z4 := Try.sizeOf4
  v4 := Try.zeroValue4
  t5 := Try.underlying5
  a5 := Try.isAgg5
  z5 := Try.sizeOf5
  v5 := Try.zeroValue5
  t9 := Try.underlying9
  a9 := Try.isAgg9
  z9 := Try.sizeOf9
  v9 := Try.zeroValue9
  t22 := Try.underlying22
  a22 := Try.isAgg22
  z22 := Try.sizeOf22
  v22 := Try.zeroValue22
  t25 := Try.underlying95
  a25 := Try.isAgg95
  z25 := Try.sizeOf95
  v25 := Try.zeroValue95
  t39 := Try.underlying102
  a39 := Try.isAgg102
  z39 := Try.sizeOf102
  v39 := Try.zeroValue102
  t45 := Try.underlying150
  a45 := Try.isAgg150
  z45 := Try.sizeOf150
  v45 := Try.zeroValue150
  t46 := Try.underlying151
  a46 := Try.isAgg151
  z46 := Try.sizeOf151
  v46 := Try.zeroValue151
  t50 := Try.underlying110
  a50 := Try.isAgg110
  z50 := Try.sizeOf110
  v50 := Try.zeroValue110
  t53 := Try.underlying157
  a53 := Try.isAgg157
  z53 := Try.sizeOf157
  v53 := Try.zeroValue157
  t55 := Try.underlying44
  a55 := Try.isAgg44
  z55 := Try.sizeOf44
  v55 := Try.zeroValue44
  t66 := Try.underlying164
  a66 := Try.isAgg164
  z66 := Try.sizeOf164
  v66 := Try.zeroValue164
  t70 := Try.underlying168
  a70 := Try.isAgg168
  z70 := Try.sizeOf168
  v70 := Try.zeroValue168
  t76 := Try.underlying177
  a76 := Try.isAgg177
  z76 := Try.sizeOf177
  v76 := Try.zeroValue177
  t77 := Try.underlying178
  a77 := Try.isAgg178
  z77 := Try.sizeOf178
  v77 := Try.zeroValue178 }
end Go.Proofs.Ytilgoepokaaleaa
/-! LibV -/
namespace Go.Proofs.Ytilgoepokaaleaa
set_option linter.unusedVariables false
set_option linter.unusedSimpArgs false
open Go.RowKit
/-- a block that such an append may turn -/
def Chg (w : World) (k : Nat) : Prop := ∃ cs t, w.heap[k]? = some (.cells cs t (0, 0)) ∧ 20 < cs.size
structure BigE (n0 : Nat) (w w' : World) : Prop where
  os : w'.os = w.os
  tape : w'.tape = w.tape
  output : w'.output = w.output
  size : w.heap.size ≤ w'.heap.size
  dr : w.drawn ≤ w'.drawn
  block : ∀ k, k < w.heap.size → (k < n0 ∨ ¬ Chg w k) → w'.heap[k]? = w.heap[k]?
theorem BigE.of_ext {n0 : Nat} {w w' : World} (h : Ext [] w w') : BigE n0 w w' := ⟨h.os, h.tape, h.output, h.size, h.dr, fun k hk _ => h.block k hk (by simp)⟩
theorem BigE.trans {n0 : Nat} {a b c : World} (h : BigE n0 a b) (k : BigE n0 b c) : BigE n0 a c :=
  ⟨k.os.trans h.os, k.tape.trans h.tape, k.output.trans h.output, Nat.le_trans h.size k.size, Nat.le_trans h.dr k.dr, fun i hi hc => by
    have h1 := h.block i hi hc
    rw [k.block i (Nat.lt_of_lt_of_le hi h.size) (hc.imp_right fun hn hx => hn (by
      obtain ⟨cs, t, e, hs⟩ := hx
      exact ⟨cs, t, by rw [← h1]; exact e, hs⟩)), h1]⟩
theorem BigE.ext {w w' : World} (h : BigE w.heap.size w w') : Ext [] w w' := ⟨h.os, h.tape, h.output, h.size, h.dr, fun k hk _ => h.block k hk (.inl hk)⟩
section
variable {P : Program} {ρ : Operand → Value} {w W0 : World} {S : List Nat} {l l' : List (Nat × Obj)} {R : Value → World → Prop} {d : Option Tmp} {ty : TypeId} {pos : String} {af : Array Edge} {g : Option (Nat × Bool)}
end
end Go.Proofs.Ytilgoepokaaleaa
/-! LibX -/
namespace Go.Proofs.Ytilgoepokaaleaa
set_option linter.unusedVariables false
set_option linter.unusedSimpArgs false
open Go.RowKit
section
variable {P : Program} {ρ : Operand → Value} {w W0 : World} {S : List Nat} {l l' : List (Nat × Obj)} {R : Value → World → Prop} {d : Option Tmp} {ty : TypeId} {pos : String} {af : Array Edge} {g : Option (Nat × Bool)}
/-- a slice compared with nil -/
theorem o_eqlNil {t t' e : TypeId} {x y : Operand} {p : Option Addr} {n c : Nat} (hx : ρ x = .slice p n c) (hy : ρ y = .slice none 0 0) [ht : TU P t (.slice e)] (h : R (.bool p.isNone) w) : OpTo P ⟨d, .binOp .eql t x y t', ty, pos, af, g⟩ ρ w R := by
  have hr0 : ∀ k : Nat, (Op.equalIn (k + 1) t (.slice p n c) (.slice none 0 0)).run P w = .ok p.isNone w := fun k => by
    cases p <;> simp [Op.equalIn, run_underlying ht.h]
  have hr := hr0 9999
  exact OpTo.val (v := .bool p.isNone) (w' := w) (by simp [execOp, eqGuard, binOp, Op.equal, Op.maxDepth, hx, hy, hr]) h
/-- append of nothing -/
theorem o_append0 {st xt e : TypeId} {x y : Operand} {sz by_ b n cap : Nat} {xv : Value} [hst : TU P st (.slice e)] [hel : TEl P e sz by_] [hxt : TNI P xt] (hx : ρ x = .slice (some ⟨b, 0, none⟩) n cap) (hy : ρ y = xv) (hnc : n ≤ cap) (hX : SrcOf P w xv 0 sz [])
    (h : R (.slice (some ⟨b, 0, none⟩) n cap) w) : OpTo P ⟨d, .call ⟨.builtin .append, #[x, y], #[st, xt]⟩, ty, pos, af, g⟩ ρ w R := by
  obtain ⟨i, z, hi, rfl, rfl, hz, hzs⟩ := elB_spec hel.h
  have hrun := run_append_room' (tyy := ty) (b := b) (n := n) (cap := cap) (w' := w) hst.h hi (notInt_spec hxt.h) hX.len (by omega) (hX.cells w.drawn) (by simp [storeCells])
  exact OpTo.val (v := .slice (some ⟨b, 0, none⟩) (n + 0) cap) (w' := w) (by simp [execOp, resolve, invoke, builtin, hx, hy, hrun]) h
end
end Go.Proofs.Ytilgoepokaaleaa
/-! LibU -/
namespace Go.Proofs.Ytilgoepokaaleaa
set_option linter.unusedVariables false
set_option linter.unusedSimpArgs false
open Go.RowKit Go.Sort Go.Shelf
theorem ext_grow {w w' : World} (h : Ext [] w w') : ∃ q os', w' = grow (w.drewN q) os' := by
  refine ⟨w'.drawn - w.drawn, w'.heap.extract w.heap.size w'.heap.size, ?_⟩
  obtain ⟨hp, tp, dr, os, ou⟩ := w'
  obtain ⟨h1, h2, h3, h4, h5, h6⟩ := h
  simp only at h1 h2 h3 h4 h5 h6
  subst h1 h2 h3
  simp only [grow, World.drewN]
  congr 1
  · apply Array.ext'
    apply List.ext_getElem?
    intro i
    simp only [Array.getElem?_toList]
    rcases Nat.lt_or_ge i w.heap.size with h | h
    · rw [Array.getElem?_append_left h]
      exact h6 i h (by simp)
    · rw [Array.getElem?_append_right h, Array.getElem?_extract]
      split
      · rename_i h7
        congr 1
        omega
      · rename_i h7
        exact Array.getElem?_eq_none (by omega)
  · omega
theorem encL_get {α : Type} {enc : α → List Value} {k : Nat} (hk : ∀ x, (enc x).length = k) (h0 : 0 < k) : ∀ (ls : List α) (j : Nat), j < ls.length * k → (encL enc ls)[j]? = (ls[j / k]?).bind fun x => (enc x)[j % k]?
  | [], j, h => by simp at h
  | x :: xs, j, h => by
    rw [encL_cons]
    rcases Nat.lt_or_ge j k with hj | hj
    · rw [List.getElem?_append_left (by rw [hk]; exact hj), Nat.div_eq_of_lt hj, Nat.mod_eq_of_lt hj]
      rfl
    · have e1 : j / k = (j - k) / k + 1 := by
        rw [show j = (j - k) + k by omega, Nat.add_div_right _ h0]
        simp
      have e2 : j % k = (j - k) % k := by
        rw [show j = (j - k) + k by omega, Nat.add_mod_right]
        simp
      rw [List.getElem?_append_right (by rw [hk]; exact hj), hk, e1, e2, encL_get hk h0 xs (j - k) (by simp only [List.length_cons, Nat.add_mul] at h; omega)]
      simp
theorem flat_enc {α : Type} [Inhabited α] {enc : α → List Value} {k : Nat} (hk : ∀ x, (enc x).length = k) (h0 : 0 < k) (d : Array α) : (flatK enc k d).toList = encL enc d.toList := by
  have hl : (encL enc d.toList).length = d.size * k := by rw [encL_len (fun x _ => hk x)]; simp
  apply List.ext_getElem?
  intro j
  rcases Nat.lt_or_ge j (d.size * k) with h | h
  · have hd : j / k < d.size := Nat.div_lt_of_lt_mul (by rwa [Nat.mul_comm] at h)
    have hm : j % k < k := Nat.mod_lt _ h0
    rw [encL_get hk h0 _ _ (by simpa using h)]
    simp only [flatK, Array.toList_map, Array.toList_range]
    rw [List.getElem?_map, List.getElem?_range h]
    simp only [Option.map_some, Array.getElem?_toList]
    rw [Array.getElem?_eq_getElem hd]
    simp only [Option.bind_some]
    rw [getElem!_pos d (j / k) hd, getElem!_pos (enc d[j / k]) (j % k) (by rw [hk]; exact hm), List.getElem?_eq_getElem (by rw [hk]; exact hm)]
  · rw [List.getElem?_eq_none (by simpa using h), List.getElem?_eq_none (by omega)]
section
variable {α : Type} [Inhabited α] {P : Program} {ρ : Ren} {enc : α → List Value} {k : Nat}
theorem cmp_lays {g : Nat} {cf : α → α → Int} {blk off size : Nat} {w : World} (h : ∀ (W : World) (x y : α), Cal P g [.agg (enc x).toArray, .agg (enc y).toArray].toArray W fun v w' => v = .int .i64 (cf x y) ∧ Ext [] W w') : CmpLays P g #[] enc k cf blk off size w := by
  intro m os dk _ x y
  refine ((h (sortWorldK enc k w blk off m dk os) x y).calls).mono ?_
  rintro e w' ⟨v, rfl, rfl, hE⟩
  exact ⟨rfl, ext_grow hE⟩
/-- The sort over a slice of the call's own. -/
theorem sort_own (L : SlLaysF0.n6 P ρ) (hk : ∀ x, (enc x).length = k) (h0 : 0 < k) (h1 : ∀ x, (enc x).all (·.oneCell') = true) (haE : aggTy P (ρ.t 24) k = true) (cf : α → α → Int) (hO : SWO (ltOf cf)) (hT : ∀ x y, ltOf cf x y = false → ltOf cf y x = false → x = y) {g : Nat} (hg : hasBody P g = true)
    (hcmp : ∀ (W : World) (x y : α), Cal P g [.agg (enc x).toArray, .agg (enc y).toArray].toArray W fun v w' => v = .int .i64 (cf x y) ∧ Ext [] W w')
    {S : List Nat} {W0 w : World} {l : List (Nat × Obj)} {f : List (Nat × Obj) → List (Nat × Obj)} {e : TypeId} {v : Value} (ls : List α) {ent : List (Nat × Obj)} (M : Mem S W0 w l) (hOw : OwnS e k v ls.length (encL enc ls) ent) (hl : TailAt ent l f) (hsz : ls.length < 4611686018427387904) :
    Cal P (ρ.f 6) [v, .func (.func g) #[] #[]].toArray w fun _ w' => ∃ ent', OwnS e k v ls.length (encL enc (ls.mergeSort fun x y => !(ltOf cf) y x)) ent' ∧ Mem S W0 w' (f ent') := by
  obtain ⟨lr, rfl, hf⟩ := hl.spec
  rcases hOw with ⟨rfl, hn, _, rfl⟩ | ⟨b, cap, junk, rfl, rfl, hxl, hjl, hnc⟩
  · have hls : ls = [] := List.length_eq_zero_iff.1 hn
    subst hls
    refine Cal.of_calls (AnyF.slices_SortFunc_none L none 0 (.func (.func g) #[] #[]) w) ?_
    rintro e' w' ⟨rfl, rfl⟩
    exact ⟨_, rfl, [], by simpa [encL] using OwnS.nil e k, by rw [hf]; exact M⟩
  · have hb : w.heap[b]? = some (.cells (encL enc ls ++ junk).toArray e (0, 0)) := M.at_ (b, _) (by simp)
    have hlt : b < w.heap.size := (Array.getElem?_eq_some_iff.1 hb).1
    have hH : HoldsK enc k w b 0 ls.toArray := by
      intro j hj
      rw [size_flatK] at hj
      simp only [List.size_toArray] at hj
      have hfl := flat_enc hk h0 ls.toArray
      have hjf : j < (flatK enc k ls.toArray).size := by rw [size_flatK]; simpa using hj
      refine ⟨?_, by simp [World.frozen?, hb]⟩
      rw [getElem!_pos _ j hjf]
      simp only [World.cell?, hb, id]
      rw [if_neg (by simp), Nat.zero_add, List.getElem?_toArray, List.getElem?_append_left (by rw [hxl]; exact hj)]
      have h2 : (flatK enc k ls.toArray).toList[j]? = (encL enc ls)[j]? := by rw [hfl]
      rw [← h2, Array.getElem?_toList, Array.getElem?_eq_getElem hjf]
    have hagg : ∀ w, (isAgg (ρ.t 24)).run P w = .ok true w := fun w => run_isAgg_agg haE
    have hszo : ∀ w, (sizeOf (ρ.t 24)).run P w = .ok k w := fun w => run_sizeOf_agg haE
    have hcon := AnyQ.slices_SortFunc_total L k hagg hszo enc hk (fun x v hv => List.all_eq_true.1 (h1 x) v hv) cf hO g #[] b 0 cap ls.toArray w (fun args w => run_callFunc hg args w) (cmp_lays hcmp) hH hlt (by simpa using hsz) hT
    simp only [List.size_toArray] at hcon
    refine Cal.of_calls hcon ?_
    rintro e' w' ⟨rfl, n, os, rfl⟩
    refine ⟨_, rfl, [(b, .cells (encL enc (ls.mergeSort fun x y => !(ltOf cf) y x) ++ junk).toArray e (0, 0))], .inr ⟨b, cap, junk, rfl, rfl, by rw [encL_len (fun x _ => hk x)]; simp, hjl, hnc⟩, ?_⟩
    rw [hf]
    obtain ⟨ds, hds⟩ : ∃ ds, ds = ls.mergeSort fun x y => !(ltOf cf) y x := ⟨_, rfl⟩
    rw [← hds]
    have hdl : ds.length = ls.length := by rw [hds]; simp
    clear hcon hH
    have hcells : putCells id 0 (flatK enc k ds.toArray) (encL enc ls ++ junk).toArray = (encL enc ds ++ junk).toArray := by
      have hfl := flat_enc hk h0 ds.toArray
      have hfs : (flatK enc k ds.toArray).size = ls.length * k := by rw [size_flatK]; simp [hdl]
      have hel : (encL enc ds).length = ls.length * k := by rw [encL_len (fun x _ => hk x), hdl]
      apply Array.ext'
      apply List.ext_getElem?
      intro i
      simp only [putCells, Array.getElem?_toList, Array.getElem?_mapIdx, List.getElem?_toArray]
      rcases Nat.lt_or_ge i (ls.length * k) with hi | hi
      · rw [List.getElem?_append_left (by omega), List.getElem?_append_left (by omega), List.getElem?_eq_getElem (show i < (encL enc ls).length by omega)]
        simp only [Option.map_some]
        rw [if_pos ⟨Nat.zero_le _, by omega⟩, Nat.sub_zero, getElem!_pos _ i (by omega)]
        have h2 : (flatK enc k ds.toArray).toList[i]? = (encL enc ds)[i]? := by rw [hfl]
        rw [← h2, Array.getElem?_toList, Array.getElem?_eq_getElem (by omega)]
        rfl
      · rw [List.getElem?_append_right (by omega), List.getElem?_append_right (by omega), hxl, hel]
        cases hjv : junk[i - ls.length * k]? with
        | none => rfl
        | some z =>
          simp only [Option.map_some]
          rw [if_neg (by omega)]
    have hnew : (sortWorldK enc k w b 0 n ds.toArray os).heap[b]? = some (.cells (encL enc ds ++ junk).toArray e (0, 0)) := by
      have hs : b < (putRowK enc k (Go.Sort.ahead w n) b 0 ds.toArray).heap.size := by simpa [putRowK, Go.Sort.ahead] using hlt
      simp only [sortWorldK, grow]
      rw [Array.getElem?_append_left hs]
      simp only [putRowK, putRow, mapBlock, Go.Sort.ahead]
      rw [Array.getElem?_modify]
      simp only [if_true, hb, Option.map_some, onCells, hcells]
    have hext : Ext [b] w (sortWorldK enc k w b 0 n ds.toArray os) := by
      refine ⟨rfl, rfl, rfl, ?_, ?_, fun j hj hne => ?_⟩
      · simp [sortWorldK, grow, putRowK, putRow, mapBlock, Go.Sort.ahead]
      · simp [sortWorldK, grow, putRowK, putRow, mapBlock, Go.Sort.ahead]
      · have hs : j < (putRowK enc k (Go.Sort.ahead w n) b 0 ds.toArray).heap.size := by simpa [putRowK, Go.Sort.ahead] using hj
        simp only [sortWorldK, grow]
        rw [Array.getElem?_append_left hs]
        simp only [putRowK, putRow, mapBlock, Go.Sort.ahead]
        rw [Array.getElem?_modify, if_neg (by intro h; exact hne (by simp [h]))]
    exact M.turned ((Upd.here (l := [])).append lr) hext hnew
end
end Go.Proofs.Ytilgoepokaaleaa
/-! Y7 -/
namespace Go.Proofs.Ytilgoepokaaleaa
set_option linter.unusedVariables false
set_option linter.unusedSimpArgs false
open Go.RowKit Go.Sort
attribute [local irreducible] OpTo wpListIn Code.wpIn MW Cal
set_option maxHeartbeats 2000000 in
theorem cloneA_c (l : List AdvV) (hlen : l.length ≤ 100000) (v : Value) (W : World) (hS : SlAt W 37 v l.length (avsC l)) :
    Cal Try.prog 24 [v].toArray W fun r w' => ∃ ent, OwnS 52 37 r l.length (avsC l) ent ∧ (∀ b o s c, r = .slice (some ⟨b, o, s⟩) l.length c → l.length = 0 → c = 0) ∧ Mem [] W w' ent := by
  obtain ⟨q, cap, hq, _⟩ := id hS
  cases q with
  | none =>
    have hn : l.length = 0 := by
      obtain ⟨q', cap', h2, _, _, _, h3⟩ := hS
      rw [hq] at h2
      cases h2
      rcases Nat.eq_zero_or_pos l.length with h | h
      · exact h
      · obtain ⟨_, _, _, _, _, h4, _⟩ := h3 h
        cases h4
    have hxs : l = [] := List.length_eq_zero_iff.1 hn
    subst hxs
    rw [hq]
    refine fn_ofM (n := 8) [] Try.func24 rfl rfl rfl ?_
    intro a w F M hwW
    with_reducible refine c_seq ?_
    with_reducible refine c_region ?_
    refine stepD rfl F rfl (o_assign (F.ev rfl) ?_); clear F; clear a; intro a F
    with_reducible refine l_nil ?_
    with_reducible refine q_then ?_
    with_reducible refine c_seq ?_
    with_reducible refine c_seq ?_
    with_reducible refine c_region ?_
    refine stepD rfl F rfl (o_move (F.ev rfl) ?_); clear F; clear a; intro a F
    (refine stepD rfl F rfl (o_eqlNil (F.ev rfl) (F.ev rfl) ?_); clear F; clear a; intro a F)
    with_reducible refine l_nil ?_
    with_reducible refine q_then ?_
    refine c_true F rfl rfl ?_
    with_reducible refine c_seq ?_
    with_reducible refine c_region ?_
    refine stepD rfl F rfl (o_assign (F.ev rfl) ?_); clear F; clear a; intro a F
    with_reducible refine l_nil ?_
    with_reducible refine q_then ?_
    with_reducible refine c_ret ?_
    with_reducible refine q_thenR ?_
    refine p_ret F rfl (.cons (.tmp (F.ev rfl)) .nil) ?_
    exact ⟨[], OwnS.nil _ _, fun b o s c h => (by cases h), M⟩
  | some a0 =>
    rw [hq] at hS ⊢
    refine fn_ofM (n := 8) [] Try.func24 rfl rfl rfl ?_
    intro a w F M hwW
    with_reducible refine c_seq ?_
    with_reducible refine c_region ?_
    refine stepD rfl F rfl (o_assign (F.ev rfl) ?_); clear F; clear a; intro a F
    with_reducible refine l_nil ?_
    with_reducible refine q_then ?_
    with_reducible refine c_seq ?_
    with_reducible refine c_seq ?_
    with_reducible refine c_region ?_
    refine stepD rfl F rfl (o_move (F.ev rfl) ?_); clear F; clear a; intro a F
    (refine stepD rfl F rfl (o_eqlNil (F.ev rfl) (F.ev rfl) ?_); clear F; clear a; intro a F)
    with_reducible refine l_nil ?_
    with_reducible refine q_then ?_
    refine c_false F rfl rfl ?_
    with_reducible refine c_skip ?_
    with_reducible refine q_then ?_
    with_reducible refine c_seq ?_
    with_reducible refine c_region ?_
    (refine stepD rfl F rfl (o_buildSlice F M rfl rfl rfl rfl ?_); clear F; clear M; intro b5 w M a F)
    refine stepD rfl F rfl (o_move (F.ev rfl) ?_); clear F; clear a; intro a F
    have hSw := hS.later M.ext
    by_cases hn : l.length = 0
    · have hxs : l = [] := List.length_eq_zero_iff.1 hn
      subst hxs
      (refine stepD rfl F rfl (o_append0 (F.ev rfl) (F.ev rfl) (by omega) (hSw.src (by simp [encL])) ?_); clear F; clear a; intro a F)
      refine stepD rfl F rfl (o_assign (F.ev rfl) ?_); clear F; clear a; intro a F
      with_reducible refine l_nil ?_
      with_reducible refine q_then ?_
      with_reducible refine c_ret ?_
      refine p_ret F rfl (.cons (.tmp (F.ev rfl)) .nil) ?_
      exact ⟨[(b5, _)], .inr ⟨b5, 0, [], rfl, rfl, by simp [encL], by simp, by simp⟩, fun b o s c h _ => (by cases h; rfl), M⟩
    · have hO5 : OwnS 52 37 (.slice (some ⟨b5, 0, none⟩) 0 0) 0 [] [(b5, .cells ([] : List Value).toArray 52 (0, 0))] := .inr ⟨b5, 0, [], rfl, rfl, by simp, by simp, by simp⟩
      (refine stepD rfl F rfl (o_append hO5 M .here (F.ev rfl) (F.ev rfl) (hSw.src avs_one) (by omega) (by omega) ?_); clear F; clear M; intro u ent w hO M a F)
      rw [Nat.zero_add, List.nil_append] at hO
      refine stepD rfl F rfl (o_assign (F.ev rfl) ?_); clear F; clear a; intro a F
      with_reducible refine l_nil ?_
      with_reducible refine q_then ?_
      with_reducible refine c_ret ?_
      refine p_ret F rfl (.cons (.tmp (F.ev rfl)) .nil) ?_
      exact ⟨ent, hO, fun b o s c _ h => absurd h hn, M⟩
theorem due2_c (x : AdvV) (hx : IsAv x) (W : World) : Cal Try.prog 52 [.agg (avC x).toArray].toArray W fun r w' => r = .bool (decide (x.own.met = inf)) ∧ Ext [] W w' := by
  have e1 := av_own_met hx
  have e2 : (x.own.met == 65535) = decide (x.own.met = inf) := by unfold inf; by_cases h : x.own.met = 65535 <;> simp [h]
  refine fn_ofM (n := 7) [] Try.func52 rfl rfl rfl ?_
  intro a w F M hwW
  refine c_seq ?_
  refine c_region ?_
  (refine stepD rfl F rfl (o_box M (F.ev rfl) rfl ?_); clear F; clear M; intro b1 w M a F)
  refine stepD rfl F rfl (o_assign (F.ev rfl) ?_); clear F; clear a; intro a F
  with_reducible refine l_nil ?_
  with_reducible refine q_then ?_
  with_reducible refine c_seq ?_
  with_reducible refine c_region ?_
  refine stepD rfl F rfl (o_fieldAddr (F.ev rfl) ?_); clear F; clear a; intro a F
  refine stepD rfl F rfl (o_fieldAddr (F.ev rfl) ?_); clear F; clear a; intro a F
  refine stepD rfl F rfl (o_load1 M (F.ev rfl) (by repeat (first | exact .here | apply Has.there)) (by first | assumption | rfl) ?_); clear F; clear a; intro a F
  refine stepD rfl F rfl (o_eql (F.ev rfl) (F.ev rfl) ?_); clear F; clear a; intro a F
  refine stepD rfl F rfl (o_assign (F.ev rfl) ?_); clear F; clear a; intro a F
  with_reducible refine l_nil ?_
  with_reducible refine q_then ?_
  with_reducible refine c_ret ?_
  refine p_ret F rfl (.cons (.tmp (F.ev rfl)) .nil) ?_
  exact ⟨by rw [← e2]; rfl, M.ext⟩
set_option maxHeartbeats 2000000 in
theorem indexA_c (l : List AdvV) (hx : ∀ x ∈ l, IsAv x) (hlen : l.length ≤ 100000) (v : Value) (W : World) (hS : SlAt W 37 v l.length (avsC l)) :
    Cal Try.prog 96 [v, .func (.func 52) #[] #[]].toArray W fun r w' => ∃ k : Int, r = .int .i64 k ∧ decide (0 ≤ k) = (l.any fun a => decide (a.own.met = inf)) ∧ Ext [] W w' := by
  obtain ⟨q, cap, rfl, hcap, hsp, hl, hm⟩ := hS
  refine fn_ofM (n := 19) [] Try.func96 rfl rfl rfl ?_
  intro a w F M hwW
  with_reducible refine c_seq ?_
  with_reducible refine c_region ?_
  refine stepD rfl F rfl (o_assign (F.ev rfl) ?_); clear F; clear a; intro a F
  with_reducible refine l_nil ?_
  with_reducible refine q_then ?_
  with_reducible refine c_seq ?_
  with_reducible refine c_seq ?_
  with_reducible refine c_region ?_
  refine stepD rfl F rfl (o_move (F.ev rfl) ?_); clear F; clear a; intro a F
  refine stepD rfl F rfl (o_lenSl (F.ev rfl) ?_); clear F; clear a; intro a F
  refine stepD rfl F rfl (o_move (F.ev rfl) ?_); clear F; clear a; intro a F
  with_reducible refine l_nil ?_
  with_reducible refine q_then ?_
  with_reducible refine c_block ?_
  refine c_loop (fun m a w => ∃ i : Nat, m = l.length - i ∧ i ≤ l.length ∧ (∀ j (hj : j < l.length), j < i → decide (l[j].own.met = inf) = false) ∧ Frm a 19 [] [(8, .int .i64 i), (7, .int .i64 l.length), (0, .slice q l.length cap), (1, .func (.func 52) #[] #[])] ∧ Mem [] W w []) l.length ⟨0, rfl, by omega, by omega, F.only [8, 7, 0, 1] rfl, M⟩ ?_
  clear F M
  rintro m a w ⟨i, hm', hi, hv, F, M⟩
  by_cases hlt : i < l.length
  · obtain ⟨b, o, cs, t, fz, rfl, hb, hs⟩ := hm (by omega)
    have hxv := hx _ (List.getElem_mem hlt)
    have hmem := List.getElem_mem hlt
    have f1 : seg cs (o + (i : Int).toNat * 37) 37 = some (avC l[i]) := seg_el (avs_len hx) hs hlt (by omega)
    have hne : decide (l[i].own.met = inf) = false → ∀ j (hj : j < l.length), j < i + 1 → decide (l[j].own.met = inf) = false := fun h j hj hj2 => by
      rcases Nat.lt_or_ge j i with h1 | h1
      · exact hv j hj h1
      · obtain rfl : j = i := by omega
        exact h
    obtain ⟨x, hx0⟩ : ∃ x, x = l[i] := ⟨_, rfl⟩
    rw [← hx0] at hxv f1 hne hmem
    with_reducible refine c_seq ?_
    with_reducible refine c_region ?_
    refine stepD rfl F rfl (o_lssT (F.ev rfl) (F.ev rfl) (by omega) ?_); clear F; clear a; intro a F
    with_reducible refine l_nil ?_
    with_reducible refine q_then ?_
    with_reducible refine c_seq ?_
    refine c_true F rfl rfl ?_
    with_reducible refine c_skip ?_
    with_reducible refine q_then ?_
    with_reducible refine c_seq ?_
    with_reducible refine c_block ?_
    with_reducible refine c_seq ?_
    with_reducible refine c_region ?_
    refine stepD rfl F rfl (o_move (F.ev rfl) ?_); clear F; clear a; intro a F
    refine stepD rfl F rfl (o_assign (F.ev rfl) ?_); clear F; clear a; intro a F
    with_reducible refine l_nil ?_
    with_reducible refine q_then ?_
    with_reducible refine c_seq ?_
    with_reducible refine c_region ?_
    refine stepD rfl F rfl (o_move (F.ev rfl) ?_); clear F; clear a; intro a F
    refine stepD rfl F rfl (o_move (F.ev rfl) ?_); clear F; clear a; intro a F
    refine stepD rfl F rfl (o_move (F.ev rfl) ?_); clear F; clear a; intro a F
    refine stepD rfl F rfl (o_indexSl (F.ev rfl) (F.ev rfl) (by omega) (by omega) ?_); clear F; clear a; intro a F
    refine stepD rfl F rfl (o_loadWA M (F.ev rfl) (by assumption) (by first | assumption | rfl) ?_); clear F; clear a; intro a F
    (refine stepD rfl F rfl (o_call (F.ev rfl) (F.evs rfl) (Cal.mono (due2_c x hxv _) ?_)); clear F; clear a; rintro _ w ⟨rfl, hE⟩ a F; replace M := M.later hE; clear hE)
    cases hc : decide (x.own.met = inf)
    · rw [hc] at F
      with_reducible refine l_nil ?_
      with_reducible refine q_then ?_
      refine c_false F rfl rfl ?_
      with_reducible refine c_skip ?_
      with_reducible refine q_inB ?_
      with_reducible refine q_then ?_
      with_reducible refine c_region ?_
      refine stepD rfl F rfl (o_add (F.ev rfl) (F.ev rfl) (w_i64 (by omega) (by omega)) ?_); clear F; clear a; intro a F
      refine stepD rfl F rfl (o_move (F.ev rfl) ?_); clear F; clear a; intro a F
      with_reducible refine l_nil ?_
      with_reducible refine q_then ?_
      exact ⟨_, by omega, i + 1, rfl, by omega, hne hc, F.only [8, 7, 0, 1] rfl, M⟩
    · rw [hc] at F
      with_reducible refine l_nil ?_
      with_reducible refine q_then ?_
      refine c_true F rfl rfl ?_
      with_reducible refine c_seq ?_
      with_reducible refine c_region ?_
      refine stepD rfl F rfl (o_move (F.ev rfl) ?_); clear F; clear a; intro a F
      refine stepD rfl F rfl (o_assign (F.ev rfl) ?_); clear F; clear a; intro a F
      with_reducible refine l_nil ?_
      with_reducible refine q_then ?_
      with_reducible refine c_ret ?_
      with_reducible refine q_inBR ?_
      with_reducible refine q_thenR ?_
      with_reducible refine q_thenR ?_
      with_reducible refine q_inBR ?_
      with_reducible refine q_thenR ?_
      refine p_ret F rfl (.cons (.tmp (F.ev rfl)) .nil) ?_
      exact ⟨i, rfl, by rw [decide_eq_true (by omega)]; exact (List.any_eq_true.2 ⟨x, hmem, hc⟩).symm, M.ext⟩
  · obtain rfl : i = l.length := by omega
    with_reducible refine c_seq ?_
    with_reducible refine c_region ?_
    refine stepD rfl F rfl (o_lssF (F.ev rfl) (F.ev rfl) (by omega) ?_); clear F; clear a; intro a F
    with_reducible refine l_nil ?_
    with_reducible refine q_then ?_
    with_reducible refine c_seq ?_
    refine c_false F rfl rfl ?_
    with_reducible refine c_exit ?_
    with_reducible refine q_thenX ?_
    with_reducible refine q_thenX ?_
    with_reducible refine q_inBX ?_
    with_reducible refine q_then ?_
    with_reducible refine c_seq ?_
    with_reducible refine c_region ?_
    refine stepD rfl F rfl (o_assign (F.ev rfl) ?_); clear F; clear a; intro a F
    with_reducible refine l_nil ?_
    with_reducible refine q_then ?_
    with_reducible refine c_ret ?_
    refine p_ret F rfl (.cons (.tmp (F.ev rfl)) .nil) ?_
    exact ⟨-1, rfl, by
      rw [decide_eq_false (by omega)]
      refine (List.any_eq_false.2 ?_).symm
      intro x hx
      obtain ⟨j, hj, rfl⟩ := List.mem_iff_getElem.1 hx
      simpa using hv j hj hj, M.ext⟩
theorem containsA_c (l : List AdvV) (hx : ∀ x ∈ l, IsAv x) (hlen : l.length ≤ 100000) (v : Value) (W : World) (hS : SlAt W 37 v l.length (avsC l)) :
    Cal Try.prog 51 [v, .func (.func 52) #[] #[]].toArray W fun r w' => r = .bool (l.any fun a => decide (a.own.met = inf)) ∧ Ext [] W w' := by
  refine fn_ofM (n := 9) [] Try.func51 rfl rfl rfl ?_
  intro a w F M hwW
  with_reducible refine c_seq ?_
  with_reducible refine c_region ?_
  refine stepD rfl F rfl (o_assign (F.ev rfl) ?_); clear F; clear a; intro a F
  with_reducible refine l_nil ?_
  with_reducible refine q_then ?_
  with_reducible refine c_seq ?_
  with_reducible refine c_region ?_
  refine stepD rfl F rfl (o_move (F.ev rfl) ?_); clear F; clear a; intro a F
  refine stepD rfl F rfl (o_move (F.ev rfl) ?_); clear F; clear a; intro a F
  (refine stepD rfl F rfl (o_call (F.ev rfl) (F.evs rfl) (Cal.mono (indexA_c l hx hlen v _ (hS.later M.ext)) ?_)); clear F; clear a; rintro _ w ⟨k, rfl, hk, hE⟩ a F; replace M := M.later hE; clear hE)
  refine stepD rfl F rfl (o_geq (F.ev rfl) (F.ev rfl) ?_); clear F; clear a; intro a F
  refine stepD rfl F rfl (o_assign (F.ev rfl) ?_); clear F; clear a; intro a F
  with_reducible refine l_nil ?_
  with_reducible refine q_then ?_
  with_reducible refine c_ret ?_
  refine p_ret F rfl (.cons (.tmp (F.ev rfl)) .nil) ?_
  exact ⟨by rw [← hk]; rfl, M.ext⟩
set_option maxHeartbeats 1000000 in
theorem due1_c (x y : AdvV) (hx : IsAv x) (hy : IsAv y) (W : World) : Cal Try.prog 49 [.agg (avC x).toArray, .agg (avC y).toArray].toArray W fun r w' => r = .int .i64 (cmpD x.to y.to) ∧ Ext [] W w' := by
  have e1 := av_to hx
  have e2 := av_to hy
  refine fn_ofM (n := 10) [] Try.func49 rfl rfl rfl ?_
  intro a w F M hwW
  refine c_seq ?_
  refine c_region ?_
  (refine stepD rfl F rfl (o_box M (F.ev rfl) rfl ?_); clear F; clear M; intro b2 w M a F)
  (refine stepD rfl F rfl (o_box M (F.ev rfl) rfl ?_); clear F; clear M; intro b3 w M a F)
  refine stepD rfl F rfl (o_assign (F.ev rfl) ?_); clear F; clear a; intro a F
  with_reducible refine l_nil ?_
  with_reducible refine q_then ?_
  with_reducible refine c_seq ?_
  with_reducible refine c_region ?_
  refine stepD rfl F rfl (o_fieldAddr (F.ev rfl) ?_); clear F; clear a; intro a F
  refine stepD rfl F rfl (o_loadA M (F.ev rfl) (by repeat (first | exact .here | apply Has.there)) (by first | assumption | rfl) ?_); clear F; clear a; intro a F
  refine stepD rfl F rfl (o_fieldAddr (F.ev rfl) ?_); clear F; clear a; intro a F
  refine stepD rfl F rfl (o_loadA M (F.ev rfl) (by repeat (first | exact .here | apply Has.there)) (by first | assumption | rfl) ?_); clear F; clear a; intro a F
  (refine stepD rfl F rfl (o_call (F.ev rfl) (F.evs rfl) (Cal.mono (scompare_c x.to y.to hx.1 hy.1 _) ?_)); clear F; clear a; rintro _ w ⟨rfl, hE⟩ a F; replace M := M.later hE; clear hE)
  refine stepD rfl F rfl (o_assign (F.ev rfl) ?_); clear F; clear a; intro a F
  with_reducible refine l_nil ?_
  with_reducible refine q_then ?_
  with_reducible refine c_ret ?_
  refine p_ret F rfl (.cons (.tmp (F.ev rfl)) .nil) ?_
  exact ⟨rfl, M.ext⟩
/-! the sort -/
abbrev ADst := {d : DstV // IsDv d}
def z16 : List Int := [0, 0, 0, 0, 0, 0, 0, 0, 0, 0, 0, 0, 0, 0, 0, 0]
theorem z16_is : IsIP z16 := ⟨rfl, by intro x hx; simp [z16] at hx; omega⟩
instance : Inhabited ADst := ⟨⟨⟨z16, 0, z16, 0, 0⟩, z16_is, z16_is⟩⟩
def cfD (x y : ADst) : Int := cmpD x.1 y.1
theorem ltD (x y : ADst) : ltOf cfD x y = true ↔ cmpD x.1 y.1 < 0 := decide_eq_true_iff
theorem ltD_f (x y : ADst) : ltOf cfD x y = false ↔ ¬ cmpD x.1 y.1 < 0 := decide_eq_false_iff_not
theorem swoD : SWO (ltOf cfD) where
  irrefl x := by rw [ltD_f, cmpD_self]; omega
  trans x y z h1 h2 := by rw [ltD] at *; exact cmpD_trans h1 h2
  ntrans x y z h1 h2 := by
    rw [ltD_f] at *
    intro h
    have h3 := cmpD_anti x.1 y.1
    rcases Int.lt_trichotomy (cmpD y.1 x.1) 0 with h4 | h4 | h4
    · exact h2 (cmpD_trans h4 h)
    · rw [cmpD_zero y.2 x.2 h4] at h2
      exact h2 h
    · omega
theorem totD (x y : ADst) (h1 : ltOf cfD x y = false) (h2 : ltOf cfD y x = false) : x = y := by
  rw [ltD_f] at *
  have h3 := cmpD_anti x.1 y.1
  exact Subtype.ext (cmpD_zero x.2 y.2 (by omega))
theorem getO_nd : ∀ {l : List AdvV}, (l.map (·.to)).Nodup → ∀ {a : AdvV}, a ∈ l → getO l a.to = some a.own
  | [], _, _, h => by cases h
  | x :: l, hn, a, h => by
    rw [getO_cons]
    simp only [List.map_cons, List.nodup_cons, List.mem_map, not_exists, not_and] at hn
    rcases List.mem_cons.1 h with rfl | h
    · simp
    · rw [if_neg fun e => hn.1 a h e.symm]
      exact getO_nd hn.2 h
set_option maxHeartbeats 1000000 in
theorem sortA_c (ls m : List AdvV) (hx : ∀ x ∈ ls, IsAv x) (hnd : (ls.map (·.to)).Nodup) (hm : AscA m) (hmem : ∀ x, x ∈ m ↔ x ∈ ls) (hlen : ls.length ≤ 100000)
    {S : List Nat} {W0 w : World} {l : List (Nat × Obj)} {f : List (Nat × Obj) → List (Nat × Obj)} {v : Value} {ent : List (Nat × Obj)} (M : Mem S W0 w l) (hO : OwnS 52 37 v ls.length (avsC ls) ent) (hl : TailAt ent l f) :
    Cal Try.prog 48 [v, .func (.func 49) #[] #[]].toArray w fun _ w' => ∃ ent', OwnS 52 37 v ls.length (avsC m) ent' ∧ Mem S W0 w' (f ent') := by
  obtain ⟨f0, hf0⟩ : ∃ f0 : DstV → DisV, ∀ a ∈ ls, f0 a.to = a.own := ⟨fun d => (getO ls d).getD di0, fun a ha => by simp [getO_nd hnd ha]⟩
  let dec : ADst → AdvV := fun d => ⟨d.1, f0 d.1⟩
  let enc : ADst → List Value := fun d => avC (dec d)
  have hdec : ∀ d, IsAv (dec d) := fun d => ⟨d.2, trivial⟩
  obtain ⟨az, haz⟩ : ∃ az : List ADst, az.map dec = ls := ⟨ls.pmap (fun a h => (⟨a.to, h⟩ : ADst)) (fun a ha => (hx a ha).1), by
    rw [List.map_pmap]
    have : ∀ (l : List AdvV) (h : ∀ a ∈ l, IsDv a.to) (h2 : ∀ a ∈ l, f0 a.to = a.own), l.pmap (fun a h => dec ⟨a.to, h⟩) h = l := by
      intro l
      induction l with
      | nil => intro _ _; rfl
      | cons a l ih =>
        intro h h2
        rw [List.pmap_cons, ih _ fun b hb => h2 b (List.mem_cons_of_mem _ hb)]
        congr 1
        show (⟨a.to, f0 a.to⟩ : AdvV) = a
        rw [h2 a List.mem_cons_self]
    exact this ls _ hf0⟩
  have henc : ∀ bz : List ADst, encL enc bz = avsC (bz.map dec) := by
    intro bz
    induction bz with
    | nil => rfl
    | cons x xs ih => rw [encL_cons, ih]; rfl
  have hlz : az.length = ls.length := by rw [← haz, List.length_map]
  rw [← hlz] at hO
  rw [← haz, ← henc] at hO
  have h := sort_own (P := Try.prog) (ρ := sortAd_ren) (enc := enc) (k := 37) (e := 52) sortAd (fun x => av_len (hdec x)) (by omega) (fun x => av_one _) (by kernel_rfl) cfD swoD totD (g := 49) (TBody.h (P := Try.prog)) (fun W x y => due1_c (dec x) (dec y) (hdec x) (hdec y) W) az M hO hl (by omega)
  refine Cal.mono h ?_
  rintro _ w' ⟨ent', hO', M'⟩
  have hp := List.mergeSort_perm az fun x y => !(ltOf cfD) y x
  have hs : (az.mergeSort fun x y => !(ltOf cfD) y x).Pairwise fun x y => (!(ltOf cfD) y x) = true := by
    refine List.pairwise_mergeSort ?_ ?_ _
    · intro a b c h1 h2
      simp only [Bool.not_eq_true'] at h1 h2 ⊢
      exact swoD.ntrans c b a h2 h1
    · intro a b
      cases h : ltOf cfD b a with
      | false => simp
      | true => simp [swoD.asymmA h]
  generalize az.mergeSort (fun x y => !(ltOf cfD) y x) = ds at *
  have hnd2 : (ds.map fun d => d.1).Nodup := by
    have e1 : (ls.map (·.to)) = az.map fun d => d.1 := by rw [← haz, List.map_map]; rfl
    rw [e1] at hnd
    exact (hp.map _).nodup_iff.2 hnd
  have hdm : ds.map dec = m := by
    refine ascK_unique AdvV.to _ _ ?_ hm fun x => ?_
    · unfold AscK
      rw [List.pairwise_map]
      have h2 : ds.Pairwise fun a b => a.1 ≠ b.1 := by
        have := hnd2
        rw [List.Nodup, List.pairwise_map] at this
        exact this
      refine (List.Pairwise.and hs h2).imp ?_
      rintro a b ⟨h3, h4⟩
      simp only [Bool.not_eq_true'] at h3
      rw [ltD_f] at h3
      show cmpD a.1 b.1 < 0
      have h5 := cmpD_anti a.1 b.1
      have h6 : cmpD a.1 b.1 ≠ 0 := fun h => h4 (cmpD_zero a.2 b.2 h)
      omega
    · rw [hmem, ← haz]
      exact (hp.map dec).mem_iff
  rw [henc, hdm, hlz] at hO'
  exact ⟨ent', hO', M'⟩
end Go.Proofs.Ytilgoepokaaleaa
/-! Y8 -/
namespace Go.Proofs.Ytilgoepokaaleaa
set_option linter.unusedVariables false
set_option linter.unusedSimpArgs false
open Go.RowKit
attribute [local irreducible] OpTo wpListIn Code.wpIn MW Cal
/-! the reference's steps through both lists -/
theorem mrg_one {full : Bool} {x y : AdvV} {l t : List AdvV} (e : x.to = y.to) : mrg full (x :: l) (y :: t) = (if full || !decide (y.own = x.own) then [x] else []) ++ mrg full l t := by
  rw [mrg, if_pos e]
theorem mrg_lt {full : Bool} {x y : AdvV} {l t : List AdvV} (e : x.to ≠ y.to) (h : cmpD x.to y.to < 0) : mrg full (x :: l) (y :: t) = (if full || !decide (x.own.met = inf) then [x] else []) ++ mrg full l (y :: t) := by
  rw [mrg, if_neg e, if_pos h]
theorem mrg_gt {full : Bool} {x y : AdvV} {l t : List AdvV} (e : x.to ≠ y.to) (h : ¬ cmpD x.to y.to < 0) : mrg full (x :: l) (y :: t) = (if decide (y.own.met = inf) then [] else [retr y]) ++ mrg full (x :: l) t := by
  rw [mrg, if_neg e, if_neg h]
theorem mrg_r {full : Bool} {x : AdvV} {l : List AdvV} : mrg full (x :: l) [] = (if full || !decide (x.own.met = inf) then [x] else []) ++ mrg full l [] := by
  rw [mrg]
theorem mrg_l {full : Bool} {y : AdvV} {t : List AdvV} : mrg full [] (y :: t) = (if decide (y.own.met = inf) then [] else [retr y]) ++ mrg full [] t := by
  rw [mrg]
def x0 : AdvV := ⟨⟨[], 0, [], 0, 0⟩, ⟨0, 0⟩⟩
def LoK (T l : List AdvV) (i k : Nat) : Prop := ∀ j (hj : j < T.length) i' (hi : i' < l.length), j < k → i ≤ i' → cmpD T[j].to l[i'].to < 0
theorem asc_at {l : List AdvV} (h : AscA l) {i j : Nat} (hi : i < l.length) (hj : j < l.length) (hij : i < j) : cmpD l[i].to l[j].to < 0 := List.pairwise_iff_getElem.1 h i j hi hj hij
theorem LoK.next {T l : List AdvV} {i k : Nat} (h : LoK T l i k) : LoK T l (i + 1) k := fun j hj i' hi h1 h2 => h j hj i' hi h1 (by omega)
theorem LoK.both {T l : List AdvV} {i k : Nat} (h : LoK T l i k) (hl : AscA l) (hi : i < l.length) (hk : k < T.length) (e : T[k].to = l[i].to) : LoK T l (i + 1) (k + 1) := fun j hj i' hi' h1 h2 => by
  rcases Nat.lt_or_ge j k with h3 | h3
  · exact h j hj i' hi' h3 (by omega)
  · obtain rfl : j = k := by omega
    rw [e]
    exact asc_at hl hi hi' (by omega)
theorem LoK.skip {T l : List AdvV} {i k : Nat} (h : LoK T l i k) (hl : AscA l) (hk : k < T.length) (hlt : ∀ hi : i < l.length, cmpD T[k].to l[i].to < 0) : LoK T l i (k + 1) := fun j hj i' hi' h1 h2 => by
  rcases Nat.lt_or_ge j k with h3 | h3
  · exact h j hj i' hi' h3 h2
  · obtain rfl : j = k := by omega
    rcases Nat.lt_or_ge i i' with h4 | h4
    · exact cmpD_trans (hlt (by omega)) (asc_at hl (by omega) hi' h4)
    · obtain rfl : i = i' := by omega
      exact hlt hi'
/-- what the reference's first branch does -/
theorem step_x {full : Bool} {T l : List AdvV} {i k : Nat} (hT : AscA T) (iT : ∀ x ∈ T, IsDv x.to) (il : ∀ x ∈ l, IsDv x.to) (hL : LoK T l i k) (hi : i < l.length) (hkT : k ≤ T.length) (h : k = T.length ∨ ∃ hk : k < T.length, cmpD l[i].to T[k].to ≤ 0) :
    (∃ hk : k < T.length, T[k].to = l[i].to ∧ getO T l[i].to = some T[k].own ∧ mrg full (l.drop i) (T.drop k) = (if keepG full T l[i] then [l[i]] else []) ++ mrg full (l.drop (i + 1)) (T.drop (k + 1))) ∨
    (getO T l[i].to = none ∧ mrg full (l.drop i) (T.drop k) = (if keepG full T l[i] then [l[i]] else []) ++ mrg full (l.drop (i + 1)) (T.drop k)) := by
  have hd := (List.getElem_cons_drop hi).symm
  have hbelow : ∀ j (hj : j < T.length), j < k → T[j].to ≠ l[i].to := fun j hj h1 e => by
    have := hL j hj i hi h1 (by omega)
    rw [e, cmpD_self] at this
    omega
  rcases h with h | ⟨hk, h⟩
  · right
    have hg : getO T l[i].to = none := getO_miss fun j hj => hbelow j hj (by omega)
    refine ⟨hg, ?_⟩
    rw [hd, h, List.drop_length, mrg_r, keepG, hg]
  · have hdT := (List.getElem_cons_drop hk).symm
    by_cases e : l[i].to = T[k].to
    · left
      have hg : getO T l[i].to = some T[k].own := getO_take (fun j hj h1 => hbelow j hj h1) hk e.symm
      refine ⟨hk, e.symm, hg, ?_⟩
      rw [hd, hdT, mrg_one e, keepG, hg]
    · right
      have hlt : cmpD l[i].to T[k].to < 0 := by
        have : cmpD l[i].to T[k].to ≠ 0 := fun h0 => e (cmpD_zero (il _ (List.getElem_mem hi)) (iT _ (List.getElem_mem hk)) h0)
        omega
      have hg : getO T l[i].to = none := getO_miss fun j hj e2 => by
        rcases Nat.lt_or_ge j k with h1 | h1
        · exact hbelow j hj h1 e2
        · have h2 : cmpD l[i].to T[j].to < 0 := by
            rcases Nat.lt_or_ge k j with h3 | h3
            · exact cmpD_trans hlt (asc_at hT hk hj h3)
            · obtain rfl : j = k := by omega
              exact hlt
          rw [e2, cmpD_self] at h2
          omega
      refine ⟨hg, ?_⟩
      rw [hd, hdT, mrg_lt e hlt, keepG, hg]
theorem step_y {full : Bool} {T l : List AdvV} {i k : Nat} (hk : k < T.length) (h : i = l.length ∨ ∃ hi : i < l.length, 0 < cmpD l[i].to T[k].to) :
    mrg full (l.drop i) (T.drop k) = (if decide (T[k].own.met = inf) then [] else [retr T[k]]) ++ mrg full (l.drop i) (T.drop (k + 1)) ∧ ∀ hi : i < l.length, cmpD T[k].to l[i].to < 0 := by
  have hdT := (List.getElem_cons_drop hk).symm
  rcases h with h | ⟨hi, h⟩
  · refine ⟨?_, fun hi => absurd hi (by omega)⟩
    rw [h, List.drop_length, hdT, mrg_l]
  · have hd := (List.getElem_cons_drop hi).symm
    refine ⟨?_, fun _ => ?_⟩
    · rw [hd, hdT, mrg_gt (fun e => by rw [e, cmpD_self] at h; omega) (by omega)]
    · have := cmpD_anti l[i].to T[k].to
      omega
theorem any_add {p : AdvV → Bool} {out : List AdvV} {x : AdvV} : (out ++ [x]).any p = (out.any p || p x) := by simp
/-- an answer of Due -/
def DueP (D : DueR) (r : Value) (w' W : World) : Prop := ∃ u s eu es, r = .tuple [.agg (plC u D.full).toArray, s, .bool D.urg, .int .i64 D.err].toArray ∧ OwnS 52 37 u D.told.length (avsC D.told) eu ∧ OwnS 52 37 s D.sent.length (avsC D.sent) es ∧ Mem [] W w' (eu ++ es)
def PhA (l : List AdvV) (v : Value) (ent : List (Nat × Obj)) : Prop := OwnS 52 37 v l.length (avsC l) ent
def PhPl (l : List AdvV) (full : Int) (v : Value) (ent : List (Nat × Obj)) : Prop := ∃ u, v = .agg (plC u full).toArray ∧ OwnS 52 37 u l.length (avsC l) ent
/-- a block of another type is another block -/
theorem OwnS.apart {l : List AdvV} {v : Value} {ent : List (Nat × Obj)} (h : OwnS 52 37 v l.length (avsC l) ent) {w : World} (hb : ∀ p ∈ ent, w.heap[p.1]? = some p.2) {b : Nat} {cs : Array Value} {t : TypeId} {fz : Nat × Nat} (ht : t ≠ 52) (hq : w.heap[b]? = some (.cells cs t fz)) : ∀ p ∈ ent, ptrTo p.1 ≠ ptrTo b := by
  intro p hp e
  have e2 := ptrTo_inj e
  have h1 := hb p hp
  rw [e2, hq] at h1
  rcases h with ⟨_, _, _, rfl⟩ | ⟨_, _, _, _, rfl, _⟩
  · cases hp
  · simp only [List.mem_singleton] at hp
    subst hp
    simp only [Option.some.injEq, Obj.cells.injEq] at h1
    exact ht h1.2.1
theorem Mem.empty (w : World) : Mem [] w w [] := ⟨Ext.refl _ _, fun p hp => (by cases hp), by simp, fun p hp => (by cases hp)⟩
theorem zeroPl : OwnS 52 37 (.slice none 0 0) ([] : List AdvV).length (avsC []) [] := OwnS.nil _ _
set_option maxHeartbeats 8000000 in
theorem rdue_c (T l : List AdvV) (iT : ∀ x ∈ T, IsAv x) (il : ∀ x ∈ l, IsAv x) (vt vl : Value) (fl now : Int) (W : World) (hST : SlAt W 37 vt T.length (avsC T)) (hSl : SlAt W 37 vl l.length (avsC l)) :
    Cal Try.prog 41 [.agg (plC vt fl).toArray, .int .i64 now, vl].toArray W fun r w' => DueP (dueV T fl now l) r w' W := by
  have k0 := rvalid_c T iT vt fl
  have k1 := rvalidAs_c l il vl
  have h1 := hST.one
  unfold plC at *
  cases c1 : validAs T && isTime fl
  · have hD : dueV T fl now l = ⟨[], 0, [], false, 1⟩ := by unfold dueV; rw [c1]; rfl
    rw [hD]
    refine fn_ofM (n := 155) [] Try.func41 rfl rfl rfl ?_
    intro a w F M hwW
    refine c_seq ?_
    refine c_region ?_
    (refine stepD rfl F rfl (o_box M (F.ev rfl) rfl ?_); clear F; clear M; intro b3 w M a F)
    (refine stepD rfl F rfl (o_alloc M ?_); clear F; clear M; intro b6 w M a F)
    refine stepD rfl F rfl (o_assign (F.ev rfl) ?_); clear F; clear a; intro a F
    refine stepD rfl F rfl (o_assign (F.ev rfl) ?_); clear F; clear a; intro a F
    refine stepD rfl F rfl (o_assign (F.ev rfl) ?_); clear F; clear a; intro a F
    with_reducible refine l_nil ?_
    with_reducible refine q_then ?_
    with_reducible refine c_seq ?_
    with_reducible refine c_seq ?_
    with_reducible refine c_region ?_
    refine stepD rfl F rfl (o_loadA M (F.ev rfl) (by repeat (first | exact .here | apply Has.there)) (by first | assumption | rfl) ?_); clear F; clear a; intro a F
    (refine stepD rfl F rfl (o_call (F.ev rfl) (F.evs rfl) (Cal.mono (k0 _ (hST.later M.ext)) ?_)); clear F; clear a; rintro _ w ⟨rfl, hE⟩ a F; replace M := M.later hE; clear hE)
    rw [c1] at F
    refine stepD rfl F rfl (o_not (F.ev rfl) ?_); clear F; clear a; intro a F
    refine stepD rfl F rfl (o_move (F.ev rfl) ?_); clear F; clear a; intro a F
    refine stepOff F rfl rfl rfl rfl ?_; clear F; clear a; intro a F
    refine stepOff F rfl rfl rfl rfl ?_; clear F; clear a; intro a F
    refine stepOff F rfl rfl rfl rfl ?_; clear F; clear a; intro a F
    refine stepD rfl F rfl (o_pickT (F.ev rfl) (F.ev rfl) ?_); clear F; clear a; intro a F
    with_reducible refine l_nil ?_
    with_reducible refine q_then ?_
    refine c_true F rfl rfl ?_
    with_reducible refine c_seq ?_
    with_reducible refine c_region ?_
    refine stepD rfl F rfl (o_build F rfl rfl ?_); clear F; clear a; intro a F
    (refine stepN rfl F (o_storeA M (F.ev rfl) (F.ev rfl) (by rfl) (by rfl) (by repeat (first | exact .here | apply Has.there)) (by rfl) (by repeat (first | exact .here | apply Upd.there)) ?_); clear F; clear M; intro w M a F)
    refine stepD rfl F rfl (o_assign (F.ev rfl) ?_); clear F; clear a; intro a F
    refine stepD rfl F rfl (o_assign (F.ev rfl) ?_); clear F; clear a; intro a F
    refine stepD rfl F rfl (o_assign (F.ev rfl) ?_); clear F; clear a; intro a F
    with_reducible refine l_nil ?_
    with_reducible refine q_then ?_
    with_reducible refine c_ret ?_
    with_reducible refine q_thenR ?_
    exact p_ret F rfl (.cons (.cell (F.ev rfl) (run_loadVar_agg TAgg.h (M.heap (by repeat (first | exact .here | apply Has.there))) rfl)) (.cons (.tmp (F.ev rfl)) (.cons (.tmp (F.ev rfl)) (.cons (.tmp (F.ev rfl)) .nil)))) ⟨_, _, [], [], rfl, zeroPl, zeroPl, M.sub (by simp)⟩
  cases c2 : validAs l
  · have hD : dueV T fl now l = ⟨[], 0, [], false, 1⟩ := by unfold dueV; rw [c1, c2]; rfl
    rw [hD]
    refine fn_ofM (n := 155) [] Try.func41 rfl rfl rfl ?_
    intro a w F M hwW
    refine c_seq ?_
    refine c_region ?_
    (refine stepD rfl F rfl (o_box M (F.ev rfl) rfl ?_); clear F; clear M; intro b3 w M a F)
    (refine stepD rfl F rfl (o_alloc M ?_); clear F; clear M; intro b6 w M a F)
    refine stepD rfl F rfl (o_assign (F.ev rfl) ?_); clear F; clear a; intro a F
    refine stepD rfl F rfl (o_assign (F.ev rfl) ?_); clear F; clear a; intro a F
    refine stepD rfl F rfl (o_assign (F.ev rfl) ?_); clear F; clear a; intro a F
    with_reducible refine l_nil ?_
    with_reducible refine q_then ?_
    with_reducible refine c_seq ?_
    with_reducible refine c_seq ?_
    with_reducible refine c_region ?_
    refine stepD rfl F rfl (o_loadA M (F.ev rfl) (by repeat (first | exact .here | apply Has.there)) (by first | assumption | rfl) ?_); clear F; clear a; intro a F
    (refine stepD rfl F rfl (o_call (F.ev rfl) (F.evs rfl) (Cal.mono (k0 _ (hST.later M.ext)) ?_)); clear F; clear a; rintro _ w ⟨rfl, hE⟩ a F; replace M := M.later hE; clear hE)
    rw [c1] at F
    refine stepD rfl F rfl (o_not (F.ev rfl) ?_); clear F; clear a; intro a F
    refine stepD rfl F rfl (o_move (F.ev rfl) ?_); clear F; clear a; intro a F
    refine stepG rfl F rfl rfl rfl (o_move (F.ev rfl) ?_); clear F; clear a; intro a F
    (refine stepG rfl F rfl rfl rfl (o_call (F.ev rfl) (F.evs rfl) (Cal.mono (k1 _ (hSl.later M.ext)) ?_)); clear F; clear a; rintro _ w ⟨rfl, hE⟩ a F; replace M := M.later hE; clear hE)
    rw [c2] at F
    refine stepG rfl F rfl rfl rfl (o_not (F.ev rfl) ?_); clear F; clear a; intro a F
    refine stepD rfl F rfl (o_pickF (F.ev rfl) (F.ev rfl) ?_); clear F; clear a; intro a F
    with_reducible refine l_nil ?_
    with_reducible refine q_then ?_
    refine c_true F rfl rfl ?_
    with_reducible refine c_seq ?_
    with_reducible refine c_region ?_
    refine stepD rfl F rfl (o_build F rfl rfl ?_); clear F; clear a; intro a F
    (refine stepN rfl F (o_storeA M (F.ev rfl) (F.ev rfl) (by rfl) (by rfl) (by repeat (first | exact .here | apply Has.there)) (by rfl) (by repeat (first | exact .here | apply Upd.there)) ?_); clear F; clear M; intro w M a F)
    refine stepD rfl F rfl (o_assign (F.ev rfl) ?_); clear F; clear a; intro a F
    refine stepD rfl F rfl (o_assign (F.ev rfl) ?_); clear F; clear a; intro a F
    refine stepD rfl F rfl (o_assign (F.ev rfl) ?_); clear F; clear a; intro a F
    with_reducible refine l_nil ?_
    with_reducible refine q_then ?_
    with_reducible refine c_ret ?_
    with_reducible refine q_thenR ?_
    exact p_ret F rfl (.cons (.cell (F.ev rfl) (run_loadVar_agg TAgg.h (M.heap (by repeat (first | exact .here | apply Has.there))) rfl)) (.cons (.tmp (F.ev rfl)) (.cons (.tmp (F.ev rfl)) (.cons (.tmp (F.ev rfl)) .nil)))) ⟨_, _, [], [], rfl, zeroPl, zeroPl, M.sub (by simp)⟩
  cases c3 : isTime now
  · have hD : dueV T fl now l = ⟨[], 0, [], false, 2⟩ := by unfold dueV; rw [c1, c2, c3]; rfl
    rw [hD]
    refine fn_ofM (n := 155) [] Try.func41 rfl rfl rfl ?_
    intro a w F M hwW
    refine c_seq ?_
    refine c_region ?_
    (refine stepD rfl F rfl (o_box M (F.ev rfl) rfl ?_); clear F; clear M; intro b3 w M a F)
    (refine stepD rfl F rfl (o_alloc M ?_); clear F; clear M; intro b6 w M a F)
    refine stepD rfl F rfl (o_assign (F.ev rfl) ?_); clear F; clear a; intro a F
    refine stepD rfl F rfl (o_assign (F.ev rfl) ?_); clear F; clear a; intro a F
    refine stepD rfl F rfl (o_assign (F.ev rfl) ?_); clear F; clear a; intro a F
    with_reducible refine l_nil ?_
    with_reducible refine q_then ?_
    with_reducible refine c_seq ?_
    with_reducible refine c_seq ?_
    with_reducible refine c_region ?_
    refine stepD rfl F rfl (o_loadA M (F.ev rfl) (by repeat (first | exact .here | apply Has.there)) (by first | assumption | rfl) ?_); clear F; clear a; intro a F
    (refine stepD rfl F rfl (o_call (F.ev rfl) (F.evs rfl) (Cal.mono (k0 _ (hST.later M.ext)) ?_)); clear F; clear a; rintro _ w ⟨rfl, hE⟩ a F; replace M := M.later hE; clear hE)
    rw [c1] at F
    refine stepD rfl F rfl (o_not (F.ev rfl) ?_); clear F; clear a; intro a F
    refine stepD rfl F rfl (o_move (F.ev rfl) ?_); clear F; clear a; intro a F
    refine stepG rfl F rfl rfl rfl (o_move (F.ev rfl) ?_); clear F; clear a; intro a F
    (refine stepG rfl F rfl rfl rfl (o_call (F.ev rfl) (F.evs rfl) (Cal.mono (k1 _ (hSl.later M.ext)) ?_)); clear F; clear a; rintro _ w ⟨rfl, hE⟩ a F; replace M := M.later hE; clear hE)
    rw [c2] at F
    refine stepG rfl F rfl rfl rfl (o_not (F.ev rfl) ?_); clear F; clear a; intro a F
    refine stepD rfl F rfl (o_pickF (F.ev rfl) (F.ev rfl) ?_); clear F; clear a; intro a F
    with_reducible refine l_nil ?_
    with_reducible refine q_then ?_
    refine c_false F rfl rfl ?_
    with_reducible refine c_skip ?_
    with_reducible refine q_then ?_
    with_reducible refine c_seq ?_
    with_reducible refine c_seq ?_
    with_reducible refine c_region ?_
    refine stepD rfl F rfl (o_move (F.ev rfl) ?_); clear F; clear a; intro a F
    (refine stepD rfl F rfl (o_call (F.ev rfl) (F.evs rfl) (Cal.mono (risTime_c now _) ?_)); clear F; clear a; rintro _ w ⟨rfl, hE⟩ a F; replace M := M.later hE; clear hE)
    rw [c3] at F
    refine stepD rfl F rfl (o_not (F.ev rfl) ?_); clear F; clear a; intro a F
    with_reducible refine l_nil ?_
    with_reducible refine q_then ?_
    refine c_true F rfl rfl ?_
    with_reducible refine c_seq ?_
    with_reducible refine c_region ?_
    refine stepD rfl F rfl (o_build F rfl rfl ?_); clear F; clear a; intro a F
    (refine stepN rfl F (o_storeA M (F.ev rfl) (F.ev rfl) (by rfl) (by rfl) (by repeat (first | exact .here | apply Has.there)) (by rfl) (by repeat (first | exact .here | apply Upd.there)) ?_); clear F; clear M; intro w M a F)
    refine stepD rfl F rfl (o_assign (F.ev rfl) ?_); clear F; clear a; intro a F
    refine stepD rfl F rfl (o_assign (F.ev rfl) ?_); clear F; clear a; intro a F
    refine stepD rfl F rfl (o_assign (F.ev rfl) ?_); clear F; clear a; intro a F
    with_reducible refine l_nil ?_
    with_reducible refine q_then ?_
    with_reducible refine c_ret ?_
    with_reducible refine q_thenR ?_
    exact p_ret F rfl (.cons (.cell (F.ev rfl) (run_loadVar_agg TAgg.h (M.heap (by repeat (first | exact .here | apply Has.there))) rfl)) (.cons (.tmp (F.ev rfl)) (.cons (.tmp (F.ev rfl)) (.cons (.tmp (F.ev rfl)) .nil)))) ⟨_, _, [], [], rfl, zeroPl, zeroPl, M.sub (by simp)⟩
  obtain ⟨c4, c5⟩ := Bool.and_eq_true_iff.1 c1
  have hTl := (validAs_iff.1 c4).1
  have hll := (validAs_iff.1 c2).1
  have aT := validAs_asc c4
  have al := validAs_asc c2
  have hnow : 0 ≤ now ∧ now ≤ 1099511627776 := by
    unfold isTime at c3
    simpa using c3
  have hD : dueV T fl now l = ⟨l, if decide (fl ≤ now) then laterV now 3 else fl, mrg (decide (fl ≤ now)) l T, (mrg (decide (fl ≤ now)) l T).any fun a => decide (a.own.met = inf), 0⟩ := by unfold dueV; rw [c1, c2, c3]; rfl
  rw [hD]
  have jT : ∀ x ∈ T, IsDv x.to := fun x h => (iT x h).1
  have jl : ∀ x ∈ l, IsDv x.to := fun x h => (il x h).1
  have hmlen := mrg_len (decide (fl ≤ now)) l T
  refine fn_ofM (n := 155) [] Try.func41 rfl rfl rfl ?_
  intro a w F M hwW
  refine c_seq ?_
  refine c_region ?_
  (refine stepD rfl F rfl (o_box M (F.ev rfl) rfl ?_); clear F; clear M; intro b3 w M a F)
  (refine stepD rfl F rfl (o_alloc M ?_); clear F; clear M; intro b6 w M a F)
  refine stepD rfl F rfl (o_assign (F.ev rfl) ?_); clear F; clear a; intro a F
  refine stepD rfl F rfl (o_assign (F.ev rfl) ?_); clear F; clear a; intro a F
  refine stepD rfl F rfl (o_assign (F.ev rfl) ?_); clear F; clear a; intro a F
  with_reducible refine l_nil ?_
  with_reducible refine q_then ?_
  with_reducible refine c_seq ?_
  with_reducible refine c_seq ?_
  with_reducible refine c_region ?_
  refine stepD rfl F rfl (o_loadA M (F.ev rfl) (by repeat (first | exact .here | apply Has.there)) (by first | assumption | rfl) ?_); clear F; clear a; intro a F
  (refine stepD rfl F rfl (o_call (F.ev rfl) (F.evs rfl) (Cal.mono (k0 _ (hST.later M.ext)) ?_)); clear F; clear a; rintro _ w ⟨rfl, hE⟩ a F; replace M := M.later hE; clear hE)
  rw [c1] at F
  refine stepD rfl F rfl (o_not (F.ev rfl) ?_); clear F; clear a; intro a F
  refine stepD rfl F rfl (o_move (F.ev rfl) ?_); clear F; clear a; intro a F
  refine stepG rfl F rfl rfl rfl (o_move (F.ev rfl) ?_); clear F; clear a; intro a F
  (refine stepG rfl F rfl rfl rfl (o_call (F.ev rfl) (F.evs rfl) (Cal.mono (k1 _ (hSl.later M.ext)) ?_)); clear F; clear a; rintro _ w ⟨rfl, hE⟩ a F; replace M := M.later hE; clear hE)
  rw [c2] at F
  refine stepG rfl F rfl rfl rfl (o_not (F.ev rfl) ?_); clear F; clear a; intro a F
  refine stepD rfl F rfl (o_pickF (F.ev rfl) (F.ev rfl) ?_); clear F; clear a; intro a F
  with_reducible refine l_nil ?_
  with_reducible refine q_then ?_
  refine c_false F rfl rfl ?_
  with_reducible refine c_skip ?_
  with_reducible refine q_then ?_
  with_reducible refine c_seq ?_
  with_reducible refine c_seq ?_
  with_reducible refine c_region ?_
  refine stepD rfl F rfl (o_move (F.ev rfl) ?_); clear F; clear a; intro a F
  (refine stepD rfl F rfl (o_call (F.ev rfl) (F.evs rfl) (Cal.mono (risTime_c now _) ?_)); clear F; clear a; rintro _ w ⟨rfl, hE⟩ a F; replace M := M.later hE; clear hE)
  rw [c3] at F
  refine stepD rfl F rfl (o_not (F.ev rfl) ?_); clear F; clear a; intro a F
  with_reducible refine l_nil ?_
  with_reducible refine q_then ?_
  refine c_false F rfl rfl ?_
  with_reducible refine c_skip ?_
  with_reducible refine q_then ?_
  with_reducible refine c_seq ?_
  with_reducible refine c_region ?_
  refine stepD rfl F rfl (o_move (F.ev rfl) ?_); clear F; clear a; intro a F
  refine stepD rfl F rfl (o_fieldAddr (F.ev rfl) ?_); clear F; clear a; intro a F
  refine stepD rfl F rfl (o_load1 M (F.ev rfl) (by repeat (first | exact .here | apply Has.there)) (by first | assumption | rfl) ?_); clear F; clear a; intro a F
  refine stepD rfl F rfl (o_geq (F.ev rfl) (F.ev rfl) ?_); clear F; clear a; intro a F
  refine stepD rfl F rfl (o_assign (F.ev rfl) ?_); clear F; clear a; intro a F
  with_reducible refine l_nil ?_
  with_reducible refine q_then ?_
  with_reducible refine c_seq ?_
  have k3 := rget_c T iT (by omega) vt
  generalize decide (fl ≤ now) = full at *
  replace F := F.only [10, 2, 1, 3, 6] rfl
  refine c_draw 6 F (by kernel_rfl) ?_
  intro w1 hE hok
  have M1 := M.later hE
  refine mK hok rfl rfl (fun a' w' F' E' => o_move (F'.ev rfl) ⟨Ext.refl _ _, rfl⟩) ?_
  refine mX (V := NewP w1.heap.size (PhA l)) hok rfl rfl (NewP.stays _ _) (fun a' w' F' E' D' => o_append (OwnS.nil 52 37) (Mem.empty w') .here (F'.ev rfl) (F'.ev rfl) ((hSl.later (M1.ext.trans E')).src avs_one) (by omega) (by omega) (fun u ent w'' hO M'' => newP_of E' ⟨ent, by rw [Nat.zero_add, List.nil_append] at hO; exact hO, M''⟩)) ?_
  refine mK hok rfl rfl (fun a' w' F' E' => o_fieldAddr (F'.ev rfl) ⟨Ext.refl _ _, rfl⟩) ?_
  refine mK hok rfl rfl (fun a' w' F' E' => o_load1 (M1.later E') (F'.ev rfl) (by repeat (first | exact .here | apply Has.there)) (by first | assumption | rfl) ⟨Ext.refl _ _, rfl⟩) ?_
  refine mX (V := NewP w1.heap.size (PhPl l fl)) hok rfl rfl (NewP.stays _ _) (fun a' w' F' E' D' => by
    obtain ⟨ent, g1, g2⟩ := D' 1 (memDep rfl) _ rfl
    obtain ⟨p, c, g3⟩ := OwnS.slice g1
    have F2 := F'.know (d := 38) g3
    exact o_build F2 rfl rfl ⟨Ext.refl _ _, ent, ⟨_, rfl, g3 ▸ g1⟩, g2⟩) ?_
  refine mAl hok rfl rfl (Al.stays _ _) (fun w => Ext.alloc w _) (fun a' w' F' E' => run_al) ?_
  (refine mDone rfl rfl ?_; clear F; clear M; intro a w F hE2 hX hTT hDD hPP; have M := M1.later hE2; (try dsimp only at F))
  obtain ⟨eu, ⟨u, hr, hO⟩, hN⟩ := hX 4 _ rfl
  obtain ⟨b11, e_1, g_1, q_1⟩ := hX 5 _ rfl
  have hap := OwnS.apart hO hN.at_ (by decide) q_1
  replace M := M.joinNew M1 hN
  replace M := Mem.al (pre := eu) M M1 q_1 g_1 hap
  replace F := (F.know (d := 41) hr).know (d := 11) e_1
  clear hr e_1 g_1 q_1 hap hN M1 hX hE2 hok hE hTT hDD hPP
  obtain ⟨p, c, rfl⟩ := hO.slice
  dsimp only [ptrTo] at F
  (refine stepN rfl F (o_storeA M (F.ev rfl) (F.ev rfl) (by rfl) (by rfl) (by repeat (first | exact .here | apply Has.there)) (by rfl) (by repeat (first | exact .here | apply Upd.there)) ?_); clear F; clear M; intro w M a F)
  replace F := F.only [10, 2, 1, 3, 6, 11] rfl
  refine l_nil ?_
  dsimp only
  refine q_then ?_
  refine c_seq ?_
  refine c_cut (fun a w => Frm a 155 [] [(10, .bool full), (2, vl), (1, .int .i64 now), (3, .pointer (some ⟨b3, 0, none⟩)), (6, .pointer (some ⟨b6, 0, none⟩)), (11, .pointer (some ⟨b11, 0, none⟩))] ∧ Mem [] W w ((b11, .cells (plC (.slice p l.length c) (if full = true then laterV now 3 else fl)).toArray 24 (0, 0)) :: (eu ++ [(b6, .cells #[.slice none 0 0, .int .i64 0] 24 (0, 0)), (b3, .cells #[vt, .int .i64 fl] 24 (0, 0))]))) ?_ ?_
  · cases full
    · with_reducible refine c_seq ?_
      with_reducible refine c_region ?_
      refine stepD rfl F rfl (o_move (F.ev rfl) ?_); clear F; clear a; intro a F
      with_reducible refine l_nil ?_
      with_reducible refine q_then ?_
      refine c_false F rfl rfl ?_
      with_reducible refine c_skip ?_
      exact ⟨F.only [10, 2, 1, 3, 6, 11] rfl, M⟩
    · with_reducible refine c_seq ?_
      with_reducible refine c_region ?_
      refine stepD rfl F rfl (o_move (F.ev rfl) ?_); clear F; clear a; intro a F
      with_reducible refine l_nil ?_
      with_reducible refine q_then ?_
      refine c_true F rfl rfl ?_
      with_reducible refine c_region ?_
      refine stepD rfl F rfl (o_move (F.ev rfl) ?_); clear F; clear a; intro a F
      (refine stepD rfl F rfl (o_call (F.ev rfl) (F.evs rfl) (Cal.mono (rafter_c now 3 hnow.1 hnow.2 (by omega) (by omega) _) ?_)); clear F; clear a; rintro _ w ⟨rfl, hE⟩ a F; replace M := M.later hE; clear hE)
      refine stepD rfl F rfl (o_fieldAddr (F.ev rfl) ?_); clear F; clear a; intro a F
      (refine stepN rfl F (o_store1 M (F.ev rfl) (F.ev rfl) rfl (by repeat (first | exact .here | apply Has.there)) (by rfl) (by repeat (first | exact .here | apply Upd.there)) ?_); clear F; clear M; intro w M a F)
      with_reducible refine l_nil ?_
      exact ⟨F.only [10, 2, 1, 3, 6, 11] rfl, M⟩
  clear F M a w
  rintro a w ⟨F, M⟩
  generalize (if full = true then laterV now 3 else fl) = fl2 at *
  obtain ⟨ql, cl, rfl, hcl, hspl, hlenl, hml⟩ := id hSl
  obtain ⟨qt, ct, rfl, hct, hspt, hlent, hmt⟩ := id hST
  with_reducible refine q_then ?_
  with_reducible refine c_seq ?_
  with_reducible refine c_region ?_
  refine stepD rfl F rfl (o_assign (F.ev rfl) ?_); clear F; clear a; intro a F
  with_reducible refine l_nil ?_
  with_reducible refine q_then ?_
  with_reducible refine c_seq ?_
  with_reducible refine c_region ?_
  refine stepD rfl F rfl (o_assign (F.ev rfl) ?_); clear F; clear a; intro a F
  with_reducible refine l_nil ?_
  with_reducible refine q_then ?_
  with_reducible refine c_seq ?_
  with_reducible refine c_region ?_
  refine stepD rfl F rfl (o_assign (F.ev rfl) ?_); clear F; clear a; intro a F
  refine stepD rfl F rfl (o_assign (F.ev rfl) ?_); clear F; clear a; intro a F
  with_reducible refine l_nil ?_
  with_reducible refine q_then ?_
  with_reducible refine c_seq ?_
  with_reducible refine c_block ?_
  replace M := M.perm (l' := (b11, .cells (plC (.slice p l.length c) fl2).toArray 24 (0, 0)) :: (b6, .cells #[.slice none 0 0, .int .i64 0] 24 (0, 0)) :: (b3, .cells #[.slice qt T.length ct, .int .i64 fl] 24 (0, 0)) :: (eu ++ [])) (by classical exact List.perm_iff_count.2 fun _ => by simp only [List.count_append, List.count_cons, List.count_nil, Nat.add_zero, Nat.zero_add] <;> ac_rfl)
  refine c_loop (fun m a w => ∃ (i k : Nat) (v : Value) (out : List AdvV) (es : List (Nat × Obj)), m = (l.length - i) + (T.length - k) ∧ i ≤ l.length ∧ k ≤ T.length ∧ LoK T l i k ∧ out ++ mrg full (l.drop i) (T.drop k) = mrg full l T ∧ OwnS 52 37 v out.length (avsC out) es ∧ Frm a 155 [] [(14, .int .i64 i), (15, .int .i64 k), (12, v), (13, .bool (out.any fun a => decide (a.own.met = inf))), (10, .bool full), (2, .slice ql l.length cl), (3, .pointer (some ⟨b3, 0, none⟩)), (6, .pointer (some ⟨b6, 0, none⟩)), (11, .pointer (some ⟨b11, 0, none⟩))] ∧ Mem [] W w ((b11, .cells (plC (.slice p l.length c) fl2).toArray 24 (0, 0)) :: (b6, .cells #[.slice none 0 0, .int .i64 0] 24 (0, 0)) :: (b3, .cells #[.slice qt T.length ct, .int .i64 fl] 24 (0, 0)) :: (eu ++ es))) (l.length + T.length) ⟨0, 0, _, [], [], by omega, by omega, by omega, (fun _ _ _ _ h => by omega), rfl, OwnS.nil _ _, F.only [14, 15, 12, 13, 10, 2, 3, 6, 11] rfl, M⟩ ?_
  clear F M a w
  rintro m a w ⟨i, k, v, out, es, hm', hi, hk, hL, hout, hOs, F, M⟩
  have hol : out.length ≤ 1040 := by
    have := congrArg List.length hout
    rw [List.length_append] at this
    omega
  by_cases hlt : i < l.length ∨ k < T.length
  · refine c_seq ?_
    refine c_cut (fun a w => Frm a 155 [] [(14, .int .i64 i), (15, .int .i64 k), (12, v), (13, .bool (out.any fun a => decide (a.own.met = inf))), (10, .bool full), (2, .slice ql l.length cl), (3, .pointer (some ⟨b3, 0, none⟩)), (6, .pointer (some ⟨b6, 0, none⟩)), (11, .pointer (some ⟨b11, 0, none⟩))] ∧ Mem [] W w ((b11, .cells (plC (.slice p l.length c) fl2).toArray 24 (0, 0)) :: (b6, .cells #[.slice none 0 0, .int .i64 0] 24 (0, 0)) :: (b3, .cells #[.slice qt T.length ct, .int .i64 fl] 24 (0, 0)) :: (eu ++ es))) ?_ ?_
    · by_cases h2 : i < l.length
      · with_reducible refine c_seq ?_
        with_reducible refine c_region ?_
        refine stepD rfl F rfl (o_move (F.ev rfl) ?_); clear F; clear a; intro a F
        refine stepD rfl F rfl (o_move (F.ev rfl) ?_); clear F; clear a; intro a F
        refine stepD rfl F rfl (o_lenSl (F.ev rfl) ?_); clear F; clear a; intro a F
        refine stepD rfl F rfl (o_lssT (F.ev rfl) (F.ev rfl) (by omega) ?_); clear F; clear a; intro a F
        refine stepD rfl F rfl (o_move (F.ev rfl) ?_); clear F; clear a; intro a F
        refine stepOff F rfl rfl rfl rfl ?_; clear F; clear a; intro a F
        refine stepOff F rfl rfl rfl rfl ?_; clear F; clear a; intro a F
        refine stepOff F rfl rfl rfl rfl ?_; clear F; clear a; intro a F
        refine stepOff F rfl rfl rfl rfl ?_; clear F; clear a; intro a F
        refine stepOff F rfl rfl rfl rfl ?_; clear F; clear a; intro a F
        refine stepD rfl F rfl (o_pickT (F.ev rfl) (F.ev rfl) ?_); clear F; clear a; intro a F
        with_reducible refine l_nil ?_
        with_reducible refine q_then ?_
        refine c_true F rfl rfl ?_
        with_reducible refine c_skip ?_
        exact ⟨F.only [14, 15, 12, 13, 10, 2, 3, 6, 11] rfl, M⟩
      · have h3 : k < T.length := by omega
        with_reducible refine c_seq ?_
        with_reducible refine c_region ?_
        refine stepD rfl F rfl (o_move (F.ev rfl) ?_); clear F; clear a; intro a F
        refine stepD rfl F rfl (o_move (F.ev rfl) ?_); clear F; clear a; intro a F
        refine stepD rfl F rfl (o_lenSl (F.ev rfl) ?_); clear F; clear a; intro a F
        refine stepD rfl F rfl (o_lssF (F.ev rfl) (F.ev rfl) (by omega) ?_); clear F; clear a; intro a F
        refine stepD rfl F rfl (o_move (F.ev rfl) ?_); clear F; clear a; intro a F
        refine stepG rfl F rfl rfl rfl (o_move (F.ev rfl) ?_); clear F; clear a; intro a F
        refine stepG rfl F rfl rfl rfl (o_fieldAddr (F.ev rfl) ?_); clear F; clear a; intro a F
        refine stepG rfl F rfl rfl rfl (o_load1 M (F.ev rfl) (by repeat (first | exact .here | apply Has.there)) (by first | assumption | rfl) ?_); clear F; clear a; intro a F
        refine stepG rfl F rfl rfl rfl (o_lenSl (F.ev rfl) ?_); clear F; clear a; intro a F
        refine stepG rfl F rfl rfl rfl (o_lssT (F.ev rfl) (F.ev rfl) (by omega) ?_); clear F; clear a; intro a F
        refine stepD rfl F rfl (o_pickF (F.ev rfl) (F.ev rfl) ?_); clear F; clear a; intro a F
        with_reducible refine l_nil ?_
        with_reducible refine q_then ?_
        refine c_true F rfl rfl ?_
        with_reducible refine c_skip ?_
        exact ⟨F.only [14, 15, 12, 13, 10, 2, 3, 6, 11] rfl, M⟩
    clear F M a w
    rintro a w ⟨F, M⟩
    refine q_then ?_
    refine c_block ?_
    refine c_seq ?_
    refine c_seq ?_
    refine c_cut (fun a w => ∃ tk : Bool, ((tk = true → i < l.length ∧ (k = T.length ∨ ∃ hk : k < T.length, cmpD (l.getD i x0).to (T.getD k x0).to ≤ 0)) ∧ (tk = false → k < T.length ∧ (i = l.length ∨ ∃ hi : i < l.length, 0 < cmpD (l.getD i x0).to (T.getD k x0).to))) ∧ Frm a 155 [] ((82, .bool tk) :: [(14, .int .i64 i), (15, .int .i64 k), (12, v), (13, .bool (out.any fun a => decide (a.own.met = inf))), (10, .bool full), (2, .slice ql l.length cl), (3, .pointer (some ⟨b3, 0, none⟩)), (6, .pointer (some ⟨b6, 0, none⟩)), (11, .pointer (some ⟨b11, 0, none⟩))]) ∧ Mem [] W w ((b11, .cells (plC (.slice p l.length c) fl2).toArray 24 (0, 0)) :: (b6, .cells #[.slice none 0 0, .int .i64 0] 24 (0, 0)) :: (b3, .cells #[.slice qt T.length ct, .int .i64 fl] 24 (0, 0)) :: (eu ++ es))) ?_ ?_
    · by_cases hkT : k = T.length
      · refine c_draw 26 F (by kernel_rfl) ?_
        intro w1 hE hok
        have M1 := M.later hE
        refine mK hok rfl rfl (fun a' w' F' E' => o_move (F'.ev rfl) ⟨Ext.refl _ _, rfl⟩) ?_
        refine mK hok rfl rfl (fun a' w' F' E' => o_fieldAddr (F'.ev rfl) ⟨Ext.refl _ _, rfl⟩) ?_
        refine mK hok rfl rfl (fun a' w' F' E' => o_load1 (M1.later E') (F'.ev rfl) (by repeat (first | exact .here | apply Has.there)) (by first | assumption | rfl) ⟨Ext.refl _ _, rfl⟩) ?_
        refine mK hok rfl rfl (fun a' w' F' E' => o_lenSl (F'.ev rfl) ⟨Ext.refl _ _, rfl⟩) ?_
        refine mK hok rfl rfl (fun a' w' F' E' => o_eqlT (F'.ev rfl) (F'.ev rfl) (by omega) ⟨Ext.refl _ _, rfl⟩) ?_
        refine mK hok rfl rfl (fun a' w' F' E' => o_move (F'.ev rfl) ⟨Ext.refl _ _, rfl⟩) ?_
        refine mOff hok rfl rfl rfl rfl rfl ?_
        refine mOff hok rfl rfl rfl rfl rfl ?_
        refine mOff hok rfl rfl rfl rfl rfl ?_
        refine mOff hok rfl rfl rfl rfl rfl ?_
        refine mOff hok rfl rfl rfl rfl rfl ?_
        refine mOff hok rfl rfl rfl rfl rfl ?_
        refine mOff hok rfl rfl rfl rfl rfl ?_
        refine mOff hok rfl rfl rfl rfl rfl ?_
        refine mOff hok rfl rfl rfl rfl rfl ?_
        refine mOff hok rfl rfl rfl rfl rfl ?_
        refine mOff hok rfl rfl rfl rfl rfl ?_
        refine mOff hok rfl rfl rfl rfl rfl ?_
        refine mOff hok rfl rfl rfl rfl rfl ?_
        refine mOff hok rfl rfl rfl rfl rfl ?_
        refine mOff hok rfl rfl rfl rfl rfl ?_
        refine mOff hok rfl rfl rfl rfl rfl ?_
        refine mOff hok rfl rfl rfl rfl rfl ?_
        refine mOff hok rfl rfl rfl rfl rfl ?_
        refine mOff hok rfl rfl rfl rfl rfl ?_
        refine mK hok rfl rfl (fun a' w' F' E' => o_pickT (F'.ev rfl) (F'.ev rfl) ⟨Ext.refl _ _, rfl⟩) ?_
        (refine mDone rfl rfl ?_; clear F; clear M; intro a w F hE2 hX hTT hDD hPP; have M := M1.later hE2; clear M1; clear hX; clear hE2; clear hok; clear hE; clear hTT; clear hDD; clear hPP; (try dsimp only at F))
        with_reducible refine l_nil ?_
        exact ⟨true, ⟨fun _ => ⟨by omega, .inl hkT⟩, fun h => (by cases h)⟩, F.only [82, 14, 15, 12, 13, 10, 2, 3, 6, 11] rfl, M⟩
      have hk2 : k < T.length := by omega
      by_cases hi2 : i < l.length
      · obtain ⟨b, o, cs, t, fz, rfl, hb, hs⟩ := hml (by omega)
        obtain ⟨b', o', cs', t', fz', rfl, hb', hs'⟩ := hmt (by omega)
        obtain ⟨x, hx0⟩ : ∃ x, x = l[i] := ⟨_, rfl⟩
        obtain ⟨y, hy0⟩ : ∃ y, y = T[k] := ⟨_, rfl⟩
        have hxi : IsAv x := by rw [hx0]; exact il _ (List.getElem_mem hi2)
        have hyi : IsAv y := by rw [hy0]; exact iT _ (List.getElem_mem hk2)
        have f1 : seg cs (o + (i : Int).toNat * 37) 37 = some (avC x) := by rw [hx0]; exact seg_el (avs_len il) hs hi2 (by omega)
        have f2 : seg cs' (o' + (k : Int).toNat * 37) 37 = some (avC y) := by rw [hy0]; exact seg_el (avs_len iT) hs' hk2 (by omega)
        have f3 : seg cs (o + (i : Int).toNat * 37) 35 = some (dvC x.to) := sg_seg f1 (av_to hxi) (by omega)
        have f4 : seg cs' (o' + (k : Int).toNat * 37) 35 = some (dvC y.to) := sg_seg f2 (av_to hyi) (by omega)
        have gx : l.getD i x0 = x := by rw [hx0]; simp [hi2]
        have gy : T.getD k x0 = y := by rw [hy0]; simp [hk2]
        rw [gx, gy]
        by_cases hc : cmpD x.to y.to ≤ 0
        · refine c_draw 26 F (by kernel_rfl) ?_
          intro w1 hE hok
          have M1 := M.later hE
          refine mK hok rfl rfl (fun a' w' F' E' => o_move (F'.ev rfl) ⟨Ext.refl _ _, rfl⟩) ?_
          refine mK hok rfl rfl (fun a' w' F' E' => o_fieldAddr (F'.ev rfl) ⟨Ext.refl _ _, rfl⟩) ?_
          refine mK hok rfl rfl (fun a' w' F' E' => o_load1 (M1.later E') (F'.ev rfl) (by repeat (first | exact .here | apply Has.there)) (by first | assumption | rfl) ⟨Ext.refl _ _, rfl⟩) ?_
          refine mK hok rfl rfl (fun a' w' F' E' => o_lenSl (F'.ev rfl) ⟨Ext.refl _ _, rfl⟩) ?_
          refine mK hok rfl rfl (fun a' w' F' E' => o_eqlF (F'.ev rfl) (F'.ev rfl) (by omega) ⟨Ext.refl _ _, rfl⟩) ?_
          refine mK hok rfl rfl (fun a' w' F' E' => o_move (F'.ev rfl) ⟨Ext.refl _ _, rfl⟩) ?_
          refine mKG hok rfl rfl rfl rfl (fun a' w' F' E' => o_move (F'.ev rfl) ⟨Ext.refl _ _, rfl⟩) ?_
          refine mKG hok rfl rfl rfl rfl (fun a' w' F' E' => o_move (F'.ev rfl) ⟨Ext.refl _ _, rfl⟩) ?_
          refine mKG hok rfl rfl rfl rfl (fun a' w' F' E' => o_lenSl (F'.ev rfl) ⟨Ext.refl _ _, rfl⟩) ?_
          refine mKG hok rfl rfl rfl rfl (fun a' w' F' E' => o_lssT (F'.ev rfl) (F'.ev rfl) (by omega) ⟨Ext.refl _ _, rfl⟩) ?_
          refine mKG hok rfl rfl rfl rfl (fun a' w' F' E' => o_move (F'.ev rfl) ⟨Ext.refl _ _, rfl⟩) ?_
          refine mKG hok rfl rfl rfl rfl (fun a' w' F' E' => o_move (F'.ev rfl) ⟨Ext.refl _ _, rfl⟩) ?_
          refine mKG hok rfl rfl rfl rfl (fun a' w' F' E' => o_move (F'.ev rfl) ⟨Ext.refl _ _, rfl⟩) ?_
          refine mKG hok rfl rfl rfl rfl (fun a' w' F' E' => o_indexSl (F'.ev rfl) (F'.ev rfl) (by omega) (by omega) ⟨Ext.refl _ _, rfl⟩) ?_
          refine mKG hok rfl rfl rfl rfl (fun a' w' F' E' => o_fieldAddr (F'.ev rfl) ⟨Ext.refl _ _, rfl⟩) ?_
          refine mKG hok rfl rfl rfl rfl (fun a' w' F' E' => o_loadWA (M1.later E') (F'.ev rfl) (by assumption) (by first | assumption | rfl) ⟨Ext.refl _ _, rfl⟩) ?_
          refine mKG hok rfl rfl rfl rfl (fun a' w' F' E' => o_fieldAddr (F'.ev rfl) ⟨Ext.refl _ _, rfl⟩) ?_
          refine mKG hok rfl rfl rfl rfl (fun a' w' F' E' => o_load1 (M1.later E') (F'.ev rfl) (by repeat (first | exact .here | apply Has.there)) (by first | assumption | rfl) ⟨Ext.refl _ _, rfl⟩) ?_
          refine mKG hok rfl rfl rfl rfl (fun a' w' F' E' => o_move (F'.ev rfl) ⟨Ext.refl _ _, rfl⟩) ?_
          refine mKG hok rfl rfl rfl rfl (fun a' w' F' E' => o_indexSl (F'.ev rfl) (F'.ev rfl) (by omega) (by omega) ⟨Ext.refl _ _, rfl⟩) ?_
          refine mKG hok rfl rfl rfl rfl (fun a' w' F' E' => o_fieldAddr (F'.ev rfl) ⟨Ext.refl _ _, rfl⟩) ?_
          refine mKG hok rfl rfl rfl rfl (fun a' w' F' E' => o_loadWA (M1.later E') (F'.ev rfl) (by assumption) (by first | assumption | rfl) ⟨Ext.refl _ _, rfl⟩) ?_
          (refine mKG hok rfl rfl rfl rfl (fun a' w' F' E' => o_call (F'.ev rfl) (F'.evs rfl) (Cal.mono (rcompare_c x.to y.to hxi.1 hyi.1 _) fun _ _ hh => ⟨hh.2, hh.1⟩)) ?_)
          refine mKG hok rfl rfl rfl rfl (fun a' w' F' E' => o_leqT (F'.ev rfl) (F'.ev rfl) (by omega) ⟨Ext.refl _ _, rfl⟩) ?_
          refine mKG hok rfl rfl rfl rfl (fun a' w' F' E' => o_pickT (F'.ev rfl) (F'.ev rfl) ⟨Ext.refl _ _, rfl⟩) ?_
          refine mK hok rfl rfl (fun a' w' F' E' => o_pickF (F'.ev rfl) (F'.ev rfl) ⟨Ext.refl _ _, rfl⟩) ?_
          (refine mDone rfl rfl ?_; clear F; clear M; intro a w F hE2 hX hTT hDD hPP; have M := M1.later hE2; clear M1; clear hX; clear hE2; clear hok; clear hE; clear hTT; clear hDD; clear hPP; (try dsimp only at F))
          with_reducible refine l_nil ?_
          exact ⟨true, ⟨fun _ => ⟨hi2, .inr ⟨hk2, hc⟩⟩, fun h => (by cases h)⟩, F.only [82, 14, 15, 12, 13, 10, 2, 3, 6, 11] rfl, M⟩
        · refine c_draw 26 F (by kernel_rfl) ?_
          intro w1 hE hok
          have M1 := M.later hE
          refine mK hok rfl rfl (fun a' w' F' E' => o_move (F'.ev rfl) ⟨Ext.refl _ _, rfl⟩) ?_
          refine mK hok rfl rfl (fun a' w' F' E' => o_fieldAddr (F'.ev rfl) ⟨Ext.refl _ _, rfl⟩) ?_
          refine mK hok rfl rfl (fun a' w' F' E' => o_load1 (M1.later E') (F'.ev rfl) (by repeat (first | exact .here | apply Has.there)) (by first | assumption | rfl) ⟨Ext.refl _ _, rfl⟩) ?_
          refine mK hok rfl rfl (fun a' w' F' E' => o_lenSl (F'.ev rfl) ⟨Ext.refl _ _, rfl⟩) ?_
          refine mK hok rfl rfl (fun a' w' F' E' => o_eqlF (F'.ev rfl) (F'.ev rfl) (by omega) ⟨Ext.refl _ _, rfl⟩) ?_
          refine mK hok rfl rfl (fun a' w' F' E' => o_move (F'.ev rfl) ⟨Ext.refl _ _, rfl⟩) ?_
          refine mKG hok rfl rfl rfl rfl (fun a' w' F' E' => o_move (F'.ev rfl) ⟨Ext.refl _ _, rfl⟩) ?_
          refine mKG hok rfl rfl rfl rfl (fun a' w' F' E' => o_move (F'.ev rfl) ⟨Ext.refl _ _, rfl⟩) ?_
          refine mKG hok rfl rfl rfl rfl (fun a' w' F' E' => o_lenSl (F'.ev rfl) ⟨Ext.refl _ _, rfl⟩) ?_
          refine mKG hok rfl rfl rfl rfl (fun a' w' F' E' => o_lssT (F'.ev rfl) (F'.ev rfl) (by omega) ⟨Ext.refl _ _, rfl⟩) ?_
          refine mKG hok rfl rfl rfl rfl (fun a' w' F' E' => o_move (F'.ev rfl) ⟨Ext.refl _ _, rfl⟩) ?_
          refine mKG hok rfl rfl rfl rfl (fun a' w' F' E' => o_move (F'.ev rfl) ⟨Ext.refl _ _, rfl⟩) ?_
          refine mKG hok rfl rfl rfl rfl (fun a' w' F' E' => o_move (F'.ev rfl) ⟨Ext.refl _ _, rfl⟩) ?_
          refine mKG hok rfl rfl rfl rfl (fun a' w' F' E' => o_indexSl (F'.ev rfl) (F'.ev rfl) (by omega) (by omega) ⟨Ext.refl _ _, rfl⟩) ?_
          refine mKG hok rfl rfl rfl rfl (fun a' w' F' E' => o_fieldAddr (F'.ev rfl) ⟨Ext.refl _ _, rfl⟩) ?_
          refine mKG hok rfl rfl rfl rfl (fun a' w' F' E' => o_loadWA (M1.later E') (F'.ev rfl) (by assumption) (by first | assumption | rfl) ⟨Ext.refl _ _, rfl⟩) ?_
          refine mKG hok rfl rfl rfl rfl (fun a' w' F' E' => o_fieldAddr (F'.ev rfl) ⟨Ext.refl _ _, rfl⟩) ?_
          refine mKG hok rfl rfl rfl rfl (fun a' w' F' E' => o_load1 (M1.later E') (F'.ev rfl) (by repeat (first | exact .here | apply Has.there)) (by first | assumption | rfl) ⟨Ext.refl _ _, rfl⟩) ?_
          refine mKG hok rfl rfl rfl rfl (fun a' w' F' E' => o_move (F'.ev rfl) ⟨Ext.refl _ _, rfl⟩) ?_
          refine mKG hok rfl rfl rfl rfl (fun a' w' F' E' => o_indexSl (F'.ev rfl) (F'.ev rfl) (by omega) (by omega) ⟨Ext.refl _ _, rfl⟩) ?_
          refine mKG hok rfl rfl rfl rfl (fun a' w' F' E' => o_fieldAddr (F'.ev rfl) ⟨Ext.refl _ _, rfl⟩) ?_
          refine mKG hok rfl rfl rfl rfl (fun a' w' F' E' => o_loadWA (M1.later E') (F'.ev rfl) (by assumption) (by first | assumption | rfl) ⟨Ext.refl _ _, rfl⟩) ?_
          (refine mKG hok rfl rfl rfl rfl (fun a' w' F' E' => o_call (F'.ev rfl) (F'.evs rfl) (Cal.mono (rcompare_c x.to y.to hxi.1 hyi.1 _) fun _ _ hh => ⟨hh.2, hh.1⟩)) ?_)
          refine mKG hok rfl rfl rfl rfl (fun a' w' F' E' => o_leqF (F'.ev rfl) (F'.ev rfl) (by omega) ⟨Ext.refl _ _, rfl⟩) ?_
          refine mKG hok rfl rfl rfl rfl (fun a' w' F' E' => o_pickT (F'.ev rfl) (F'.ev rfl) ⟨Ext.refl _ _, rfl⟩) ?_
          refine mK hok rfl rfl (fun a' w' F' E' => o_pickF (F'.ev rfl) (F'.ev rfl) ⟨Ext.refl _ _, rfl⟩) ?_
          (refine mDone rfl rfl ?_; clear F; clear M; intro a w F hE2 hX hTT hDD hPP; have M := M1.later hE2; clear M1; clear hX; clear hE2; clear hok; clear hE; clear hTT; clear hDD; clear hPP; (try dsimp only at F))
          with_reducible refine l_nil ?_
          exact ⟨false, ⟨fun h => (by cases h), fun _ => ⟨hk2, .inr ⟨hi2, by omega⟩⟩⟩, F.only [82, 14, 15, 12, 13, 10, 2, 3, 6, 11] rfl, M⟩
      · refine c_draw 26 F (by kernel_rfl) ?_
        intro w1 hE hok
        have M1 := M.later hE
        refine mK hok rfl rfl (fun a' w' F' E' => o_move (F'.ev rfl) ⟨Ext.refl _ _, rfl⟩) ?_
        refine mK hok rfl rfl (fun a' w' F' E' => o_fieldAddr (F'.ev rfl) ⟨Ext.refl _ _, rfl⟩) ?_
        refine mK hok rfl rfl (fun a' w' F' E' => o_load1 (M1.later E') (F'.ev rfl) (by repeat (first | exact .here | apply Has.there)) (by first | assumption | rfl) ⟨Ext.refl _ _, rfl⟩) ?_
        refine mK hok rfl rfl (fun a' w' F' E' => o_lenSl (F'.ev rfl) ⟨Ext.refl _ _, rfl⟩) ?_
        refine mK hok rfl rfl (fun a' w' F' E' => o_eqlF (F'.ev rfl) (F'.ev rfl) (by omega) ⟨Ext.refl _ _, rfl⟩) ?_
        refine mK hok rfl rfl (fun a' w' F' E' => o_move (F'.ev rfl) ⟨Ext.refl _ _, rfl⟩) ?_
        refine mKG hok rfl rfl rfl rfl (fun a' w' F' E' => o_move (F'.ev rfl) ⟨Ext.refl _ _, rfl⟩) ?_
        refine mKG hok rfl rfl rfl rfl (fun a' w' F' E' => o_move (F'.ev rfl) ⟨Ext.refl _ _, rfl⟩) ?_
        refine mKG hok rfl rfl rfl rfl (fun a' w' F' E' => o_lenSl (F'.ev rfl) ⟨Ext.refl _ _, rfl⟩) ?_
        refine mKG hok rfl rfl rfl rfl (fun a' w' F' E' => o_lssF (F'.ev rfl) (F'.ev rfl) (by omega) ⟨Ext.refl _ _, rfl⟩) ?_
        refine mKG hok rfl rfl rfl rfl (fun a' w' F' E' => o_move (F'.ev rfl) ⟨Ext.refl _ _, rfl⟩) ?_
        refine mOff hok rfl rfl rfl rfl rfl ?_
        refine mOff hok rfl rfl rfl rfl rfl ?_
        refine mOff hok rfl rfl rfl rfl rfl ?_
        refine mOff hok rfl rfl rfl rfl rfl ?_
        refine mOff hok rfl rfl rfl rfl rfl ?_
        refine mOff hok rfl rfl rfl rfl rfl ?_
        refine mOff hok rfl rfl rfl rfl rfl ?_
        refine mOff hok rfl rfl rfl rfl rfl ?_
        refine mOff hok rfl rfl rfl rfl rfl ?_
        refine mOff hok rfl rfl rfl rfl rfl ?_
        refine mOff hok rfl rfl rfl rfl rfl ?_
        refine mOff hok rfl rfl rfl rfl rfl ?_
        refine mOff hok rfl rfl rfl rfl rfl ?_
        refine mKG hok rfl rfl rfl rfl (fun a' w' F' E' => o_pickF (F'.ev rfl) (F'.ev rfl) ⟨Ext.refl _ _, rfl⟩) ?_
        refine mK hok rfl rfl (fun a' w' F' E' => o_pickF (F'.ev rfl) (F'.ev rfl) ⟨Ext.refl _ _, rfl⟩) ?_
        (refine mDone rfl rfl ?_; clear F; clear M; intro a w F hE2 hX hTT hDD hPP; have M := M1.later hE2; clear M1; clear hX; clear hE2; clear hok; clear hE; clear hTT; clear hDD; clear hPP; (try dsimp only at F))
        with_reducible refine l_nil ?_
        exact ⟨false, ⟨fun h => (by cases h), fun _ => ⟨hk2, .inl (by omega)⟩⟩, F.only [82, 14, 15, 12, 13, 10, 2, 3, 6, 11] rfl, M⟩
    clear F M a w
    rintro a w ⟨tk, htk, F, M⟩
    cases tk
    · obtain ⟨hk2, hik⟩ := htk.2 rfl
      clear htk
      obtain ⟨b', o', cs', t', fz', rfl, hb', hs'⟩ := hmt (by omega)
      obtain ⟨y, hy0⟩ : ∃ y, y = T[k] := ⟨_, rfl⟩
      have hyi : IsAv y := by rw [hy0]; exact iT _ (List.getElem_mem hk2)
      have f2 : seg cs' (o' + (k : Int).toNat * 37) 37 = some (avC y) := by rw [hy0]; exact seg_el (avs_len iT) hs' hk2 (by omega)
      have gy : T.getD k x0 = T[k] := by simp [hk2]
      obtain ⟨hst, hlo⟩ := step_y (full := full) (l := l) (i := i) hk2 (hik.imp_right fun ⟨hi2, h⟩ => ⟨hi2, by rw [gy] at h; rw [show l.getD i x0 = l[i] by simp [hi2]] at h; exact h⟩)
      rw [hst, ← hy0] at hout
      have hL2 := hL.skip al hk2 hlo
      have f3 : (avC y).length = 37 := av_len hyi
      have f4 := av_own_met hyi
      have f5 := av_to hyi
      have f6 := av_own_seq hyi
      with_reducible refine q_then ?_
      refine c_false F rfl rfl ?_
      with_reducible refine c_skip ?_
      with_reducible refine q_then ?_
      with_reducible refine c_seq ?_
      with_reducible refine c_region ?_
      refine stepD rfl F rfl (o_fieldAddr (F.ev rfl) ?_); clear F; clear a; intro a F
      refine stepD rfl F rfl (o_load1 M (F.ev rfl) (by repeat (first | exact .here | apply Has.there)) (by first | assumption | rfl) ?_); clear F; clear a; intro a F
      refine stepD rfl F rfl (o_move (F.ev rfl) ?_); clear F; clear a; intro a F
      refine stepD rfl F rfl (o_indexSl (F.ev rfl) (F.ev rfl) (by omega) (by omega) ?_); clear F; clear a; intro a F
      refine stepD rfl F rfl (o_loadWA M (F.ev rfl) (by assumption) (by first | assumption | rfl) ?_); clear F; clear a; intro a F
      (refine stepD rfl F rfl (o_alloc M ?_); clear F; clear M; intro b19 w M a F)
      skip
      (refine stepN rfl F (o_storeA M (F.ev rfl) (F.ev rfl) (f3) (av_one y)  (by repeat (first | exact .here | apply Has.there))  (put_all (by rw [f3]; rfl)) (by repeat (first | exact .here | apply Upd.there)) ?_); clear F; clear M; intro w M a F)
      with_reducible refine l_nil ?_
      with_reducible refine q_then ?_
      with_reducible refine c_seq ?_
      with_reducible refine c_region ?_
      refine stepD rfl F rfl (o_move (F.ev rfl) ?_); clear F; clear a; intro a F
      refine stepD rfl F rfl (o_add (F.ev rfl) (F.ev rfl) (w_i64 (by omega) (by omega)) ?_); clear F; clear a; intro a F
      refine stepD rfl F rfl (o_assign (F.ev rfl) ?_); clear F; clear a; intro a F
      with_reducible refine l_nil ?_
      with_reducible refine q_then ?_
      with_reducible refine c_seq ?_
      with_reducible refine c_region ?_
      refine stepD rfl F rfl (o_fieldAddr (F.ev rfl) ?_); clear F; clear a; intro a F
      refine stepD rfl F rfl (o_fieldAddr (F.ev rfl) ?_); clear F; clear a; intro a F
      refine stepD rfl F rfl (o_load1 M (F.ev rfl) (by repeat (first | exact .here | apply Has.there)) (by first | assumption | rfl) ?_); clear F; clear a; intro a F
      refine stepD rfl F rfl (o_neq (F.ev rfl) (F.ev rfl) ?_); clear F; clear a; intro a F
      with_reducible refine l_nil ?_
      with_reducible refine q_then ?_
      by_cases he : y.own.met = inf
      · rw [decide_eq_true he, if_pos rfl, List.nil_append] at hout
        rw [show (y.own.met != 65535) = false by unfold inf at he; simp [he]] at F
        refine c_false F rfl rfl ?_
        with_reducible refine c_skip ?_
        with_reducible refine q_inB ?_
        with_reducible refine q_then ?_
        exact ⟨_, by omega, i, k + 1, v, out, es, rfl, by omega, by omega, hL2, hout, hOs, F.only [14, 15, 12, 13, 10, 2, 3, 6, 11] rfl, M.sub (.cons _ (.refl _))⟩
      · rw [decide_eq_false he, if_neg (by simp), ← List.append_assoc] at hout
        have hri : IsAv (retr y) := hyi
        have e9 : (out ++ [retr y]).any (fun a => decide (a.own.met = inf)) = true := by simp [retr]
        have e8 : (avC (retr y)).length = 37 := av_len hri
        rw [show (y.own.met != 65535) = true by unfold inf at he; simpa using he] at F
        refine c_true F rfl rfl ?_
        with_reducible refine c_seq ?_
        with_reducible refine c_region ?_
        refine stepD rfl F rfl (o_move (F.ev rfl) ?_); clear F; clear a; intro a F
        refine stepD rfl F rfl (o_fieldAddr (F.ev rfl) ?_); clear F; clear a; intro a F
        refine stepD rfl F rfl (o_loadA M (F.ev rfl) (by repeat (first | exact .here | apply Has.there)) (by first | assumption | rfl) ?_); clear F; clear a; intro a F
        refine stepD rfl F rfl (o_fieldAddr (F.ev rfl) ?_); clear F; clear a; intro a F
        refine stepD rfl F rfl (o_fieldAddr (F.ev rfl) ?_); clear F; clear a; intro a F
        refine stepD rfl F rfl (o_load1 M (F.ev rfl) (by repeat (first | exact .here | apply Has.there)) (by first | assumption | rfl) ?_); clear F; clear a; intro a F
        refine stepD rfl F rfl (o_build F rfl rfl ?_); clear F; clear a; intro a F
        (refine stepD rfl F rfl (o_build F rfl (av_build (o := retr y) hri) ?_); clear F; clear a; intro a F)
        (refine stepD rfl F rfl (o_buildSlice F M rfl rfl rfl (av_build1 hri) ?_); clear F; clear M; intro bs w M a F)
        (refine stepD rfl F rfl (o_append hOs M (.cons (.cons (.cons (.cons (.cons (.app .here)))))) (F.ev rfl) (F.ev rfl) (SrcOf.cells' (M.heap .here) (sg_all (by omega)) (av_one _)) (by omega) (by omega) ?_); clear F; clear M; intro v2 es2 w hO2 M a F)
        refine stepD rfl F rfl (o_assign (F.ev rfl) ?_); clear F; clear a; intro a F
        with_reducible refine l_nil ?_
        with_reducible refine q_then ?_
        with_reducible refine c_region ?_
        refine stepD rfl F rfl (o_assign (F.ev rfl) ?_); clear F; clear a; intro a F
        with_reducible refine l_nil ?_
        with_reducible refine q_inB ?_
        with_reducible refine q_then ?_
        exact ⟨_, by omega, i, k + 1, v2, out ++ [retr y], es2, rfl, by omega, by omega, hL2, hout, by show OwnS _ 37 _ (out ++ [retr y]).length (encL avC (out ++ [retr y])) _; rw [show (out ++ [retr y]).length = out.length + 1 by simp, encL_app, encL_one]; exact hO2, by rw [e9]; exact F.only [14, 15, 12, 13, 10, 2, 3, 6, 11] rfl, M.sub (.cons _ (.cons _ (.refl _)))⟩
    · obtain ⟨hi2, hkk⟩ := htk.1 rfl
      clear htk
      obtain ⟨b, o, cs, t, fz, rfl, hb, hs⟩ := hml (by omega)
      obtain ⟨x, hx0⟩ : ∃ x, x = l[i] := ⟨_, rfl⟩
      have hxi : IsAv x := by rw [hx0]; exact il _ (List.getElem_mem hi2)
      have f1 : seg cs (o + (i : Int).toNat * 37) 37 = some (avC x) := by rw [hx0]; exact seg_el (avs_len il) hs hi2 (by omega)
      have gx : l.getD i x0 = l[i] := by simp [hi2]
      have hstep := step_x (full := full) aT jT jl hL hi2 hk (hkk.imp_right fun ⟨h1, h2⟩ => ⟨h1, by rw [gx] at h2; rw [show T.getD k x0 = T[k] by simp [h1]] at h2; exact h2⟩)
      rw [← hx0] at hstep
      obtain ⟨k', hk1, hk2, hL2, hst, hg⟩ : ∃ k', k' ≤ T.length ∧ T.length - k' ≤ T.length - k ∧ LoK T l (i + 1) k' ∧ mrg full (l.drop i) (T.drop k) = (if keepG full T x then [x] else []) ++ mrg full (l.drop (i + 1)) (T.drop k') ∧ k' = (if (getO T x.to).isSome then k + 1 else k) := by
        rcases hstep with ⟨h1, h2, h3, h4⟩ | ⟨h3, h4⟩
        · exact ⟨k + 1, by omega, by omega, hL.both al hi2 h1 (by rw [h2, hx0]), h4, by rw [h3]; rfl⟩
        · exact ⟨k, hk, by omega, hL.next, h4, by rw [h3]; rfl⟩
      clear hstep hkk
      rw [hst] at hout
      have f3 : (avC x).length = 37 := av_len hxi
      have f4 := av_to hxi
      have f5 := av_own hxi
      have f6 := av_own_met hxi
      with_reducible refine q_then ?_
      refine c_true F rfl rfl ?_
      with_reducible refine c_seq ?_
      with_reducible refine c_region ?_
      refine stepD rfl F rfl (o_move (F.ev rfl) ?_); clear F; clear a; intro a F
      refine stepD rfl F rfl (o_move (F.ev rfl) ?_); clear F; clear a; intro a F
      refine stepD rfl F rfl (o_indexSl (F.ev rfl) (F.ev rfl) (by omega) (by omega) ?_); clear F; clear a; intro a F
      refine stepD rfl F rfl (o_loadWA M (F.ev rfl) (by assumption) (by first | assumption | rfl) ?_); clear F; clear a; intro a F
      (refine stepD rfl F rfl (o_alloc M ?_); clear F; clear M; intro b16 w M a F)
      skip
      (refine stepN rfl F (o_storeA M (F.ev rfl) (F.ev rfl) (f3) (av_one x)  (by repeat (first | exact .here | apply Has.there))  (put_all (by rw [f3]; rfl)) (by repeat (first | exact .here | apply Upd.there)) ?_); clear F; clear M; intro w M a F)
      with_reducible refine l_nil ?_
      with_reducible refine q_then ?_
      with_reducible refine c_seq ?_
      with_reducible refine c_region ?_
      refine stepD rfl F rfl (o_move (F.ev rfl) ?_); clear F; clear a; intro a F
      refine stepD rfl F rfl (o_add (F.ev rfl) (F.ev rfl) (w_i64 (by omega) (by omega)) ?_); clear F; clear a; intro a F
      refine stepD rfl F rfl (o_assign (F.ev rfl) ?_); clear F; clear a; intro a F
      with_reducible refine l_nil ?_
      with_reducible refine q_then ?_
      with_reducible refine c_seq ?_
      with_reducible refine c_region ?_
      refine stepD rfl F rfl (o_fieldAddr (F.ev rfl) ?_); clear F; clear a; intro a F
      refine stepD rfl F rfl (o_load1 M (F.ev rfl) (by repeat (first | exact .here | apply Has.there)) (by first | assumption | rfl) ?_); clear F; clear a; intro a F
      refine stepD rfl F rfl (o_fieldAddr (F.ev rfl) ?_); clear F; clear a; intro a F
      refine stepD rfl F rfl (o_loadA M (F.ev rfl) (by repeat (first | exact .here | apply Has.there)) (by first | assumption | rfl) ?_); clear F; clear a; intro a F
      (refine stepD rfl F rfl (o_call (F.ev rfl) (F.evs rfl) (Cal.mono (k3 x.to hxi.1 _ (hST.later M.ext)) ?_)); clear F; clear a; rintro _ w ⟨rfl, hE⟩ a F; replace M := M.later hE; clear hE)
      refine stepD rfl F rfl (o_move (F.ev rfl) ?_); clear F; clear a; intro a F
      refine stepD rfl F rfl (o_extract (F.ev rfl) rfl ?_); clear F; clear a; intro a F
      refine stepD rfl F rfl (o_extract (F.ev rfl) rfl ?_); clear F; clear a; intro a F
      (refine stepD rfl F rfl (o_alloc M ?_); clear F; clear M; intro b17 w M a F)
      skip
      (refine stepN rfl F (o_storeA M (F.ev rfl) (F.ev rfl) (di_len (o := (getO T x.to).getD di0) trivial) (di_one _)  (by repeat (first | exact .here | apply Has.there))  (put_all (by rw [di_len (o := (getO T x.to).getD di0) trivial]; rfl)) (by repeat (first | exact .here | apply Upd.there)) ?_); clear F; clear M; intro w M a F)
      refine stepD rfl F rfl (o_assign (F.ev rfl) ?_); clear F; clear a; intro a F
      with_reducible refine l_nil ?_
      with_reducible refine q_then ?_
      with_reducible refine c_seq ?_
      with_reducible refine c_seq ?_
      with_reducible refine c_region ?_
      refine stepD rfl F rfl (o_move (F.ev rfl) ?_); clear F; clear a; intro a F
      with_reducible refine l_nil ?_
      with_reducible refine q_then ?_
      refine c_cut (fun a w => Frm a 155 [] ((18, .bool (getO T x.to).isSome) :: (16, .pointer (some ⟨b16, 0, none⟩)) :: (17, .pointer (some ⟨b17, 0, none⟩)) :: [(14, .int .i64 ((i + 1 : Nat) : Int)), (15, .int .i64 k'), (12, v), (13, .bool (out.any fun a => decide (a.own.met = inf))), (10, .bool full), (2, .slice (some ⟨b, o, none⟩) l.length cl), (3, .pointer (some ⟨b3, 0, none⟩)), (6, .pointer (some ⟨b6, 0, none⟩)), (11, .pointer (some ⟨b11, 0, none⟩))]) ∧ Mem [] W w ((b17, .cells (diC ((getO T x.to).getD di0)).toArray 50 (0, 0)) :: (b16, .cells (avC x).toArray 52 (0, 0)) :: (b11, .cells (plC (.slice p l.length c) fl2).toArray 24 (0, 0)) :: (b6, .cells #[.slice none 0 0, .int .i64 0] 24 (0, 0)) :: (b3, .cells #[.slice qt T.length ct, .int .i64 fl] 24 (0, 0)) :: (eu ++ es))) ?_ ?_
      · cases hg2 : getO T x.to
        · rw [hg2] at F hg M
          have hg : k' = k := hg
          rw [hg]
          refine c_false F rfl rfl ?_
          with_reducible refine c_skip ?_
          exact ⟨F.only [18, 16, 17, 14, 15, 12, 13, 10, 2, 3, 6, 11] rfl, M⟩
        · rw [hg2] at F hg M
          have hg : k' = k + 1 := hg
          rw [hg]
          refine c_true F rfl rfl ?_
          with_reducible refine c_region ?_
          refine stepD rfl F rfl (o_move (F.ev rfl) ?_); clear F; clear a; intro a F
          refine stepD rfl F rfl (o_add (F.ev rfl) (F.ev rfl) (w_i64 (by omega) (by omega)) ?_); clear F; clear a; intro a F
          refine stepD rfl F rfl (o_assign (F.ev rfl) ?_); clear F; clear a; intro a F
          with_reducible refine l_nil ?_
          exact ⟨F.only [18, 16, 17, 14, 15, 12, 13, 10, 2, 3, 6, 11] rfl, M⟩
      clear F M a w
      rintro a w ⟨F, M⟩
      refine q_then ?_
      refine c_seq ?_
      refine c_seq ?_
      refine c_cut (fun a w => Frm a 155 [] ((119, .bool (keepG full T x)) :: (16, .pointer (some ⟨b16, 0, none⟩)) :: [(14, .int .i64 ((i + 1 : Nat) : Int)), (15, .int .i64 k'), (12, v), (13, .bool (out.any fun a => decide (a.own.met = inf))), (10, .bool full), (2, .slice (some ⟨b, o, none⟩) l.length cl), (3, .pointer (some ⟨b3, 0, none⟩)), (6, .pointer (some ⟨b6, 0, none⟩)), (11, .pointer (some ⟨b11, 0, none⟩))]) ∧ Mem [] W w ((b17, .cells (diC ((getO T x.to).getD di0)).toArray 50 (0, 0)) :: (b16, .cells (avC x).toArray 52 (0, 0)) :: (b11, .cells (plC (.slice p l.length c) fl2).toArray 24 (0, 0)) :: (b6, .cells #[.slice none 0 0, .int .i64 0] 24 (0, 0)) :: (b3, .cells #[.slice qt T.length ct, .int .i64 fl] 24 (0, 0)) :: (eu ++ es))) ?_ ?_
      · unfold keepG
        cases full
        · cases hg2 : getO T x.to with
          | none =>
            rw [hg2] at F M
            dsimp only [Option.isSome, Option.getD] at F M
            with_reducible refine c_region ?_
            refine stepD rfl F rfl (o_move (F.ev rfl) ?_); clear F; clear a; intro a F
            refine stepD rfl F rfl (o_move (F.ev rfl) ?_); clear F; clear a; intro a F
            refine stepG rfl F rfl rfl rfl (o_move (F.ev rfl) ?_); clear F; clear a; intro a F
            refine stepG rfl F rfl rfl rfl (o_move (F.ev rfl) ?_); clear F; clear a; intro a F
            refine stepOff F rfl rfl rfl rfl ?_; clear F; clear a; intro a F
            refine stepOff F rfl rfl rfl rfl ?_; clear F; clear a; intro a F
            refine stepOff F rfl rfl rfl rfl ?_; clear F; clear a; intro a F
            refine stepOff F rfl rfl rfl rfl ?_; clear F; clear a; intro a F
            refine stepG rfl F rfl rfl rfl (o_pickF (F.ev rfl) (F.ev rfl) ?_); clear F; clear a; intro a F
            refine stepD rfl F rfl (o_pickF (F.ev rfl) (F.ev rfl) ?_); clear F; clear a; intro a F
            refine stepD rfl F rfl (o_move (F.ev rfl) ?_); clear F; clear a; intro a F
            refine stepG rfl F rfl rfl rfl (o_move (F.ev rfl) ?_); clear F; clear a; intro a F
            refine stepG rfl F rfl rfl rfl (o_not (F.ev rfl) ?_); clear F; clear a; intro a F
            refine stepG rfl F rfl rfl rfl (o_move (F.ev rfl) ?_); clear F; clear a; intro a F
            refine stepG rfl F rfl rfl rfl (o_fieldAddr (F.ev rfl) ?_); clear F; clear a; intro a F
            refine stepG rfl F rfl rfl rfl (o_fieldAddr (F.ev rfl) ?_); clear F; clear a; intro a F
            refine stepG rfl F rfl rfl rfl (o_load1 M (F.ev rfl) (by repeat (first | exact .here | apply Has.there)) (by first | assumption | rfl) ?_); clear F; clear a; intro a F
            refine stepG rfl F rfl rfl rfl (o_neq (F.ev rfl) (F.ev rfl) ?_); clear F; clear a; intro a F
            refine stepG rfl F rfl rfl rfl (o_pickT (F.ev rfl) (F.ev rfl) ?_); clear F; clear a; intro a F
            refine stepD rfl F rfl (o_pickF (F.ev rfl) (F.ev rfl) ?_); clear F; clear a; intro a F
            with_reducible refine l_nil ?_
            refine ⟨?_, M⟩
            rw [show (false || !decide (x.own.met = inf)) = (x.own.met != 65535) by unfold inf; by_cases h : x.own.met = 65535 <;> simp [h]]
            exact F.only [119, 16, 14, 15, 12, 13, 10, 2, 3, 6, 11] rfl
          | some o2 =>
            rw [hg2] at F M
            dsimp only [Option.isSome, Option.getD] at F M
            have f7 := di_eq (a := o2) (b := x.own) trivial trivial
            have f8 := di_all (o := o2) trivial
            by_cases he : o2 = x.own
            · rw [decide_eq_true he] at f7
              with_reducible refine c_region ?_
              refine stepD rfl F rfl (o_move (F.ev rfl) ?_); clear F; clear a; intro a F
              refine stepD rfl F rfl (o_move (F.ev rfl) ?_); clear F; clear a; intro a F
              refine stepG rfl F rfl rfl rfl (o_move (F.ev rfl) ?_); clear F; clear a; intro a F
              refine stepG rfl F rfl rfl rfl (o_move (F.ev rfl) ?_); clear F; clear a; intro a F
              refine stepG rfl F rfl rfl rfl (o_loadA M (F.ev rfl) (by repeat (first | exact .here | apply Has.there)) (by first | assumption | rfl) ?_); clear F; clear a; intro a F
              refine stepG rfl F rfl rfl rfl (o_fieldAddr (F.ev rfl) ?_); clear F; clear a; intro a F
              refine stepG rfl F rfl rfl rfl (o_loadA M (F.ev rfl) (by repeat (first | exact .here | apply Has.there)) (by first | assumption | rfl) ?_); clear F; clear a; intro a F
              refine stepG rfl F rfl rfl rfl (o_neqAF (F.ev rfl) (F.ev rfl) (by first | assumption | rfl) (by first | assumption | rfl) (by assumption) ?_); clear F; clear a; intro a F
              refine stepG rfl F rfl rfl rfl (o_pickT (F.ev rfl) (F.ev rfl) ?_); clear F; clear a; intro a F
              refine stepD rfl F rfl (o_pickF (F.ev rfl) (F.ev rfl) ?_); clear F; clear a; intro a F
              refine stepD rfl F rfl (o_move (F.ev rfl) ?_); clear F; clear a; intro a F
              refine stepG rfl F rfl rfl rfl (o_move (F.ev rfl) ?_); clear F; clear a; intro a F
              refine stepG rfl F rfl rfl rfl (o_not (F.ev rfl) ?_); clear F; clear a; intro a F
              refine stepG rfl F rfl rfl rfl (o_move (F.ev rfl) ?_); clear F; clear a; intro a F
              refine stepOff F rfl rfl rfl rfl ?_; clear F; clear a; intro a F
              refine stepOff F rfl rfl rfl rfl ?_; clear F; clear a; intro a F
              refine stepOff F rfl rfl rfl rfl ?_; clear F; clear a; intro a F
              refine stepOff F rfl rfl rfl rfl ?_; clear F; clear a; intro a F
              refine stepG rfl F rfl rfl rfl (o_pickF (F.ev rfl) (F.ev rfl) ?_); clear F; clear a; intro a F
              refine stepD rfl F rfl (o_pickF (F.ev rfl) (F.ev rfl) ?_); clear F; clear a; intro a F
              with_reducible refine l_nil ?_
              refine ⟨?_, M⟩
              show Frm a 155 [] ((119, .bool (false || !decide (o2 = x.own))) :: _)
              rw [decide_eq_true he]
              exact F.only [119, 16, 14, 15, 12, 13, 10, 2, 3, 6, 11] rfl
            · rw [decide_eq_false he] at f7
              with_reducible refine c_region ?_
              refine stepD rfl F rfl (o_move (F.ev rfl) ?_); clear F; clear a; intro a F
              refine stepD rfl F rfl (o_move (F.ev rfl) ?_); clear F; clear a; intro a F
              refine stepG rfl F rfl rfl rfl (o_move (F.ev rfl) ?_); clear F; clear a; intro a F
              refine stepG rfl F rfl rfl rfl (o_move (F.ev rfl) ?_); clear F; clear a; intro a F
              refine stepG rfl F rfl rfl rfl (o_loadA M (F.ev rfl) (by repeat (first | exact .here | apply Has.there)) (by first | assumption | rfl) ?_); clear F; clear a; intro a F
              refine stepG rfl F rfl rfl rfl (o_fieldAddr (F.ev rfl) ?_); clear F; clear a; intro a F
              refine stepG rfl F rfl rfl rfl (o_loadA M (F.ev rfl) (by repeat (first | exact .here | apply Has.there)) (by first | assumption | rfl) ?_); clear F; clear a; intro a F
              refine stepG rfl F rfl rfl rfl (o_neqAT (F.ev rfl) (F.ev rfl) (by first | assumption | rfl) (by first | assumption | rfl) (by assumption) ?_); clear F; clear a; intro a F
              refine stepG rfl F rfl rfl rfl (o_pickT (F.ev rfl) (F.ev rfl) ?_); clear F; clear a; intro a F
              refine stepD rfl F rfl (o_pickF (F.ev rfl) (F.ev rfl) ?_); clear F; clear a; intro a F
              refine stepD rfl F rfl (o_move (F.ev rfl) ?_); clear F; clear a; intro a F
              refine stepOff F rfl rfl rfl rfl ?_; clear F; clear a; intro a F
              refine stepOff F rfl rfl rfl rfl ?_; clear F; clear a; intro a F
              refine stepOff F rfl rfl rfl rfl ?_; clear F; clear a; intro a F
              refine stepOff F rfl rfl rfl rfl ?_; clear F; clear a; intro a F
              refine stepOff F rfl rfl rfl rfl ?_; clear F; clear a; intro a F
              refine stepOff F rfl rfl rfl rfl ?_; clear F; clear a; intro a F
              refine stepOff F rfl rfl rfl rfl ?_; clear F; clear a; intro a F
              refine stepOff F rfl rfl rfl rfl ?_; clear F; clear a; intro a F
              refine stepD rfl F rfl (o_pickT (F.ev rfl) (F.ev rfl) ?_); clear F; clear a; intro a F
              with_reducible refine l_nil ?_
              refine ⟨?_, M⟩
              show Frm a 155 [] ((119, .bool (false || !decide (o2 = x.own))) :: _)
              rw [decide_eq_false he]
              exact F.only [119, 16, 14, 15, 12, 13, 10, 2, 3, 6, 11] rfl
        · with_reducible refine c_region ?_
          refine stepD rfl F rfl (o_move (F.ev rfl) ?_); clear F; clear a; intro a F
          refine stepD rfl F rfl (o_move (F.ev rfl) ?_); clear F; clear a; intro a F
          refine stepOff F rfl rfl rfl rfl ?_; clear F; clear a; intro a F
          refine stepOff F rfl rfl rfl rfl ?_; clear F; clear a; intro a F
          refine stepOff F rfl rfl rfl rfl ?_; clear F; clear a; intro a F
          refine stepOff F rfl rfl rfl rfl ?_; clear F; clear a; intro a F
          refine stepOff F rfl rfl rfl rfl ?_; clear F; clear a; intro a F
          refine stepOff F rfl rfl rfl rfl ?_; clear F; clear a; intro a F
          refine stepOff F rfl rfl rfl rfl ?_; clear F; clear a; intro a F
          refine stepD rfl F rfl (o_pickT (F.ev rfl) (F.ev rfl) ?_); clear F; clear a; intro a F
          refine stepD rfl F rfl (o_move (F.ev rfl) ?_); clear F; clear a; intro a F
          refine stepOff F rfl rfl rfl rfl ?_; clear F; clear a; intro a F
          refine stepOff F rfl rfl rfl rfl ?_; clear F; clear a; intro a F
          refine stepOff F rfl rfl rfl rfl ?_; clear F; clear a; intro a F
          refine stepOff F rfl rfl rfl rfl ?_; clear F; clear a; intro a F
          refine stepOff F rfl rfl rfl rfl ?_; clear F; clear a; intro a F
          refine stepOff F rfl rfl rfl rfl ?_; clear F; clear a; intro a F
          refine stepOff F rfl rfl rfl rfl ?_; clear F; clear a; intro a F
          refine stepOff F rfl rfl rfl rfl ?_; clear F; clear a; intro a F
          refine stepD rfl F rfl (o_pickT (F.ev rfl) (F.ev rfl) ?_); clear F; clear a; intro a F
          with_reducible refine l_nil ?_
          exact ⟨F.only [119, 16, 14, 15, 12, 13, 10, 2, 3, 6, 11] rfl, M⟩
      clear F M a w
      rintro a w ⟨F, M⟩
      cases hkp : keepG full T x
      · rw [hkp] at F hout
        rw [if_neg (by simp), List.nil_append] at hout
        with_reducible refine q_then ?_
        refine c_false F rfl rfl ?_
        with_reducible refine c_skip ?_
        with_reducible refine q_then ?_
        with_reducible refine c_exit ?_
        with_reducible refine q_thenX ?_
        with_reducible refine q_inBX ?_
        with_reducible refine q_then ?_
        exact ⟨_, by omega, i + 1, k', v, out, es, rfl, by omega, by omega, hL2, hout, hOs, F.only [14, 15, 12, 13, 10, 2, 3, 6, 11] rfl, M.sub (.cons _ (.cons _ (.refl _)))⟩
      · rw [hkp] at F hout
        rw [if_pos rfl, ← List.append_assoc] at hout
        have f0 := av_all hxi
        with_reducible refine q_then ?_
        refine c_true F rfl rfl ?_
        with_reducible refine c_seq ?_
        with_reducible refine c_region ?_
        refine stepD rfl F rfl (o_move (F.ev rfl) ?_); clear F; clear a; intro a F
        refine stepD rfl F rfl (o_loadA M (F.ev rfl) (by repeat (first | exact .here | apply Has.there)) (by first | assumption | rfl) ?_); clear F; clear a; intro a F
        (refine stepD rfl F rfl (o_buildSlice F M rfl rfl rfl (av_build1 hxi) ?_); clear F; clear M; intro bs w M a F)
        (refine stepD rfl F rfl (o_append hOs M (.cons (.cons (.cons (.cons (.cons (.cons (.app .here))))))) (F.ev rfl) (F.ev rfl) (SrcOf.cells' (M.heap .here) (sg_all (by omega)) (av_one _)) (by omega) (by omega) ?_); clear F; clear M; intro v2 es2 w hO2 M a F)
        have hOs2 : OwnS 52 37 v2 (out ++ [x]).length (avsC (out ++ [x])) es2 := by
          show OwnS _ 37 _ (out ++ [x]).length (encL avC (out ++ [x])) _
          rw [show (out ++ [x]).length = out.length + 1 by simp, encL_app, encL_one]
          exact hO2
        cases hu : out.any fun a => decide (a.own.met = inf)
        · have e9 : (out ++ [x]).any (fun a => decide (a.own.met = inf)) = (x.own.met == 65535) := by
            rw [any_add, hu, Bool.false_or]
            unfold inf
            by_cases h : x.own.met = 65535 <;> simp [h]
          rw [hu] at F
          refine stepD rfl F rfl (o_assign (F.ev rfl) ?_); clear F; clear a; intro a F
          with_reducible refine l_nil ?_
          with_reducible refine q_then ?_
          with_reducible refine c_region ?_
          refine stepD rfl F rfl (o_move (F.ev rfl) ?_); clear F; clear a; intro a F
          refine stepD rfl F rfl (o_move (F.ev rfl) ?_); clear F; clear a; intro a F
          refine stepG rfl F rfl rfl rfl (o_fieldAddr (F.ev rfl) ?_); clear F; clear a; intro a F
          refine stepG rfl F rfl rfl rfl (o_fieldAddr (F.ev rfl) ?_); clear F; clear a; intro a F
          refine stepG rfl F rfl rfl rfl (o_load1 M (F.ev rfl) (by repeat (first | exact .here | apply Has.there)) (by first | assumption | rfl) ?_); clear F; clear a; intro a F
          refine stepG rfl F rfl rfl rfl (o_eql (F.ev rfl) (F.ev rfl) ?_); clear F; clear a; intro a F
          refine stepD rfl F rfl (o_pickF (F.ev rfl) (F.ev rfl) ?_); clear F; clear a; intro a F
          refine stepD rfl F rfl (o_assign (F.ev rfl) ?_); clear F; clear a; intro a F
          with_reducible refine l_nil ?_
          with_reducible refine q_then ?_
          with_reducible refine c_exit ?_
          with_reducible refine q_thenX ?_
          with_reducible refine q_inBX ?_
          with_reducible refine q_then ?_
          exact ⟨_, by omega, i + 1, k', v2, out ++ [x], es2, rfl, by omega, by omega, hL2, hout, hOs2, by rw [e9]; exact F.only [14, 15, 12, 13, 10, 2, 3, 6, 11] rfl, M.sub (.cons _ (.cons _ (.cons _ (.refl _))))⟩
        · have e9 : (out ++ [x]).any (fun a => decide (a.own.met = inf)) = true := by
            rw [any_add, hu, Bool.true_or]
          rw [hu] at F
          refine stepD rfl F rfl (o_assign (F.ev rfl) ?_); clear F; clear a; intro a F
          with_reducible refine l_nil ?_
          with_reducible refine q_then ?_
          with_reducible refine c_region ?_
          refine stepD rfl F rfl (o_move (F.ev rfl) ?_); clear F; clear a; intro a F
          refine stepD rfl F rfl (o_move (F.ev rfl) ?_); clear F; clear a; intro a F
          refine stepOff F rfl rfl rfl rfl ?_; clear F; clear a; intro a F
          refine stepOff F rfl rfl rfl rfl ?_; clear F; clear a; intro a F
          refine stepOff F rfl rfl rfl rfl ?_; clear F; clear a; intro a F
          refine stepOff F rfl rfl rfl rfl ?_; clear F; clear a; intro a F
          refine stepD rfl F rfl (o_pickT (F.ev rfl) (F.ev rfl) ?_); clear F; clear a; intro a F
          refine stepD rfl F rfl (o_assign (F.ev rfl) ?_); clear F; clear a; intro a F
          with_reducible refine l_nil ?_
          with_reducible refine q_then ?_
          with_reducible refine c_exit ?_
          with_reducible refine q_thenX ?_
          with_reducible refine q_inBX ?_
          with_reducible refine q_then ?_
          exact ⟨_, by omega, i + 1, k', v2, out ++ [x], es2, rfl, by omega, by omega, hL2, hout, hOs2, by rw [e9]; exact F.only [14, 15, 12, 13, 10, 2, 3, 6, 11] rfl, M.sub (.cons _ (.cons _ (.cons _ (.refl _))))⟩
  · obtain rfl : i = l.length := by omega
    obtain rfl : k = T.length := by omega
    rw [List.drop_length, List.drop_length, show mrg full [] [] = [] by rw [mrg], List.append_nil] at hout
    subst hout
    with_reducible refine c_seq ?_
    with_reducible refine c_seq ?_
    with_reducible refine c_region ?_
    refine stepD rfl F rfl (o_move (F.ev rfl) ?_); clear F; clear a; intro a F
    refine stepD rfl F rfl (o_move (F.ev rfl) ?_); clear F; clear a; intro a F
    refine stepD rfl F rfl (o_lenSl (F.ev rfl) ?_); clear F; clear a; intro a F
    refine stepD rfl F rfl (o_lssF (F.ev rfl) (F.ev rfl) (by omega) ?_); clear F; clear a; intro a F
    refine stepD rfl F rfl (o_move (F.ev rfl) ?_); clear F; clear a; intro a F
    refine stepG rfl F rfl rfl rfl (o_move (F.ev rfl) ?_); clear F; clear a; intro a F
    refine stepG rfl F rfl rfl rfl (o_fieldAddr (F.ev rfl) ?_); clear F; clear a; intro a F
    refine stepG rfl F rfl rfl rfl (o_load1 M (F.ev rfl) (by repeat (first | exact .here | apply Has.there)) (by first | assumption | rfl) ?_); clear F; clear a; intro a F
    refine stepG rfl F rfl rfl rfl (o_lenSl (F.ev rfl) ?_); clear F; clear a; intro a F
    refine stepG rfl F rfl rfl rfl (o_lssF (F.ev rfl) (F.ev rfl) (by omega) ?_); clear F; clear a; intro a F
    refine stepD rfl F rfl (o_pickF (F.ev rfl) (F.ev rfl) ?_); clear F; clear a; intro a F
    with_reducible refine l_nil ?_
    with_reducible refine q_then ?_
    refine c_false F rfl rfl ?_
    with_reducible refine c_exit ?_
    with_reducible refine q_thenX ?_
    with_reducible refine q_thenX ?_
    with_reducible refine q_inBX ?_
    with_reducible refine q_then ?_
    with_reducible refine c_seq ?_
    with_reducible refine c_region ?_
    refine stepD rfl F rfl (o_loadA M (F.ev rfl) (by repeat (first | exact .here | apply Has.there)) (by first | assumption | rfl) ?_); clear F; clear a; intro a F
    refine stepD rfl F rfl (o_move (F.ev rfl) ?_); clear F; clear a; intro a F
    refine stepD rfl F rfl (o_move (F.ev rfl) ?_); clear F; clear a; intro a F
    (refine stepN rfl F (o_storeA M (F.ev rfl) (F.ev rfl) (by rfl) (by rfl) (by repeat (first | exact .here | apply Has.there)) (by rfl) (by repeat (first | exact .here | apply Upd.there)) ?_); clear F; clear M; intro w M a F)
    refine stepD rfl F rfl (o_assign (F.ev rfl) ?_); clear F; clear a; intro a F
    refine stepD rfl F rfl (o_assign (F.ev rfl) ?_); clear F; clear a; intro a F
    refine stepD rfl F rfl (o_assign (F.ev rfl) ?_); clear F; clear a; intro a F
    with_reducible refine l_nil ?_
    with_reducible refine q_then ?_
    with_reducible refine c_ret ?_
    exact p_ret F rfl (.cons (.cell (F.ev rfl) (run_loadVar_agg TAgg.h (M.heap (by repeat (first | exact .here | apply Has.there))) rfl)) (.cons (.tmp (F.ev rfl)) (.cons (.tmp (F.ev rfl)) (.cons (.tmp (F.ev rfl)) .nil)))) ⟨_, _, eu, es, rfl, hO, hOs, M.sub (.cons _ (.cons _ (.cons _ (.refl _))))⟩
end Go.Proofs.Ytilgoepokaaleaa

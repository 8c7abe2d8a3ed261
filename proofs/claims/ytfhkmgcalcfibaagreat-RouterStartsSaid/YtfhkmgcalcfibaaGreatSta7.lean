/-
  PROVED: for every input RouterStarts answers true, and each argument reads afterwards as it read before.
-/
import Derived.Test.YtfhkmgcalcfibaaGreatSta6
set_option linter.unusedVariables false
set_option linter.unusedSimpArgs false
set_option maxHeartbeats 64000000
namespace Go.Proofs.YtfhkmgcalcfibaaGreat
open Go.RowKit
variable [Y : Sy]
variable {P : Program} {t : Tr Value}
/-! ### maps, plain -/
inductive MKR {κ : Type} (ρ : Rl) : List (κ × Value) → List (κ × Value) → Prop
 | nil : MKR ρ [] []
 | cons {a : κ} {v u : Value} {l l' : List (κ × Value)} (h : VR ρ v u) (t : MKR ρ l l') : MKR ρ ((a, v) :: l) ((a, u) :: l')
section
variable {κ : Type} [DecidableEq κ] {ρ : Rl}
theorem MKR.get {a : κ} {m m' : List (κ × Value)} (h : MKR ρ m m') : (getA a m = none ∧ getA a m' = none) ∨ ∃ v u, getA a m = some v ∧ getA a m' = some u ∧ VR ρ v u := by
 induction h with
 | nil => exact .inl ⟨rfl, rfl⟩
 | cons h t ih =>
  unfold getA
  split
  ·exact .inr ⟨_, _, rfl, rfl, h⟩
  ·exact ih
theorem MKR.put {a : κ} {v u : Value} {m m' : List (κ × Value)} (h : MKR ρ m m') (hv : VR ρ v u) : MKR ρ (putA a v m) (putA a u m') := by
 induction h with
 | nil => exact .cons hv .nil
 | cons h t ih =>
  unfold putA
  split
  ·exact .cons hv t
  ·exact .cons h ih
omit [DecidableEq κ] in
theorem MKR.oks {ok : κ → Prop} : ∀ {m m' : List (κ × Value)}, MKR ρ m m' → (∀ p ∈ m, ok p.1) → ∀ p ∈ m', ok p.1
 | _, _, .nil, h => h
 | _, _, .cons (a := a) (v := v) _ t, h => fun p hp => by
  rcases List.mem_cons.1 hp with rfl | hp
  ·exact h (a, v) List.mem_cons_self
  ·exact MKR.oks t (fun p hp => h p (List.mem_cons_of_mem _ hp)) p hp
omit [DecidableEq κ] in
theorem MKR.of {kv : κ → Value} : ∀ {mk : List (κ × Value)} {es : List MapEntry}, es.map (·.key) = (mk.map fun p => (kv p.1, p.2)).map (·.1) → VRs ρ ((mk.map fun p => (kv p.1, p.2)).map (·.2)) (es.map (·.val)) →
  ∃ mr : List (κ × Value), MKR ρ mk mr ∧ es.map (fun e => (e.key, e.val)) = mr.map fun p => (kv p.1, p.2)
 | [], [], _, _ => ⟨[], .nil, rfl⟩
 | [], _ :: _, h, _ => by cases h
 | _ :: _, [], h, _ => by cases h
 | p :: mk, e :: es, h, h2 => by
  simp only [List.map_cons, List.cons.injEq] at h
  cases h2 with
  | cons k1 k2 =>
   obtain ⟨mr, q1, q2⟩ := MKR.of (mk := mk) (es := es) h.2 k2
   exact ⟨(p.1, e.val) :: mr, .cons k1 q1, by simp [q2, h.1]⟩
omit [DecidableEq κ] in
theorem MKR.back {kv : κ → Value} {mk mr : List (κ × Value)} {es : List MapEntry} (h : MKR ρ mk mr) : es.map (fun e => (e.key, e.val)) = mr.map (fun p => (kv p.1, p.2)) →
  es.map (·.key) = (mk.map fun p => (kv p.1, p.2)).map (·.1) ∧ VRs ρ ((mk.map fun p => (kv p.1, p.2)).map (·.2)) (es.map (·.val)) := by
 induction h generalizing es with
 | nil =>
  intro he
  have : es = [] := by simpa using he
  subst this
  exact ⟨rfl, .nil⟩
 | cons h t ih =>
  intro he
  cases es with
  | nil => cases he
  | cons e es =>
   simp only [List.map_cons, List.cons.injEq, Prod.mk.injEq] at he
   obtain ⟨q1, q2⟩ := ih he.2
   refine ⟨by simp [he.1.1];simpa using q1, ?_⟩
   simp only [List.map_cons]
   rw [he.1.2]
   exact .cons h q2
end
noncomputable def eqKeyK (x y : Value) : Bool := match x, y with
 | .int _ a, .int _ b => eqI a b
 | .agg xs, .agg ys => eqVsK xs.toList ys.toList
 | _, _ => false
noncomputable def findVK (x : Value) (m : List (Value × Value)) (c1 : Value → Bool) (c0 : Bool) : Bool := List.rec c0 (fun p _ ih => match eqKeyK x p.1 with
 | true => c1 p.2
 | false => ih) m
noncomputable def putVK (x v : Value) (m : List (Value × Value)) : (List (Value × Value) → Bool) → Bool := List.rec (motive := fun _ => (List (Value × Value) → Bool) → Bool) (fun c => c [(x, v)]) (fun p ps ih c => match eqKeyK x p.1 with
 | true => c ((x, v) :: ps)
 | false => ih fun r => c (p :: r)) m
omit Y in
theorem findVK_is {κ : Type} [DecidableEq κ] {kv : κ → Value} {ok : κ → Prop} (heq : ∀ x y, ok x → ok y → eqKeyK (kv x) (kv y) = decide (x = y)) {a : κ} (ha : ok a) {c1 : Value → Bool} {c0 : Bool} : ∀ {mk : List (κ × Value)}, (∀ p ∈ mk, ok p.1) →
  findVK (kv a) (mk.map fun p => (kv p.1, p.2)) c1 c0 = match getA a mk with | some v => c1 v | none => c0
 | [], _ => rfl
 | p :: mk, h => by
  show (match eqKeyK (kv a) (kv p.1) with | true => c1 p.2 | false => findVK (kv a) (mk.map fun p : κ × Value => (kv p.1, p.2)) c1 c0) = _
  rw [heq a p.1 ha (h p List.mem_cons_self), findVK_is heq ha fun q hq => h q (List.mem_cons_of_mem _ hq)]
  have hg : getA a (p :: mk) = if a = p.1 then some p.2 else getA a mk := rfl
  rw [hg]
  by_cases he : a = p.1
  ·simp [he]
  ·simp [he]
omit Y in
theorem putVK_is {κ : Type} [DecidableEq κ] {kv : κ → Value} {ok : κ → Prop} (heq : ∀ x y, ok x → ok y → eqKeyK (kv x) (kv y) = decide (x = y)) {a : κ} (ha : ok a) {v : Value} : ∀ {mk : List (κ × Value)} {c : List (Value × Value) → Bool}, (∀ p ∈ mk, ok p.1) →
  putVK (kv a) v (mk.map fun p => (kv p.1, p.2)) c = c ((putA a v mk).map fun p => (kv p.1, p.2))
 | [], _, _ => rfl
 | p :: mk, c, h => by
  show (match eqKeyK (kv a) (kv p.1) with | true => c ((kv a, v) :: mk.map fun q : κ × Value => (kv q.1, q.2)) | false => putVK (kv a) v (mk.map fun q : κ × Value => (kv q.1, q.2)) fun r => c ((kv p.1, p.2) :: r)) = _
  rw [heq a p.1 ha (h p List.mem_cons_self), putVK_is heq ha fun q hq => h q (List.mem_cons_of_mem _ hq)]
  have hg : putA a v (p :: mk) = if a = p.1 then (a, v) :: mk else p :: putA a v mk := rfl
  rw [hg]
  by_cases he : a = p.1
  ·simp [he]
  ·simp [he]
omit Y in
theorem fits_eq : ∀ {ks : List LK} {xs ys : List Value}, fitsK ks xs = true → fitsK ks ys = true → (eqVs xs ys = true ↔ xs = ys)
 | [], [], [], _, _ => by simp [eqVs]
 | [], _ :: _, _, h, _ => by simp [fitsK] at h
 | [], [], _ :: _, _, h => by simp [fitsK] at h
 | _ :: _, [], _, h, _ => by simp [fitsK] at h
 | _ :: _, _ :: _, [], _, h => by simp [fitsK] at h
 | k :: ks, x :: xs, y :: ys, h, h2 => by
  simp only [fitsK, Bool.and_eq_true] at h h2
  simp only [eqVs, Bool.and_eq_true, fits_eq h.2 h2.2, List.cons.injEq]
  refine and_congr_left fun _ => ?_
  cases k with
  | i q =>
   cases x <;> first | (simp [fitK] at h;done) | skip
   cases y <;> first | (simp [fitK] at h2;done) | skip
   simp only [fitK, decide_eq_true_eq] at h h2
   simp [eqV, ← h.1, ← h2.1]
  | b =>
   cases x <;> first | (simp [fitK] at h;done) | skip
   cases y <;> first | (simp [fitK] at h2;done) | skip
   simp [eqV]
omit Y in
theorem KeyLw.mono {k : TypeId} {κ : Type} [DecidableEq κ] {kv : κ → Value} {ok ok' : κ → Prop} (h : KeyLw P k kv ok) (hi : ∀ x, ok' x → ok x) : KeyLw P k kv ok' :=
 ⟨fun em w x hx => h.check em w x (hi x hx), fun w x m es hx hm => h.find w x m es (hi x hx) fun p hp => hi _ (hm p hp), fun w x hx => h.stays w x (hi x hx)⟩
structure KeyE (P : Program) (k : TypeId) {κ : Type} [DecidableEq κ] (kv : κ → Value) (ok : κ → Prop) : Prop where
 law : KeyLw P k kv ok
 eq : ∀ x y, ok x → ok y → eqKeyK (kv x) (kv y) = decide (x = y)
 same : ∀ (ρ : Rl) (x : κ) (u : Value), ok x → VR ρ (kv x) u → u = kv x
theorem keyE_int {k : TypeId} {q : IntKind} (hk : P.underlying k = some (.int q)) : KeyE P k (Value.int q) (fun x => litI x = true) :=
 ⟨(keyLw_int hk).mono fun _ _ => trivial, fun x y _ _ => by
  show eqI x y = _
  rw [eqI_is, Bool.eq_iff_iff]
  simp, fun ρ x u hx h => by cases h;rw [Y.lit x hx]⟩
theorem keyE_agg {k : TypeId} {ks : List LK} (hk : eqB P k ks = true) [DecidableEq (List Value)] : KeyE P k (fun x : List Value => .agg x.toArray) (fun x => fitsK ks x = true ∧ litsK x = true) :=
 have he : ∀ x y : List Value, fitsK ks x = true → fitsK ks y = true → eqVs x y = decide (x = y) := fun x y hx hy => by
  rw [Bool.eq_iff_iff, decide_eq_true_eq]
  exact fits_eq hx hy
 ⟨(keyLw_leaf hk (fun x => x) (fun x hx => hx) he).mono fun _ h => h.1, fun x y hx hy => by
  show eqVsK x y = _
  rw [eqVsK_is]
  exact he x y hx.1 hy.1, fun ρ x u hx h => by
  cases h
  rename_i us hu
  have := fits_same (xs := x) (by simpa using hu) hx.2 hx.1
  rw [this]⟩
noncomputable def keysInt (q : IntKind) (m : List (Value × Value)) : Bool := List.rec true (fun p _ ih => match p.1 with
 | .int q' x => match kEqR q q' && litI x with
  | true => ih
  | false => false
 | _ => false) m
omit Y in
theorem keysInt_ok {q : IntKind} : ∀ {m : List (Value × Value)}, keysInt q m = true → ∃ mk : List (Int × Value), (∀ p ∈ mk, litI p.1 = true) ∧ m = mk.map fun p => (.int q p.1, p.2)
 | [], _ => ⟨[], by simp, rfl⟩
 | (.int q' x, v) :: m, h => by
  have h' : (match kEqR q q' && litI x with
   | true => keysInt q m
   | false => false) = true := h
  split at h'
  case h_2 => cases h'
  rename_i hq
  rw [Bool.and_eq_true] at hq
  obtain rfl := kEq_ok' hq.1
  obtain ⟨mk, h1, rfl⟩ := keysInt_ok h'
  refine ⟨(x, v) :: mk, fun p hp => ?_, rfl⟩
  rcases List.mem_cons.1 hp with rfl | hp
  ·exact hq.2
  ·exact h1 p hp
 | (.bool _, _) :: _, h | (.float _ _, _) :: _, h | (.complex _ _ _, _) :: _, h | (.string _, _) :: _, h | (.pointer _, _) :: _, h | (.slice _ _ _, _) :: _, h | (.map _, _) :: _, h | (.chan _, _) :: _, h | (.func _ _ _, _) :: _, h | (.nilFunc, _) :: _, h | (.iface _ _, _) :: _, h | (.nilIface, _) :: _, h | (.agg _, _) :: _, h | (.tuple _, _) :: _, h => by cases h
noncomputable def keysAgg (ks : List LK) (m : List (Value × Value)) : Bool := List.rec true (fun p _ ih => match p.1 with
 | .agg cs => match fitsK ks cs.toList && litsK cs.toList with
  | true => ih
  | false => false
 | _ => false) m
omit Y in
theorem keysAgg_ok {ks : List LK} : ∀ {m : List (Value × Value)}, keysAgg ks m = true → ∃ mk : List (List Value × Value), (∀ p ∈ mk, fitsK ks p.1 = true ∧ litsK p.1 = true) ∧ m = mk.map fun p => (.agg p.1.toArray, p.2)
 | [], _ => ⟨[], by simp, rfl⟩
 | (.agg cs, v) :: m, h => by
  have h' : (match fitsK ks cs.toList && litsK cs.toList with
   | true => keysAgg ks m
   | false => false) = true := h
  split at h'
  case h_2 => cases h'
  rename_i hf
  obtain ⟨mk, h1, rfl⟩ := keysAgg_ok h'
  refine ⟨(cs.toList, v) :: mk, fun p hp => ?_, by simp⟩
  rcases List.mem_cons.1 hp with rfl | hp
  ·rwa [Bool.and_eq_true] at hf
  ·exact h1 p hp
 | (.bool _, _) :: _, h | (.float _ _, _) :: _, h | (.complex _ _ _, _) :: _, h | (.string _, _) :: _, h | (.pointer _, _) :: _, h | (.slice _ _ _, _) :: _, h | (.map _, _) :: _, h | (.chan _, _) :: _, h | (.func _ _ _, _) :: _, h | (.nilFunc, _) :: _, h | (.iface _ _, _) :: _, h | (.nilIface, _) :: _, h | (.int _ _, _) :: _, h | (.tuple _, _) :: _, h => by cases h
noncomputable def keyTyK (P : Program) (k : TypeId) (x : Value) (m : List (Value × Value)) : Bool := match P.underlying k with
 | some (.int q) => keysInt q ((x, x) :: m)
 | _ => match leafK P 8 k with
  | some ks => match eqB P k ks with
   | true => keysAgg ks ((x, x) :: m)
   | false => false
  | none => false
theorem keyTy_ok {k : TypeId} {x : Value} {m : List (Value × Value)} (h : keyTyK P k x m = true) {G : Prop}
  (hG : ∀ (κ : Type) [DecidableEq κ] (kv : κ → Value) (ok : κ → Prop) (a : κ) (mk : List (κ × Value)), KeyE P k kv ok → ok a → (∀ p ∈ mk, ok p.1) → x = kv a → m = mk.map (fun p => (kv p.1, p.2)) → G) : G := by
 classical
 unfold keyTyK at h
 split at h
 ·rename_i q hq
  obtain ⟨mk, h1, hm⟩ := keysInt_ok h
  cases mk with
  | nil => cases hm
  | cons p mk =>
   simp only [List.map_cons, List.cons.injEq, Prod.mk.injEq] at hm
   exact hG Int (Value.int q) (fun x => litI x = true) p.1 mk (keyE_int hq) (h1 p List.mem_cons_self) (fun q hq => h1 q (List.mem_cons_of_mem _ hq)) hm.1.1 hm.2
 ·split at h
  case h_2 => cases h
  rename_i ks hks
  split at h
  case h_2 => cases h
  rename_i hb
  obtain ⟨mk, h1, hm⟩ := keysAgg_ok h
  cases mk with
  | nil => cases hm
  | cons p mk =>
   simp only [List.map_cons, List.cons.injEq, Prod.mk.injEq] at hm
   exact hG (List Value) (fun x => .agg x.toArray) (fun x => fitsK ks x = true ∧ litsK x = true) p.1 mk (keyE_agg hb) (h1 p List.mem_cons_self) (fun q hq => h1 q (List.mem_cons_of_mem _ hq)) hm.1.1 hm.2
/-! ### operations -/
noncomputable def makeMapK (P : Program) (tt : TypeId) (s : MSt) (c : Value → MSt → Bool) : Bool := match P.underlying tt with
 | some (.map _ _) => allocK s ⟨[], 0, none, some []⟩ fun s' => c (.map (some s.nx)) s'
 | _ => false
theorem makeMapK_ok {tt : TypeId} {s : MSt} {c : Value → MSt → Bool} {op : Op} (hwf : Wf s) (h : makeMapK P tt s c = true)
  (ho : ∀ (k e : TypeId), P.underlying tt = some (.map k e) → ∀ (ρ : Rl) (n : Nat) (df : List Deferred) (a : Act) (w : World) (R : Value → World → Prop) (d : Option Tmp) (ty : TypeId) (pos : String) (af : Array Edge) (g : Option (Nat × Bool)), FrR ρ n df t a → (∀ b w', Mem [] w w' [(b, .map #[] 0)] → R (.map (some b)) w') → OpTo P ⟨d, op, ty, pos, af, g⟩ a.eval w R) :
  ∃ v s', SLe s s' ∧ OpM P t s s' op v ∧ c v s' = true := by
 unfold makeMapK at h
 split at h
 case h_2 => cases h
 rename_i k e hu
 obtain ⟨m', hm, h4⟩ := allocK_ok h
 refine ⟨_, _, SLe.alloc hm, fun S W0 ρ n df a w R d ty pos af g F hp hR => ?_, h4⟩
 refine ho k e hu ρ n df a w R d ty pos af g F fun b w' M => ?_
 have hge : w.heap.size ≤ b := (M.own _ List.mem_cons_self).resolve_left (by simp)
 exact hR _ _ w' (Stp.alloc (r := b) (c := 0) hm hwf hp M.ext hge (.inr ⟨[], rfl, #[], 0, M.heap .here, rfl, .nil⟩)) (.mp (if_pos rfl))
noncomputable def lookupK (P : Program) (tt : TypeId) (v x : Value) (cm : Bool) (s : MSt) (c : Value → MSt → Bool) : Bool := match P.underlying tt with
 | some (.map k e) => match (P.info? e).bind (·.zero) with
  | some z => match cstOk z with
   | true => match v with
    | .map (some b) => match s.m.get b with
     | some ob => match ob.mp with
      | some m => match keyTyK P k x m with
       | true => rdK s b fun s => match cm with
        | true => findVK x m (fun u => c (.tuple [u, .bool true].toArray) s) (c (.tuple [z, .bool false].toArray) s)
        | false => findVK x m (fun u => c u s) (c z s)
       | false => false
      | none => false
     | none => false
    | _ => false
   | false => false
  | none => false
 | _ => false
theorem lookupK_ok {tt : TypeId} {x y : Operand} {v u : Value} {cm : Bool} {s : MSt} {c : Value → MSt → Bool} (hx : OpdR t x v) (hy : OpdR t y u) (h : lookupK P tt v u cm s c = true) : ∃ v' s', SLe s s' ∧ OpM P t s s' (.lookup tt x y cm) v' ∧ c v' s' = true := by
 unfold lookupK at h
 split at h
 case h_2 => cases h
 rename_i k e hu
 haveI : TU P tt (.map k e) := ⟨hu⟩
 split at h
 case h_2 => cases h
 rename_i z hz
 split at h
 case h_2 => cases h
 rename_i hzc
 split at h
 case h_2 => cases h
 rename_i b
 split at h
 case h_2 => cases h
 rename_i ob hb
 split at h
 case h_2 => cases h
 rename_i m hm
 split at h
 case h_2 => cases h
 rename_i hk
 rw [rdK_is] at h
 refine keyTy_ok hk fun κ _ kv ok a mk K ha hok e1 e2 => ?_
 subst e1
 subst e2
 -- what is known where it is done
 have main : ∀ {S : List Nat} {W0 : World} {ρ : Rl} {n : Nat} {df : List Deferred} {ac : Act} {w : World}, FrR ρ n df t ac → Pre S W0 ρ s (s.rd b) w → ∃ (r : Nat) (mr : List (κ × Value)), ac.eval x = .map (some r) ∧ ac.eval y = kv a ∧ MKR ρ mk mr ∧ (∀ p ∈ mr, ok p.1) ∧ MapIn w kv (.map (some r)) mr := fun {S W0 ρ n df ac w} F hp => by
  obtain ⟨r, cc, hr, ho⟩ := hp.obj hb bit_rd
  obtain ⟨es, clock, q1, q2, q3⟩ := ho.map hm
  obtain ⟨mr, k1, k2⟩ := MKR.of (kv := kv) q2 q3
  have hex : ac.eval x = .map (some r) := by
   have := hx ρ n df ac F
   generalize ac.eval x = u at this
   cases this
   rename_i r' cc' hr'
   rw [hr] at hr'
   cases hr'
   rfl
  exact ⟨r, mr, hex, K.same ρ a _ ha (hy ρ n df ac F), k1, k1.oks hok, r, _, rfl, q1, es, clock, rfl, k2⟩
 have hz' : zeroIs P e z := hz
 cases cm with
 | true =>
  dsimp only at h
  rw [findVK_is K.eq ha hok] at h
  cases hg : getA a mk with
  | none =>
   rw [hg] at h
   refine ⟨_, _, SLe.rd s b, fun S W0 ρ n df ac w R d ty pos af g F hp hR => ?_, h⟩
   obtain ⟨r, mr, h1, h2, h3, h4, h5⟩ := main F hp
   have h6 : getA a mr = none := by
    rcases h3.get (a := a) with ⟨_, q⟩ | ⟨v, u, q, _⟩
    ·exact q
    ·rw [hg] at q;cases q
   refine o_lookup2 K.law hz' h5 h4 ha h1 h2 (hR ρ _ w (Stp.rd hp) ?_)
   rw [h6]
   exact .tup (.cons (cstOk_ok hzc) (.cons (.bool false) .nil))
  | some v0 =>
   rw [hg] at h
   refine ⟨_, _, SLe.rd s b, fun S W0 ρ n df ac w R d ty pos af g F hp hR => ?_, h⟩
   obtain ⟨r, mr, h1, h2, h3, h4, h5⟩ := main F hp
   rcases h3.get (a := a) with ⟨q, _⟩ | ⟨v, u, q1, q2, q3⟩
   ·rw [hg] at q;cases q
   ·rw [hg] at q1
    cases q1
    refine o_lookup2 K.law hz' h5 h4 ha h1 h2 (hR ρ _ w (Stp.rd hp) ?_)
    rw [q2]
    exact .tup (.cons q3 (.cons (.bool true) .nil))
 | false =>
  dsimp only at h
  rw [findVK_is K.eq ha hok] at h
  cases hg : getA a mk with
  | none =>
   rw [hg] at h
   refine ⟨_, _, SLe.rd s b, fun S W0 ρ n df ac w R d ty pos af g F hp hR => ?_, h⟩
   obtain ⟨r, mr, h1, h2, h3, h4, h5⟩ := main F hp
   have h6 : getA a mr = none := by
    rcases h3.get (a := a) with ⟨_, q⟩ | ⟨v, u, q, _⟩
    ·exact q
    ·rw [hg] at q;cases q
   refine o_lookup1 K.law hz' h5 h4 ha h1 h2 (hR ρ _ w (Stp.rd hp) ?_)
   rw [h6]
   exact cstOk_ok hzc
  | some v0 =>
   rw [hg] at h
   refine ⟨_, _, SLe.rd s b, fun S W0 ρ n df ac w R d ty pos af g F hp hR => ?_, h⟩
   obtain ⟨r, mr, h1, h2, h3, h4, h5⟩ := main F hp
   rcases h3.get (a := a) with ⟨q, _⟩ | ⟨v, u, q1, q2, q3⟩
   ·rw [hg] at q;cases q
   ·rw [hg] at q1
    cases q1
    refine o_lookup1 K.law hz' h5 h4 ha h1 h2 (hR ρ _ w (Stp.rd hp) ?_)
    rw [q2]
    exact q3
noncomputable def mapUpdateK (P : Program) (tt : TypeId) (v x u : Value) (s : MSt) (c : MSt → Bool) : Bool := match P.underlying tt with
 | some (.map k _) => match v with
  | .map (some b) => match s.m.get b with
   | some ob => match ob.mp with
    | some m => match keyTyK P k x m with
     | true => putVK x u m fun m => wrtK s b ⟨[], 0, none, some m⟩ c
     | false => false
    | none => false
   | none => false
  | _ => false
 | _ => false
theorem mapUpdateK_ok {tt : TypeId} {x y z : Operand} {v u q : Value} {s : MSt} {c : MSt → Bool} (hwf : Wf s) (hx : OpdR t x v) (hy : OpdR t y u) (hz : OpdR t z q) (h : mapUpdateK P tt v u q s c = true) : ∃ s', SLe s s' ∧ OpM P t s s' (.mapUpdate tt x y z) undef ∧ c s' = true := by
 unfold mapUpdateK at h
 split at h
 case h_2 => cases h
 rename_i k e hu
 split at h
 case h_2 => cases h
 rename_i b
 split at h
 case h_2 => cases h
 rename_i ob hb
 split at h
 case h_2 => cases h
 rename_i m hm
 split at h
 case h_2 => cases h
 rename_i hk
 refine keyTy_ok hk fun κ _ kv ok a mk K ha hok e1 e2 => ?_
 subst e1
 subst e2
 rw [putVK_is K.eq ha hok] at h
 obtain ⟨m', hm', h4⟩ := wrtK_ok h
 refine ⟨_, SLe.wrt hm' hb hwf, fun S W0 ρ n df ac w R d ty pos af g F hp hR => ?_, h4⟩
 obtain ⟨r, cc, hr, ho⟩ := hp.obj hb (bit_or.2 (.inr rfl))
 obtain ⟨es, clock, q1, q2, q3⟩ := ho.map hm
 obtain ⟨mr, k1, k2⟩ := MKR.of (kv := kv) q2 q3
 have hex : ac.eval x = .map (some r) := by
  have := hx ρ n df ac F
  generalize ac.eval x = u at this
  cases this
  rename_i r' cc' hr'
  rw [hr] at hr'
  cases hr'
  rfl
 have hey := K.same ρ a _ ha (hy ρ n df ac F)
 have hvz := hz ρ n df ac F
 obtain ⟨o', g1, g2⟩ := run_mapUpdate (P := P) (u := ac.eval z) hu K.law q1 ⟨es, clock, rfl, k2⟩ (k1.oks hok) ha
 refine OpTo.skip (w' := w.putObj r o') (by simp [execOp, hex, hey, g2]) (hR ρ undef _ (Stp.wrt hm' hb hwf hp hr (Ext.putObj w r o') ?_) ?_)
 ·obtain ⟨es', clock', rfl, g3⟩ := g1
  obtain ⟨j1, j2⟩ := (k1.put (a := a) hvz).back g3
  refine .inr ⟨_, rfl, es', clock', ?_, j1, j2⟩
  have hlt : r < w.heap.size := (Array.getElem?_eq_some_iff.1 q1).1
  simp [World.putObj, hlt]
 ·have : VR ρ (.tuple #[]) (.tuple (List.toArray [])) := .tup .nil
  exact this
end Go.Proofs.YtfhkmgcalcfibaaGreat
namespace Go.Proofs.YtfhkmgcalcfibaaGreat
open Go.RowKit
variable [Y : Sy]
variable {P : Program} {t : Tr Value}
noncomputable def copyTo (sz b o n : Nat) (ys : List Value) (s : MSt) (c : Value → MSt → Bool) : Bool := match onesK ys with
 | true => match s.m.get b with
  | some ob => match ob.mp with
   | none => putK ob.cs o ys fun cs => wrtK s b ⟨cs, ob.e, ob.op, none⟩ fun s => litK .i64 (.ofNat n) fun v => c v s
   | some _ => false
  | none => false
 | false => false
noncomputable def copyK (P : Program) (dT : TypeId) (v u : Value) (s : MSt) (c : Value → MSt → Bool) : Bool := match P.underlying dT with
 | some (.slice e) => match P.info? e with
  | some i => match v with
   | .slice (some ⟨b, o, none⟩) dLen _ => match u with
    | .slice (some ⟨b', o', none⟩) sLen _ => match s.m.get b' with
     | some ob' => match ob'.mp with
      | none => rdK s b' fun s => forceN (Nat.min sLen dLen) fun n => segK ob'.cs o' (Nat.mul n i.size) fun ys => copyTo i.size b o n ys s c
      | some _ => false
     | none => false
    | .slice none 0 0 => c (.int .i64 0) s
    | _ => false
   | _ => false
  | none => false
 | _ => false
theorem copyK_ok {dT sT : TypeId} {x y : Operand} {v u : Value} {s : MSt} {c : Value → MSt → Bool} (hwf : Wf s) (hx : OpdR t x v) (hy : OpdR t y u) (h : copyK P dT v u s c = true) : ∃ v' s', SLe s s' ∧ OpM P t s s' (.call ⟨.builtin .copy, #[x, y], #[dT, sT]⟩) v' ∧ c v' s' = true := by
 unfold copyK at h
 split at h
 case h_2 => cases h
 rename_i e hu
 haveI : TU P dT (.slice e) := ⟨hu⟩
 split at h
 case h_2 => cases h
 rename_i i hi
 haveI : TSz P e i.size := ⟨sizeIs_of hi⟩
 split at h
 case h_2 => cases h
 rename_i b o dLen dCap
 split at h
 ·rename_i b' o' sLen sCap
  split at h
  case h_2 => cases h
  rename_i ob' hb'
  split at h
  case h_2 => cases h
  rename_i hmp'
  rw [rdK_is, forceN_is] at h
  obtain ⟨ys, h1, h2⟩ := segK_ok h
  unfold copyTo at h2
  split at h2
  case h_2 => cases h2
  rename_i hones
  rw [onesK_is] at hones
  split at h2
  case h_2 => cases h2
  rename_i ob hb
  split at h2
  case h_2 => cases h2
  rename_i hmp
  obtain ⟨cs, h3, h4⟩ := putK_ok h2
  obtain ⟨m', hm, h5⟩ := wrtK_ok h4
  obtain ⟨el, h5⟩ := litK_ok h5
  have hwf1 := (SLe.rd s b').wf hwf
  refine ⟨_, _, (SLe.rd s b').trans (SLe.wrt hm hb hwf1), fun S W0 ρ n df a w R d ty pos af g F hp hR => ?_, h5⟩
  have hp1 := Pre.fst (SLe.rd s b') (SLe.wrt hm hb hwf1) hp
  have hp2 := Pre.snd (SLe.rd s b') (SLe.wrt hm hb hwf1) hwf hp (Stp.rd hp1)
  obtain ⟨r', cc', hr', cs', junk, q1, q2, _, _⟩ := hp1.objC hb' bit_rd hmp'
  obtain ⟨r, cc, hr, ds', junk', p1, p2, p3, p4⟩ := hp2.objC hb (bit_or.2 (.inr rfl)) hmp
  have hex : ∃ c1, a.eval x = .slice (some ⟨r, o, none⟩) dLen c1 := by
   have := hx ρ n df a F
   generalize a.eval x = u at this
   cases this
   rename_i r1 c1 hr1 _
   rw [hr] at hr1
   cases hr1
   exact ⟨_, rfl⟩
  have hey : ∃ c1, a.eval y = .slice (some ⟨r', o', none⟩) sLen c1 := by
   have := hy ρ n df a F
   generalize a.eval y = u at this
   cases this
   rename_i r1 c1 hr1 _
   rw [hr'] at hr1
   cases hr1
   exact ⟨_, rfl⟩
  obtain ⟨c1, hex⟩ := hex
  obtain ⟨c2, hey⟩ := hey
  obtain ⟨us, k1, k2⟩ := vr_seg q1 h1
  obtain ⟨zs, k3, k4⟩ := vr_put p1 k2 h3
  have hc : (Builtin.firstCells i.size (Nat.min sLen dLen) (.slice (some ⟨r', o', none⟩) sLen c2)).run P w = .ok us.toArray w := by
   have hsrc := (SrcOf.cells' (P := P) (m := Nat.min sLen dLen) (c := c2) (sz := i.size) q2 (seg_junk (junk := junk) k1) (by rw [ones_vr k2];exact hones)).cells w.drawn
   simpa [Builtin.firstCells] using hsrc
  have Mb : Mem [r] w w [(r, .cells (ds' ++ junk').toArray ob.e (0, 0))] := ⟨Ext.refl _ _, fun p hp => by simp at hp;subst hp;exact p2, by simp, fun p hp => .inl (by simp at hp;subst hp;simp)⟩
  obtain ⟨w', g1, g2, g3⟩ := run_copy (sT := sT) (dLen := dLen) (dCap := c1) (o := o) hu (sizeIs_of hi) Mb (by simp [Builtin.lenOf]) rfl hc (fun v hv => List.all_eq_true.1 (by rw [ones_vr k2];exact hones) v hv) .here (put_junk k3) .here ty
  refine OpTo.val (v := .int .i64 (Nat.min sLen dLen)) (w' := w') (by simp [execOp, resolve, invoke, builtin, hex, hey, g1]) (hR ρ _ w' (Stp.trans (SLe.rd s b') (SLe.wrt hm hb hwf1) hwf hp (Stp.rd hp1) (Stp.wrt hm hb hwf1 hp2 hr g3 (.inl ⟨rfl, zs, junk', k4, g2.heap .here, p3, fun sz hs => by rw [put_len k3];exact p4 sz hs⟩))) (.lit el))
 ·refine ⟨_, _, SLe.refl s, fun S W0 ρ n df a w R d ty pos af g F hp hR => ?_, h⟩
  have hex : ∃ p n1 c1, a.eval x = .slice p n1 c1 := by
   have := hx ρ n df a F
   generalize a.eval x = u at this
   cases this
   exact ⟨_, _, _, rfl⟩
  obtain ⟨p, n1, c1, hex⟩ := hex
  have hey : a.eval y = .slice none 0 0 := by
   have := hy ρ n df a F
   generalize a.eval y = u at this
   cases this
   rfl
  exact o_copyNil hex hey (hR ρ _ w (Stp.same rfl rfl hp.1) (.lit (Y.lit 0 rfl)))
 ·cases h
end Go.Proofs.YtfhkmgcalcfibaaGreat
namespace Go.Proofs.YtfhkmgcalcfibaaGreat
open Go.RowKit
variable [Y : Sy]
variable {P : Program} {t : Tr Value}
abbrev CallK := FuncId → List Value → MSt → (Value → MSt → Bool) → Bool
def SemF (P : Program) (f : FuncId) (vs : List Value) (s s' : MSt) (v : Value) : Prop := ∀ (S : List Nat) (W0 : World) (ρ : Rl) (w : World) (args : List Value), VRs ρ vs args → Pre S W0 ρ s s' w →
 Cal P f args.toArray w fun u w' => ∃ ρ', Stp S W0 ρ s w ρ' s' w' ∧ VR ρ' v u
def CallOk (P : Program) (call : CallK) : Prop := ∀ f vs s c, Wf s → call f vs s c = true → ∃ v s', SLe s s' ∧ SemF P f vs s s' v ∧ c v s' = true
noncomputable def callVK (P : Program) (call : CallK) (t : Tr Value) (v : Value) (xs : List Operand) (s : MSt) (c : Value → MSt → Bool) : Bool := match v with
 | .func (.func f) first cap => match first.toList with
  | [] => evsK t xs fun vs => appK vs cap.toList fun us => match hasBody P f with
   | true => call f us s c
   | false => false
  | _ => false
 | _ => false
noncomputable def memK (P : Program) (call : CallK) (t : Tr Value) (op : Op) (s : MSt) (c : Value → MSt → Bool) : Bool := match op with
 | .load tt x => evK t x fun v => loadK P tt v s c
 | .store tt x y => evK t x fun v => evK t y fun u => storeK P tt v u s fun s => c undef s
 | .alloc tt => zeroK P tt fun z => newK tt z s c
 | .box tt x => evK t x fun v => cellsK v fun z => newK tt z s c
 | .buildSlice tt len parts => buildSliceK P t tt len parts.toList s c
 | .makeSlice tt x y => evK t x fun v => evK t y fun u => makeSliceK P tt v u s c
 | .makeMap tt none => makeMapK P tt s c
 | .makeMap tt (some x) => evK t x fun v => match v with
  | .int _ _ => makeMapK P tt s c
  | _ => false
 | .lookup tt x y cm => evK t x fun v => evK t y fun u => lookupK P tt v u cm s c
 | .mapUpdate tt x y z => evK t x fun v => evK t y fun u => evK t z fun q => mapUpdateK P tt v u q s fun s => c undef s
 | .call ⟨.builtin .append, args, tys⟩ => match args.toList with
  | [x, y] => match tys.toList with
   | [st, xt] => evK t x fun v => evK t y fun u => appendK P st xt v u s c
   | _ => false
  | _ => false
 | .call ⟨.builtin .copy, args, tys⟩ => match args.toList with
  | [x, y] => match tys.toList with
   | [dT, _] => evK t x fun v => evK t y fun u => copyK P dT v u s c
   | _ => false
  | _ => false
 | .call ⟨.value x, args, _⟩ => evK t x fun v => callVK P call t v args.toList s c
 | op => pureK P t op fun v => c v s
theorem memK_ok {call : CallK} (hcall : CallOk P call) {op : Op} {s : MSt} {c : Value → MSt → Bool} (hwf : Wf s) (h : memK P call t op s c = true) : plainOp op = true ∧ ∃ v s', SLe s s' ∧ OpM P t s s' op v ∧ c v s' = true := by
 unfold memK at h
 split at h
 ·refine ⟨rfl, ?_⟩
  obtain ⟨v, h1, h2⟩ := evK_ok h
  exact loadK_ok h1 h2
 ·refine ⟨rfl, ?_⟩
  obtain ⟨v, h1, h2⟩ := evK_ok h
  obtain ⟨u, h3, h4⟩ := evK_ok h2
  obtain ⟨s', h5, h6, h7⟩ := storeK_ok hwf h1 h3 h4
  exact ⟨undef, s', h5, h6, h7⟩
 ·exact ⟨rfl, alloc_ok hwf h⟩
 ·refine ⟨rfl, ?_⟩
  obtain ⟨v, h1, h2⟩ := evK_ok h
  exact box_ok hwf h1 h2
 ·rename_i tt len parts
  refine ⟨rfl, ?_⟩
  obtain ⟨v, s', h1, h2, h3⟩ := buildSliceK_ok hwf h
  exact ⟨v, s', h1, by simpa using h2, h3⟩
 ·refine ⟨rfl, ?_⟩
  obtain ⟨v, h1, h2⟩ := evK_ok h
  obtain ⟨u, h3, h4⟩ := evK_ok h2
  exact makeSliceK_ok hwf h1 h3 h4
 ·exact ⟨rfl, makeMapK_ok hwf h fun k e hu ρ n df a w R d ty pos af g F hh => o_makeMap0 (Mem.start [] w) hh⟩
 ·refine ⟨rfl, ?_⟩
  obtain ⟨v, h1, h2⟩ := evK_ok h
  split at h2
  case h_2 => cases h2
  exact makeMapK_ok hwf h2 fun k e hu ρ n df a w R d ty pos af g F hh => by
   haveI : TU P _ (.map k e) := ⟨hu⟩
   exact o_makeMap (Mem.start [] w) (h1.int F) hh
 ·refine ⟨rfl, ?_⟩
  obtain ⟨v, h1, h2⟩ := evK_ok h
  obtain ⟨u, h3, h4⟩ := evK_ok h2
  exact lookupK_ok h1 h3 h4
 ·refine ⟨rfl, ?_⟩
  obtain ⟨v, h1, h2⟩ := evK_ok h
  obtain ⟨u, h3, h4⟩ := evK_ok h2
  obtain ⟨q, h5, h6⟩ := evK_ok h4
  obtain ⟨s', h7, h8, h9⟩ := mapUpdateK_ok hwf h1 h3 h5 h6
  exact ⟨undef, s', h7, h8, h9⟩
 ·rename_i args tys
  refine ⟨rfl, ?_⟩
  split at h
  ·rename_i x y hx
   obtain rfl := arr2 hx
   split at h
   ·rename_i st xt ht
    obtain rfl := arr2 ht
    obtain ⟨v, h1, h2⟩ := evK_ok h
    obtain ⟨u, h3, h4⟩ := evK_ok h2
    exact appendK_ok hwf h1 h3 h4
   ·cases h
  ·cases h
 ·rename_i args tys
  refine ⟨rfl, ?_⟩
  split at h
  ·rename_i x y hx
   obtain rfl := arr2 hx
   split at h
   ·rename_i dT sT ht
    obtain rfl := arr2 ht
    obtain ⟨v, h1, h2⟩ := evK_ok h
    obtain ⟨u, h3, h4⟩ := evK_ok h2
    exact copyK_ok hwf h1 h3 h4
   ·cases h
  ·cases h
 ·rename_i x args tys
  refine ⟨rfl, ?_⟩
  obtain ⟨v, h1, h2⟩ := evK_ok h
  unfold callVK at h2
  split at h2
  case h_2 => cases h2
  rename_i f first cap
  split at h2
  case h_2 => cases h2
  rename_i hf
  obtain ⟨vs, h3, h4⟩ := evsK_ok h2
  rw [appK_is] at h4
  split at h4
  case h_2 => cases h4
  rename_i hb
  haveI : TBody P f := ⟨hb⟩
  obtain ⟨v', s', h5, h6, h7⟩ := hcall _ _ _ _ hwf h4
  refine ⟨v', s', h5, fun S W0 ρ n df a w R d ty pos af g F hp hR => ?_, h7⟩
  have := h1 ρ n df a F
  generalize hq : a.eval x = u at this
  cases this
  rename_i fs cs k1 k2
  rw [hf] at k1
  cases k1
  exact o_callCl (vs := (args.toList.map a.eval).toArray) (us := (args.toList.map a.eval ++ cs).toArray) hq (map_arr _ _) (by simp) ((h6 S W0 ρ w _ ((h3 ρ n df a F).app k2) hp).mono fun u w' ⟨ρ', q1, q2⟩ => hR ρ' u w' q1 q2)
 ·obtain ⟨v, h1, h2⟩ := pureK_ok h
  refine ⟨?_, v, s, SLe.refl s, h1.mem, h2⟩
  cases op <;> first | rfl | (unfold pureK at h;cases h)
/-! ### guards;one operation of a region -/
noncomputable def guardK (all : Array Oper) (g : Option (Nat × Bool)) (t : Tr Value) (c1 c0 : Bool) : Bool := match g with
 | none => c1
 | some (j, b) => match (all[j]?).bind (·.dst) with
  | some tg => match t.get tg with
   | some (.bool true) => match b with
    | true => c1
    | false => c0
   | some (.bool false) => match b with
    | true => c0
    | false => c1
   | some (.tuple _) => c0
   | _ => false
  | none => false
def SemOne (P : Program) (all : Array Oper) (o : Oper) (t : Tr Value) (s s' : MSt) (v : Value) : Prop := ∀ (S : List Nat) (W0 : World) (ρ : Rl) (n : Nat) (df : List Deferred) (a : Act) (w : World) (K : Act → World → Prop) (Q : Exit → Act → World → Prop) (r : Option Nat),
 FrR ρ n df t a → Pre S W0 ρ s s' w → (∀ ρ' u w', Stp S W0 ρ s w ρ' s' w' → VR ρ' v u → K (a.put o.dst u) w') →
 (if Region.wanted o (yielded all a.tmps) = true then o.wpIn (FW r) 0 P a w K Q else (∀ f, o.about P w a.eval = some f → (FW r).fn f) ∧ K (a.put o.dst undef) w)
noncomputable def oneK (P : Program) (call : CallK) (all : Array Oper) (o : Oper) (t : Tr Value) (s : MSt) (c : Value → MSt → Bool) : Bool := guardK all o.guard t (memK P call t o.op s c) (c undef s)
theorem vr_undef (ρ : Rl) : VR ρ undef undef := by
 have : VR ρ (.tuple #[]) (.tuple (List.toArray [])) := .tup .nil
 exact this
theorem oneK_ok {call : CallK} (hcall : CallOk P call) {all : Array Oper} {o : Oper} {s : MSt} {c : Value → MSt → Bool} (hwf : Wf s) (h : oneK P call all o t s c = true) : ∃ v s', SLe s s' ∧ SemOne P all o t s s' v ∧ c v s' = true := by
 have hon : (∀ (ρ : Rl) (n : Nat) (df : List Deferred) (a : Act), FrR ρ n df t a → Region.wanted o (yielded all a.tmps) = true) → memK P call t o.op s c = true → ∃ v s', SLe s s' ∧ SemOne P all o t s s' v ∧ c v s' = true := fun hw h => by
  obtain ⟨hp, v, s', h1, h2, h3⟩ := memK_ok hcall hwf h
  refine ⟨v, s', h1, fun S W0 ρ n df a w K Q r F hpre hK => ?_, h3⟩
  rw [if_pos (hw ρ n df a F)]
  obtain ⟨dst, op, ty, pos, af, g⟩ := o
  exact opTo_wpIn hp (h2 S W0 ρ n df a w _ dst ty pos af g F hpre hK)
 have hoff : (∀ (ρ : Rl) (n : Nat) (df : List Deferred) (a : Act), FrR ρ n df t a → Region.wanted o (yielded all a.tmps) = false) → c undef s = true → ∃ v s', SLe s s' ∧ SemOne P all o t s s' v ∧ c v s' = true := fun hw h => by
  refine ⟨undef, s, SLe.refl s, fun S W0 ρ n df a w K Q r F hpre hK => ?_, h⟩
  rw [if_neg (by rw [hw ρ n df a F];simp)]
  exact ⟨fun _ _ => trivial, hK ρ undef w (Stp.same rfl rfl hpre.1) (vr_undef ρ)⟩
 unfold oneK guardK at h
 split at h
 ·rename_i hg
  exact hon (fun _ _ _ _ _ => by simp [Region.wanted, hg]) h
 ·rename_i j b hg
  split at h
  case h_2 => cases h
  rename_i tg htg
  split at h
  ·rename_i hv
   have hy : ∀ (ρ : Rl) (n : Nat) (df : List Deferred) (a : Act), FrR ρ n df t a → yielded all a.tmps j = some true := fun ρ n df a F => by
    have := F.at_ tg _ hv
    refine yielded_of htg ?_
    generalize a.tmps.getD tg undef = u at this
    cases this
    rfl
   split at h
   ·exact hon (fun ρ n df a F => by simp [Region.wanted, hg, hy ρ n df a F]) h
   ·exact hoff (fun ρ n df a F => by simp [Region.wanted, hg, hy ρ n df a F]) h
  ·rename_i hv
   have hy : ∀ (ρ : Rl) (n : Nat) (df : List Deferred) (a : Act), FrR ρ n df t a → yielded all a.tmps j = some false := fun ρ n df a F => by
    have := F.at_ tg _ hv
    refine yielded_of htg ?_
    generalize a.tmps.getD tg undef = u at this
    cases this
    rfl
   split at h
   ·exact hoff (fun ρ n df a F => by simp [Region.wanted, hg, hy ρ n df a F]) h
   ·exact hon (fun ρ n df a F => by simp [Region.wanted, hg, hy ρ n df a F]) h
  ·rename_i vs hv
   refine hoff (fun ρ n df a F => ?_) h
   have := F.at_ tg _ hv
   generalize hu : a.tmps.getD tg undef = u at this
   cases this
   have := yielded_off (b := b) htg hu rfl
   simpa [Region.wanted, hg] using this
  ·cases h
/-! ### in their order -/
noncomputable def putSlot (n : Nat) (d : Option Tmp) (v : Value) (t : Tr Value) (c : Tr Value → Bool) : Bool := match d with
 | none => c t
 | some d => match Nat.blt d n with
  | true => t.setK d (some v) c
  | false => false
theorem putSlot_ok {n : Nat} {d : Option Tmp} {v : Value} {c : Tr Value → Bool} (h : putSlot n d v t c = true) : ∃ t', c t' = true ∧ ∀ (ρ : Rl) (df : List Deferred) (a : Act) (u : Value), FrR ρ n df t a → VR ρ v u → FrR ρ n df t' (a.put d u) := by
 unfold putSlot at h
 split at h
 ·exact ⟨t, h, fun ρ df a u F _ => F⟩
 ·split at h
  case h_2 => cases h
  rename_i d hd
  obtain ⟨t', h1, h2⟩ := Tr.setK_ok h
  exact ⟨t', h2, fun ρ df a u F hv => F.put h1 (Nat.le_of_ble_eq_true hd) hv⟩
noncomputable def listK (P : Program) (call : CallK) (n : Nat) (all : Array Oper) (l : List Oper) : Tr Value → MSt → (Tr Value → MSt → Bool) → Bool := List.rec (motive := fun _ => Tr Value → MSt → (Tr Value → MSt → Bool) → Bool) (fun t s c => c t s)
 (fun o _ ih t s c => oneK P call all o t s fun v s => putSlot n o.dst v t fun t => ih t s c) l
def SemL (P : Program) (n : Nat) (all : Array Oper) (l : List Oper) (t : Tr Value) (s : MSt) (t' : Tr Value) (s' : MSt) : Prop := ∀ (S : List Nat) (W0 : World) (ρ : Rl) (df : List Deferred) (a : Act) (w : World) (Q : Exit → Act → World → Prop) (r : Option Nat),
 FrR ρ n df t a → Pre S W0 ρ s s' w → (∀ ρ' a' w', Stp S W0 ρ s w ρ' s' w' → FrR ρ' n df t' a' → Q .normal a' w') → wpListIn (FW r) 0 P all Q l a w
theorem listK_ok {call : CallK} (hcall : CallOk P call) {n : Nat} {all : Array Oper} : ∀ {l : List Oper} {t : Tr Value} {s : MSt} {c : Tr Value → MSt → Bool}, Wf s → listK P call n all l t s c = true → ∃ t' s', SLe s s' ∧ SemL P n all l t s t' s' ∧ c t' s' = true
 | [], t, s, c, hwf, h => ⟨t, s, SLe.refl s, fun S W0 ρ df a w Q r F hp hQ => hQ ρ a w (Stp.same rfl rfl hp.1) F, h⟩
 | o :: l, t, s, c, hwf, h => by
  have h' : (oneK P call all o t s fun v s => putSlot n o.dst v t fun t => listK P call n all l t s c) = true := h
  obtain ⟨v, s1, h1, h2, h3⟩ := oneK_ok hcall hwf h'
  obtain ⟨t1, h4, h5⟩ := putSlot_ok h3
  obtain ⟨t', s', h6, h7, h8⟩ := listK_ok hcall (h1.wf hwf) h4
  refine ⟨t', s', h1.trans h6, fun S W0 ρ df a w Q r F hp hQ => ?_, h8⟩
  have hp1 := Pre.fst h1 h6 hp
  refine wpListIn_step fun K hK => h2 S W0 ρ n df a w K Q r F hp1 fun ρ1 u w1 st hv => hK _ _ ?_
  have hp2 := Pre.snd h1 h6 hwf hp st
  exact h7 S W0 ρ1 df _ w1 Q r (h5 ρ1 df a u (F.mono (st.leR hp1)) hv) hp2 fun ρ2 a2 w2 st2 F2 => hQ ρ2 a2 w2 (Stp.trans h1 h6 hwf hp st st2) F2
end Go.Proofs.YtfhkmgcalcfibaaGreat
namespace Go.Proofs.YtfhkmgcalcfibaaGreat
open Go.RowKit
variable [Y : Sy]
/-! ### what edges order -/
def Clo (ops : Array Oper) (D : Nat → Prop) : Prop := ∀ j o, ops[j]? = some o → D j → ∀ e ∈ o.after.toList, Region.binds .any e = true → D e.on
def Ord (ops : Array Oper) (i j : Nat) : Prop := ∀ D, Clo ops D → D j → D i
def Nm (ops : Array Oper) (o : Oper) (d : Nat) : Prop := .tmp d ∈ o.op.operands.toList ∨ ∃ j b, o.guard = some (j, b) ∧ (ops[j]?).bind (·.dst) = some d
structure Tra (P : Program) (n : Nat) (ops : Array Oper) (t0 : Tr Value) (m0 : Tr VO) (n0 : Nat) (k : Nat) (T : Nat → Tr Value) (M : Nat → Tr VO) (N F W : Nat → Nat) (v : Nat → Value) : Prop where
 T0 : T 0 = t0
 M0 : M 0 = m0
 N0 : N 0 = n0
 op : ∀ i, i < k → ∃ o, ops[i]? = some o ∧ (∀ e ∈ o.after.toList, Region.binds .any e = true → e.on < i)
 sle : ∀ i, i < k → SLe ⟨M i, N i, 0, 0⟩ ⟨M (i + 1), N (i + 1), F i, W i⟩
 sem : ∀ i o, i < k → ops[i]? = some o → ∃ tr : Tr Value, (∀ d x, tr.get d = some x → (T i).get d = some x ∧ Nm ops o d) ∧ SemOne P ops o tr ⟨M i, N i, 0, 0⟩ ⟨M (i + 1), N (i + 1), F i, W i⟩ (v i)
 slot : ∀ i o, i < k → ops[i]? = some o → (∀ d, o.dst = some d → d < n) ∧ ∀ d, (T (i + 1)).get d = if o.dst = some d then some (v i) else (T i).get d
 conf : ∀ i j b, i < j → j < k → (bit (W i) b ∧ bit (F j) b ∨ bit (F i) b ∧ bit (W j) b) → Ord ops i j
 names : ∀ i j oi oj d, i < j → j < k → ops[i]? = some oi → ops[j]? = some oj → (oi.dst = some d ∧ (Nm ops oj d ∨ oj.dst = some d) ∨ Nm ops oi d ∧ oj.dst = some d) → Ord ops i j
 top : ∀ b, n0 ≤ b → m0.get b = none
section
variable {P : Program} {n : Nat} {ops : Array Oper} {t0 : Tr Value} {m0 : Tr VO} {n0 k : Nat} {T : Nat → Tr Value} {M : Nat → Tr VO} {N F W : Nat → Nat} {v : Nat → Value}
theorem Tra.mono (h : Tra P n ops t0 m0 n0 k T M N F W v) : ∀ i j, i ≤ j → j ≤ k → N i ≤ N j := fun i j hij hj => by
 induction j with
 | zero =>
  obtain rfl : i = 0 := by omega
  exact Nat.le_refl _
 | succ j ih =>
  rcases Nat.lt_or_ge i (j + 1) with h1 | h1
  ·exact Nat.le_trans (ih (by omega) (by omega)) (h.sle j (by omega)).nx
  ·obtain rfl : i = j + 1 := by omega
   exact Nat.le_refl _
theorem Tra.wf (h : Tra P n ops t0 m0 n0 k T M N F W v) : ∀ i, i ≤ k → ∀ b, N i ≤ b → (M i).get b = none := fun i hi => by
 induction i with
 | zero => rw [h.M0, h.N0];exact h.top
 | succ i ih => exact (h.sle i (by omega)).top (ih (by omega))
theorem Tra.WF (h : Tra P n ops t0 m0 n0 k T M N F W v) {i b : Nat} (hi : i < k) (hb : bit (W i) b) : bit (F i) b := (h.sle i hi).WF (fun b hb => (bit0 hb).elim) b hb
def LastW (W : Nat → Nat) (D : Nat → Prop) (b i : Nat) : Prop := D i ∧ bit (W i) b ∧ ∀ j, i < j → D j → ¬ bit (W j) b
def MVal (m0 : Tr VO) (M : Nat → Tr VO) (W : Nat → Nat) (D : Nat → Prop) (b : Nat) (o : VO) : Prop := (∃ i, LastW W D b i ∧ (M (i + 1)).get b = some o) ∨ ((∀ i, D i → ¬ bit (W i) b) ∧ m0.get b = some o)
def FVal (ops : Array Oper) (t0 : Tr Value) (v : Nat → Value) (D : Nat → Prop) (d : Nat) (x : Value) : Prop := (∃ i o, D i ∧ ops[i]? = some o ∧ o.dst = some d ∧ v i = x ∧ ∀ j oj, i < j → D j → ops[j]? = some oj → oj.dst ≠ some d) ∨ ((∀ i o, D i → ops[i]? = some o → o.dst ≠ some d) ∧ t0.get d = some x)
theorem Tra.below (h : Tra P n ops t0 m0 n0 k T M N F W v) {b : Nat} {o : VO} : ∀ j, j ≤ k → (M j).get b = some o → MVal m0 M W (fun i => i < j) b o := fun j => by
 induction j with
 | zero =>
  intro _ hb
  rw [h.M0] at hb
  exact .inr ⟨fun i hi => by omega, hb⟩
 | succ j ih =>
  intro hj hb
  by_cases hw : bit (W j) b
  ·exact .inl ⟨j, ⟨Nat.lt_succ_self j, hw, fun i h1 h2 => by omega⟩, hb⟩
  ·have hlt : b < N (j + 1) := Nat.lt_of_not_le fun hc => by rw [h.wf (j + 1) hj b hc] at hb;cases hb
   have hlt0 : b < N j := Nat.lt_of_not_le fun hc => hw ((h.sle j (by omega)).new b hc hlt).2
   have hb0 : (M j).get b = some o := by
    have := (h.sle j (by omega)).old b hlt0 hw
    dsimp only at this
    rw [← this]
    exact hb
   rcases ih (by omega) hb0 with ⟨i, ⟨h1, h2, h3⟩, h4⟩ | ⟨h1, h2⟩
   ·refine .inl ⟨i, ⟨by omega, h2, fun i' h5 h6 => ?_⟩, h4⟩
    by_cases he : i' = j
    ·rw [he];exact hw
    ·exact h3 i' h5 (by omega)
   ·refine .inr ⟨fun i hi => ?_, h2⟩
    by_cases he : i = j
    ·rw [he];exact hw
    ·exact h1 i (by omega)
structure Next (ops : Array Oper) (D : Nat → Prop) (j : Nat) : Prop where
 clo : Clo ops D
 clo' : Clo ops (fun i => D i ∨ i = j)
 not : ¬ D j
omit Y in
theorem Next.before {D : Nat → Prop} {i j : Nat} (h : Next ops D j) (hij : i ≠ j) (ho : Ord ops i j) : D i := (ho _ h.clo' (.inr rfl)).resolve_right hij
omit Y in
theorem Next.after {D : Nat → Prop} {i j : Nat} (h : Next ops D j) (ho : Ord ops j i) : ¬ D i := fun hi => h.not (ho _ h.clo hi)
theorem Tra.meets (h : Tra P n ops t0 m0 n0 k T M N F W v) {D : Nat → Prop} {j b : Nat} {o : VO} (hD : ∀ i, D i → i < k) (hj : j < k) (hn : Next ops D j) (hf : bit (F j) b) (hb : (M j).get b = some o) : MVal m0 M W D b o := by
 have hlo : ∀ i, i < j → bit (W i) b → D i := fun i hi hw => hn.before (by omega) (h.conf i j b hi hj (.inl ⟨hw, hf⟩))
 have hhi : ∀ i, j < i → D i → ¬ bit (W i) b := fun i hi hd hw => hn.after (h.conf j i b hi (hD i hd) (.inr ⟨hf, hw⟩)) hd
 have hle : ∀ i, D i → i ≠ j := fun i hd he => hn.not (he ▸ hd)
 rcases h.below j (by omega) hb with ⟨i, ⟨h1, h2, h3⟩, h4⟩ | ⟨h1, h2⟩
 ·refine .inl ⟨i, ⟨hlo i h1 h2, h2, fun i' h5 h6 h7 => ?_⟩, h4⟩
  rcases Nat.lt_trichotomy i' j with hlt | he | hlt
  ·exact h3 i' h5 hlt h7
  ·exact hle i' h6 he
  ·exact hhi i' hlt h6 h7
 ·refine .inr ⟨fun i hd hw => ?_, h2⟩
  rcases Nat.lt_trichotomy i j with hlt | he | hlt
  ·exact h1 i hlt hw
  ·exact hle i hd he
  ·exact hhi i hlt hd hw
theorem Tra.fbelow (h : Tra P n ops t0 m0 n0 k T M N F W v) {d : Nat} {x : Value} : ∀ j, j ≤ k → (T j).get d = some x → FVal ops t0 v (fun i => i < j) d x := fun j => by
 induction j with
 | zero =>
  intro _ hb
  rw [h.T0] at hb
  exact .inr ⟨fun i o hi => by omega, hb⟩
 | succ j ih =>
  intro hj hb
  obtain ⟨o, ho, _⟩ := h.op j (by omega)
  rw [(h.slot j o (by omega) ho).2] at hb
  by_cases hd : o.dst = some d
  ·rw [if_pos hd] at hb
   cases hb
   exact .inl ⟨j, o, Nat.lt_succ_self j, ho, hd, rfl, fun i oi h1 h2 => by omega⟩
  ·rw [if_neg hd] at hb
   have hx : ∀ oj, ops[j]? = some oj → oj.dst ≠ some d := fun oj hoj => by
    rw [ho] at hoj
    cases hoj
    exact hd
   rcases ih (by omega) hb with ⟨i, oi, h1, h2, h3, h4, h5⟩ | ⟨h1, h2⟩
   ·refine .inl ⟨i, oi, by omega, h2, h3, h4, fun i' oj h6 h7 h8 => ?_⟩
    by_cases he : i' = j
    ·subst he;exact hx oj h8
    ·exact h5 i' oj h6 (by omega) h8
   ·refine .inr ⟨fun i oi hi ho' => ?_, h2⟩
    by_cases he : i = j
    ·subst he;exact hx oi ho'
    ·exact h1 i oi (by omega) ho'
theorem Tra.fmeets (h : Tra P n ops t0 m0 n0 k T M N F W v) {D : Nat → Prop} {j d : Nat} {o : Oper} {x : Value} (hD : ∀ i, D i → i < k) (hj : j < k) (hn : Next ops D j) (ho : ops[j]? = some o) (hf : Nm ops o d) (hb : (T j).get d = some x) : FVal ops t0 v D d x := by
 have hlo : ∀ i oi, i < j → ops[i]? = some oi → oi.dst = some d → D i := fun i oi hi hoi hw => hn.before (by omega) (h.names i j oi o d hi hj hoi ho (.inl ⟨hw, .inl hf⟩))
 have hhi : ∀ i oi, j < i → D i → ops[i]? = some oi → oi.dst ≠ some d := fun i oi hi hd hoi hw => hn.after (h.names j i o oi d hi (hD i hd) ho hoi (.inr ⟨hf, hw⟩)) hd
 have hle : ∀ i, D i → i ≠ j := fun i hd he => hn.not (he ▸ hd)
 rcases h.fbelow j (by omega) hb with ⟨i, oi, h1, h2, h3, h4, h5⟩ | ⟨h1, h2⟩
 ·refine .inl ⟨i, oi, hlo i oi h1 h2 h3, h2, h3, h4, fun i' oj h6 h7 h8 h9 => ?_⟩
  rcases Nat.lt_trichotomy i' j with hlt | he | hlt
  ·exact h5 i' oj h6 hlt h8 h9
  ·exact hle i' h7 he
  ·exact hhi i' oj hlt h7 h8 h9
 ·refine .inr ⟨fun i oi hd hoi hw => ?_, h2⟩
  rcases Nat.lt_trichotomy i j with hlt | he | hlt
  ·exact h1 i oi hlt hoi hw
  ·exact hle i hd he
  ·exact hhi i oi hlt hd hoi hw
end
end Go.Proofs.YtfhkmgcalcfibaaGreat
namespace Go.Proofs.YtfhkmgcalcfibaaGreat
open Go.RowKit
variable [Y : Sy]
section
variable {P : Program} {n : Nat} {ops : Array Oper} {t0 : Tr Value} {m0 : Tr VO} {n0 k : Nat} {T : Nat → Tr Value} {M : Nat → Tr VO} {N F W : Nat → Nat} {v : Nat → Value}
structure DInv (n : Nat) (df : List Deferred) (ops : Array Oper) (t0 : Tr Value) (m0 : Tr VO) (n0 k : Nat) (M : Nat → Tr VO) (N W : Nat → Nat) (v : Nat → Value) (S : List Nat) (W0 : World) (ρ0 : Rl) (w0 : World) (Ft Wt : Nat) (D : Nat → Prop) (ρ : Rl) (a : Act) (w : World) : Prop where
 size : a.tmps.size = n
 defers : a.defers = df
 fr : ∀ d x, FVal ops t0 v D d x → VR ρ x (a.tmps.getD d undef)
 ext : Ext S W0 w
 at_ : ∀ b o, MVal m0 M W D b o → bit Ft b → ∃ r c, ρ b = some (r, c) ∧ ObjR ρ o r c w
 inj : ∀ b b' o o' r c c', MVal m0 M W D b o → MVal m0 M W D b' o' → bit Ft b → bit Ft b' → ρ b = some (r, c) → ρ b' = some (r, c') → b = b'
 own : ∀ b o r c, MVal m0 M W D b o → bit Ft b → ρ b = some (r, c) → r ∈ S ∨ W0.heap.size ≤ r
 none : ∀ b, n0 ≤ b → b < N k → (∀ i, D i → ¬ (N i ≤ b ∧ b < N (i + 1))) → ρ b = none
 le : ∀ b, ¬ (n0 ≤ b ∧ b < N k) → ρ b = ρ0 b
 wsize : w0.heap.size ≤ w.heap.size
 blk : ∀ q, q < w0.heap.size → (∀ b o c, bit Wt b → m0.get b = some o → ρ0 b ≠ some (q, c)) → w.heap[q]? = w0.heap[q]?
 fresh : ∀ b o r c, n0 ≤ b → MVal m0 M W D b o → ρ b = some (r, c) → w0.heap.size ≤ r ∨ ∃ b0 o0 c0, b0 < n0 ∧ bit Wt b0 ∧ m0.get b0 = some o0 ∧ (∀ o, ¬ MVal m0 M W D b0 o) ∧ ρ0 b0 = some (r, c0)
theorem Tra.dead (h : Tra P n ops t0 m0 n0 k T M N F W v) {b : Nat} (hb : b < n0) (hm : m0.get b = .none) : ∀ i, i ≤ k → (M i).get b = .none := fun i hi => by
 induction i with
 | zero => rw [h.M0];exact hm
 | succ i ih =>
  have := h.mono 0 i (by omega) (by omega)
  rw [h.N0] at this
  exact (h.sle i (by omega)).dead b (by dsimp only;omega) (ih (by omega))
theorem Tra.live (h : Tra P n ops t0 m0 n0 k T M N F W v) {D : Nat → Prop} (hD : ∀ i, D i → i < k) {b : Nat} {o : VO} (hb : b < n0) (hm : MVal m0 M W D b o) : ∃ o0, m0.get b = some o0 := by
 cases hq : m0.get b with
 | some o0 => exact ⟨o0, rfl⟩
 | none =>
  rcases hm with ⟨i, ⟨h1, _, _⟩, h4⟩ | ⟨_, h2⟩
  ·rw [h.dead hb hq (i + 1) (by have := hD i h1;omega)] at h4
   cases h4
  ·rw [hq] at h2
   cases h2
variable {df : List Deferred} {S : List Nat} {W0 w0 : World} {ρ0 : Rl} {Ft Wt : Nat} {D : Nat → Prop} {ρ ρ' : Rl} {a : Act} {w w' : World}
theorem Tra.pre (h : Tra P n ops t0 m0 n0 k T M N F W v) (hFt : ∀ i, i < k → ∀ b, bit (F i) b → bit Ft b) (hD : ∀ i, D i → i < k) {j : Nat} (hj : j < k) (hn : Next ops D j) (I : DInv n df ops t0 m0 n0 k M N W v S W0 ρ0 w0 Ft Wt D ρ a w) :
  Pre S W0 ρ ⟨M j, N j, 0, 0⟩ ⟨M (j + 1), N (j + 1), F j, W j⟩ w := by
 have hm : ∀ b o, (M j).get b = some o → bit (F j) b → MVal m0 M W D b o := fun b o hb hf => h.meets hD hj hn hf hb
 refine ⟨⟨I.ext, fun b o hb hf => I.at_ b o (hm b o hb hf) (hFt j hj b hf), fun b b' o o' r c c' hb hb' hf hf' e e' => I.inj b b' o o' r c c' (hm b o hb hf) (hm b' o' hb' hf') (hFt j hj b hf) (hFt j hj b' hf') e e', fun b o r c hb hf e => I.own b o r c (hm b o hb hf) (hFt j hj b hf) e⟩, fun b h1 h2 => ?_⟩
 dsimp only at h1 h2
 have hN := h.mono 0 j (by omega) (by omega)
 have hN2 := h.mono (j + 1) k (by omega) (Nat.le_refl _)
 rw [h.N0] at hN
 refine I.none b (by omega) (by omega) fun i hi => ?_
 have hik := hD i hi
 have hij : i ≠ j := fun e => hn.not (e ▸ hi)
 rcases Nat.lt_or_gt_of_ne hij with hlt | hlt
 ·have := h.mono (i + 1) j (by omega) (by omega)
  omega
 ·have := h.mono (j + 1) i (by omega) (by omega)
  omega
theorem Tra.step (h : Tra P n ops t0 m0 n0 k T M N F W v) (hFt : ∀ i, i < k → ∀ b, bit (F i) b → bit Ft b) (hWt : ∀ i, i < k → ∀ b, bit (W i) b → bit Wt b) (hD : ∀ i, D i → i < k) {j : Nat} {oj : Oper} (hj : j < k) (hoj : ops[j]? = some oj) (hn : Next ops D j)
  (I : DInv n df ops t0 m0 n0 k M N W v S W0 ρ0 w0 Ft Wt D ρ a w) {u : Value} (st : Stp S W0 ρ ⟨M j, N j, 0, 0⟩ w ρ' ⟨M (j + 1), N (j + 1), F j, W j⟩ w') (hu : VR ρ' (v j) u) :
  DInv n df ops t0 m0 n0 k M N W v S W0 ρ0 w0 Ft Wt (fun i => D i ∨ i = j) ρ' (a.put oj.dst u) w' := by
 have hpre := h.pre hFt hD hj hn I
 have hleR := st.leR hpre
 have hsle := h.sle j hj
 have hn0j := h.mono 0 j (by omega) (by omega)
 have hjk := h.mono (j + 1) k (by omega) (Nat.le_refl _)
 rw [h.N0] at hn0j
 have hm : ∀ b o, (M j).get b = some o → bit (F j) b → MVal m0 M W D b o := fun b o hb hf => h.meets hD hj hn hf hb
 have hWF : ∀ b, bit (W j) b → bit (F j) b := fun b hb => h.WF hj hb
 have hltj : ∀ b o, (M (j + 1)).get b = some o → b < N (j + 1) := fun b o hb => Nat.lt_of_not_le fun hc => by
  rw [h.wf (j + 1) (by omega) b hc] at hb
  cases hb
 -- nobody behind j in the list, done already, writes what j writes
 have hno : ∀ i b, j < i → D i → bit (W j) b → ¬ bit (W i) b := fun i b hi hd hw hw' => hn.after (h.conf j i b hi (hD i hd) (.inl ⟨hw, h.WF (hD i hd) hw'⟩)) hd
 have mw : ∀ b o, bit (W j) b → MVal m0 M W (fun i => D i ∨ i = j) b o → (M (j + 1)).get b = some o := fun b o hw hmv => by
  rcases hmv with ⟨i, ⟨h1, h2, h3⟩, h4⟩ | ⟨h1, _⟩
  ·rcases h1 with h1 | rfl
   ·rcases Nat.lt_trichotomy i j with hlt | he | hlt
    ·exact (h3 j hlt (.inr rfl) hw).elim
    ·exact (hn.not (he ▸ h1)).elim
    ·exact (hno i b hlt h1 hw h2).elim
   ·exact h4
  ·exact (h1 j (.inr rfl) hw).elim
 have wm : ∀ b o, bit (W j) b → (M (j + 1)).get b = some o → MVal m0 M W (fun i => D i ∨ i = j) b o := fun b o hw hb => .inl ⟨j, ⟨.inr rfl, hw, fun i hi hd => (hd.elim (fun hd => hno i b hi hd hw) fun e => by omega)⟩, hb⟩
 have mn : ∀ b o, ¬ bit (W j) b → MVal m0 M W (fun i => D i ∨ i = j) b o → MVal m0 M W D b o := fun b o hw hmv => by
  rcases hmv with ⟨i, ⟨h1, h2, h3⟩, h4⟩ | ⟨h1, h2⟩
  ·rcases h1 with h1 | rfl
   ·exact .inl ⟨i, ⟨h1, h2, fun i' hi hd => h3 i' hi (.inl hd)⟩, h4⟩
   ·exact (hw h2).elim
  ·exact .inr ⟨fun i hi => h1 i (.inl hi), h2⟩
 -- outside what j writes, blocks lie where they lay
 have hsame : ∀ b, ¬ bit (W j) b → ρ' b = ρ b := fun b hw => st.le b fun hc => hw (hsle.new b hc.1 hc.2).2
 have hold : ∀ b o, (M (j + 1)).get b = some o → bit (W j) b → b < N j → ∃ o1, MVal m0 M W D b o1 ∧ ρ' b = ρ b := fun b o hb hw hlt => by
  cases hq : (M j).get b with
  | none => have := hsle.dead b hlt hq;dsimp only at this;rw [this] at hb;cases hb
  | some o1 => exact ⟨o1, hm b o1 hq (hWF b hw), st.le b (by dsimp only;omega)⟩
 -- a block that is not written keeps its place and its cells
 have hkeep : ∀ b o, ¬ bit (W j) b → MVal m0 M W D b o → bit Ft b → ∃ r c, ρ b = some (r, c) ∧ ObjR ρ' o r c w' := fun b o hw hmv hf => by
  obtain ⟨r, c, e, ho⟩ := I.at_ b o hmv hf
  refine ⟨r, c, e, ho.later hleR (st.blk r ho.lt fun b1 o1 c1 hw1 hl e1 => ?_)⟩
  have := I.inj b1 b o1 o r _ _ (hm b1 o1 hl (hWF b1 hw1)) hmv (hFt j hj b1 (hWF b1 hw1)) hf e1 e
  subst this
  exact hw hw1
 -- a block that is written does not lie where one lies that is not
 have hapart : ∀ b o b' o' r c c', bit (W j) b → (M (j + 1)).get b = some o → ρ' b = some (r, c) → ¬ bit (W j) b' → MVal m0 M W D b' o' → bit Ft b' → ρ b' = some (r, c') → False := fun b o b' o' r c c' hw hb e hw' hmv' hf' e' => by
  by_cases hlt : b < N j
  ·obtain ⟨o1, q1, q2⟩ := hold b o hb hw hlt
   rw [q2] at e
   have := I.inj b b' o1 o' r _ _ q1 hmv' (hFt j hj b (hWF b hw)) hf' e e'
   subst this
   exact hw' hw
  ·rcases st.fresh b o r c (Nat.le_of_not_lt hlt) (hltj b o hb) hb e with h4 | ⟨b0, o0, c0, g1, g2, g3, g4, g5⟩
   ·obtain ⟨r0, c0, e0, ho0⟩ := I.at_ b' o' hmv' hf'
    rw [e0] at e'
    cases e'
    have := ho0.lt
    omega
   ·have := I.inj b0 b' o0 o' r _ _ (hm b0 o0 g3 (hWF b0 g2)) hmv' (hFt j hj b0 (hWF b0 g2)) hf' g5 e'
    subst this
    exact hw' g2
 -- what was given up stays given up
 have hgone : ∀ b0, b0 < n0 → (∀ o, ¬ MVal m0 M W D b0 o) → ∀ o, ¬ MVal m0 M W (fun i => D i ∨ i = j) b0 o := fun b0 hb0 hg o hmv => by
  by_cases hw : bit (W j) b0
  ·obtain ⟨o1, q1, _⟩ := hold b0 o (mw b0 o hw hmv) hw (by omega)
   exact hg o1 q1
  ·exact hg o (mn b0 o hw hmv)
 have hD' : ∀ i, (D i ∨ i = j) → i < k := fun i hi => hi.elim (hD i) fun e => by omega
 refine ⟨?_, ?_, fun d x hx => ?_, st.wr.ext, fun b o hmv hf => ?_, fun b b' o o' r c c' hmv hmv' hf hf' e e' => ?_, fun b o r c hmv hf e => ?_, fun b h1 h2 h3 => ?_, fun b hb => ?_, Nat.le_trans I.wsize st.size, fun q hq hW => ?_, fun b o r c h1 hmv e => ?_⟩
 ·cases hd : oj.dst with
  | none => exact I.size
  | some d => simp [Act.put, I.size]
 ·cases hd : oj.dst with
  | none => exact I.defers
  | some d => simp [Act.put, I.defers]
 ·by_cases hd : oj.dst = some d
  ·have : x = v j := by
    rcases hx with ⟨i, oi, q1, q2, q3, q4, q5⟩ | ⟨q1, _⟩
    ·rcases q1 with q1 | rfl
     ·rcases Nat.lt_trichotomy i j with hlt | he | hlt
      ·exact (q5 j oj hlt (.inr rfl) hoj hd).elim
      ·exact (hn.not (he ▸ q1)).elim
      ·exact (hn.after (h.names j i oj oi d hlt (hD i q1) hoj q2 (.inl ⟨hd, .inr q3⟩)) q1).elim
     ·exact q4.symm
    ·exact (q1 j oj (.inr rfl) hoj hd).elim
   subst this
   have hdn := (h.slot j oj hj hoj).1 d hd
   rw [hd]
   have : d < a.tmps.size := by rw [I.size];exact hdn
   simpa [Act.put, Array.getElem?_setIfInBounds, this] using hu
  ·rw [put_getD hd]
   refine (I.fr d x ?_).mono hleR
   rcases hx with ⟨i, oi, q1, q2, q3, q4, q5⟩ | ⟨q1, q2⟩
   ·rcases q1 with q1 | rfl
    ·exact .inl ⟨i, oi, q1, q2, q3, q4, fun i' o' h1 h2 => q5 i' o' h1 (.inl h2)⟩
    ·rw [hoj] at q2
     cases q2
     exact (hd q3).elim
   ·exact .inr ⟨fun i oi hi => q1 i oi (.inl hi), q2⟩
 ·by_cases hw : bit (W j) b
  ·exact st.wr.at_ b o (mw b o hw hmv) (hWF b hw)
  ·obtain ⟨r, c, e, ho⟩ := hkeep b o hw (mn b o hw hmv) hf
   exact ⟨r, c, (hsame b hw).trans e, ho⟩
 ·by_cases hw : bit (W j) b
  ·by_cases hw' : bit (W j) b'
   ·exact st.wr.inj b b' o o' r c c' (mw b o hw hmv) (mw b' o' hw' hmv') (hWF b hw) (hWF b' hw') e e'
   ·exact (hapart b o b' o' r c c' hw (mw b o hw hmv) e hw' (mn b' o' hw' hmv') hf' ((hsame b' hw').symm.trans e')).elim
  ·by_cases hw' : bit (W j) b'
   ·exact (hapart b' o' b o r c' c hw' (mw b' o' hw' hmv') e' hw (mn b o hw hmv) hf ((hsame b hw).symm.trans e)).elim
   ·exact I.inj b b' o o' r c c' (mn b o hw hmv) (mn b' o' hw' hmv') hf hf' ((hsame b hw).symm.trans e) ((hsame b' hw').symm.trans e')
 ·by_cases hw : bit (W j) b
  ·exact st.wr.own b o r c (mw b o hw hmv) (hWF b hw) e
  ·exact I.own b o r c (mn b o hw hmv) hf ((hsame b hw).symm.trans e)
 ·rw [st.le b (h3 j (.inr rfl))]
  exact I.none b h1 h2 fun i hi => h3 i (.inl hi)
 ·rw [st.le b (by dsimp only;omega)]
  exact I.le b hb
 ·refine (st.blk q (Nat.lt_of_lt_of_le hq I.wsize) fun b o c hw hl e => ?_).trans (I.blk q hq hW)
  have hmv := hm b o hl (hWF b hw)
  by_cases hb : b < n0
  ·obtain ⟨o0, q0⟩ := h.live hD hb hmv
   rw [I.le b (by omega)] at e
   exact hW b o0 c (hWt j hj b hw) q0 e
  ·rcases I.fresh b o q c (by omega) hmv e with h4 | ⟨b0, o0, c0, g1, g2, g3, _, g5⟩
   ·omega
   ·exact hW b0 o0 c0 g2 g3 g5
 ·have hfin : ∀ b1 o1 c1, MVal m0 M W D b1 o1 → n0 ≤ b1 → ρ b1 = some (r, c1) → w0.heap.size ≤ r ∨ ∃ b0 o0 c0, b0 < n0 ∧ bit Wt b0 ∧ m0.get b0 = some o0 ∧ (∀ o, ¬ MVal m0 M W (fun i => D i ∨ i = j) b0 o) ∧ ρ0 b0 = some (r, c0) := fun b1 o1 c1 q1 q2 q3 => by
   rcases I.fresh b1 o1 r c1 q2 q1 q3 with h4 | ⟨b0, o0, c0, g1, g2, g3, g4, g5⟩
   ·exact .inl h4
   ·exact .inr ⟨b0, o0, c0, g1, g2, g3, hgone b0 g1 g4, g5⟩
  by_cases hw : bit (W j) b
  ·have hb := mw b o hw hmv
   by_cases hlt : b < N j
   ·obtain ⟨o1, q1, q2⟩ := hold b o hb hw hlt
    exact hfin b o1 c q1 h1 (q2.symm.trans e)
   ·rcases st.fresh b o r c (Nat.le_of_not_lt hlt) (hltj b o hb) hb e with h4 | ⟨b1, o1, c1, g1, g2, g3, g4, g5⟩
    ·exact .inl (Nat.le_trans I.wsize h4)
    ·have hmv1 := hm b1 o1 g3 (hWF b1 g2)
     by_cases hb1 : b1 < n0
     ·obtain ⟨o0, q0⟩ := h.live hD hb1 hmv1
      refine .inr ⟨b1, o0, c1, hb1, hWt j hj b1 g2, q0, fun o2 hmv2 => ?_, by rw [← I.le b1 (by omega)];exact g5⟩
      have := mw b1 o2 g2 hmv2
      rw [g4] at this
      cases this
     ·exact hfin b1 o1 c1 hmv1 (by omega) g5
  ·exact hfin b o c (mn b o hw hmv) h1 ((hsame b hw).symm.trans e)
end
end Go.Proofs.YtfhkmgcalcfibaaGreat
namespace Go.Proofs.YtfhkmgcalcfibaaGreat
open Go.RowKit
variable [Y : Sy]
section
variable {P : Program} {n : Nat} {ops : Array Oper} {t0 : Tr Value} {m0 : Tr VO} {n0 : Nat} {T : Nat → Tr Value} {M : Nat → Tr VO} {N F W : Nat → Nat} {v : Nat → Value}
variable {df : List Deferred} {S : List Nat} {W0 w0 : World} {ρ0 : Rl} {Ft Wt : Nat} {Q : Exit → Act → World → Prop} {r : Option Nat}
def DL (listed : Array Bool) : Nat → Prop := fun i => listed.getD i false = true
omit Y in
theorem DL.lt {listed : Array Bool} {i : Nat} (h : DL listed i) : i < listed.size := by
 unfold DL at h
 rcases Nat.lt_or_ge i listed.size with h1 | h1
 ·exact h1
 ·simp [Nat.not_lt.2 h1] at h
omit Y in
theorem DL.set {listed : Array Bool} {i : Nat} (hi : i < listed.size) : DL (listed.setIfInBounds i true) = fun j => DL listed j ∨ j = i := by
 funext j
 apply propext
 unfold DL
 by_cases h : i = j
 ·subst h
  simp only [or_true, iff_true]
  exact getD_same hi
 ·rw [getD_set_ne false h]
  constructor
  ·exact .inl
  ·rintro (h1 | h1)
   ·exact h1
   ·exact (h h1.symm).elim
theorem Tra.any (h : Tra P n ops t0 m0 n0 ops.size T M N F W v) (hFt : ∀ i, i < ops.size → ∀ b, bit (F i) b → bit Ft b) (hWt : ∀ i, i < ops.size → ∀ b, bit (W i) b → bit Wt b)
  (hfin : ∀ D ρ a w, (∀ i, D i ↔ i < ops.size) → DInv n df ops t0 m0 n0 ops.size M N W v S W0 ρ0 w0 Ft Wt D ρ a w → Q .normal a w) :
  ∀ (m fuel : Nat) (listed : Array Bool) (ρ : Rl) (a : Act) (w : World), ((List.range ops.size).filter fun i => !listed.getD i false).length = m → m ≤ fuel → listed.size = ops.size → Clo ops (DL listed) →
   DInv n df ops t0 m0 n0 ops.size M N W v S W0 ρ0 w0 Ft Wt (DL listed) ρ a w → wpAnyIn (FW r) 0 P .any ops Q fuel listed a w := by
 intro m
 induction m with
 | zero =>
  intro fuel listed ρ a w hk _ hsz hclo I
  have hall : ∀ i, i < ops.size → DL listed i := fun i hi => by
   have h0 : ((List.range ops.size).filter fun i => !listed.getD i false) = [] := List.length_eq_zero_iff.1 hk
   have := List.filter_eq_nil_iff.1 h0 i (List.mem_range.2 hi)
   simpa [DL] using this
  have hq : Q .normal a w := hfin _ ρ a w (fun i => ⟨fun hi => by have := hi.lt;omega, hall i⟩) I
  have hr : Region.ready .any ops listed = [] := by
   cases hr : Region.ready .any ops listed with
   | nil => rfl
   | cons i is =>
    have hi : i ∈ Region.ready .any ops listed := by rw [hr];simp
    obtain ⟨hun, o, ho, _⟩ := mem_ready.1 hi
    have his : i < ops.size := (Array.getElem?_eq_some_iff.1 ho).1
    have := hall i his
    unfold DL at this
    have hl : i < listed.size := by omega
    simp [hl] at this hun
    rw [this] at hun;cases hun
  cases fuel with
  | zero => exact ⟨hr, hq⟩
  | succ fuel => exact ⟨fun _ => hq, fun i hi => by rw [hr] at hi;cases hi⟩
 | succ m ih =>
  intro fuel listed ρ a w hk hf hsz hclo I
  obtain ⟨fuel, rfl⟩ : ∃ f, fuel = f + 1 := ⟨fuel - 1, by omega⟩
  have hex : ∃ i, i < ops.size ∧ ¬ DL listed i := by
   have hne : ((List.range ops.size).filter fun i => !listed.getD i false) ≠ [] := by intro h;rw [h] at hk;cases hk
   obtain ⟨i, hi⟩ := List.exists_mem_of_ne_nil _ hne
   have := List.mem_filter.1 hi
   exact ⟨i, List.mem_range.1 this.1, by simpa [DL] using this.2⟩
  refine ⟨fun hnil => ?_, fun i hi => ?_⟩
  ·exfalso
   obtain ⟨i0, hi0, hu0⟩ := hex
   have : ∃ i, i < ops.size ∧ ¬ DL listed i ∧ ∀ j, j < i → DL listed j := by
    induction i0 using Nat.strongRecOn with
    | _ i0 ihi =>
     by_cases h : ∃ j, j < i0 ∧ ¬ DL listed j
     ·obtain ⟨j, hj, hju⟩ := h
      exact ihi j hj (by omega) hju
     ·exact ⟨i0, hi0, hu0, fun j hj => Classical.byContradiction fun hc => h ⟨j, hj, hc⟩⟩
   obtain ⟨i, hi, hu, hall⟩ := this
   obtain ⟨o, ho, hback⟩ := h.op i hi
   have hready : i ∈ Region.ready .any ops listed := mem_ready.2 ⟨getD_tt (by omega) hu, o, ho, fun e he hb => hall e.on (hback e (by simpa using he) hb)⟩
   rw [hnil] at hready
   cases hready
  ·obtain ⟨hun, o, ho, hall⟩ := mem_ready.1 hi
   have hin : i < ops.size := (Array.getElem?_eq_some_iff.1 ho).1
   have hisz : i < listed.size := by omega
   have hnot : ¬ DL listed i := by
    unfold DL
    simp [hisz] at hun ⊢
    exact hun
   have hclo' : Clo ops fun j => DL listed j ∨ j = i := fun j oj hoj hj e he hb => by
    rcases hj with hj | rfl
    ·exact .inl (hclo j oj hoj hj e he hb)
    ·rw [ho] at hoj
     cases hoj
     exact .inl (hall e (by simpa using he) hb)
   have hn : Next ops (DL listed) i := ⟨hclo, hclo', hnot⟩
   have hD : ∀ j, DL listed j → j < ops.size := fun j hj => by have := hj.lt;omega
   have hcount : ((List.range ops.size).filter fun j => !(listed.setIfInBounds i true).getD j false).length = m := by
    have := filter_one (p := fun j => !listed.getD j false) (q := fun j => !(listed.setIfInBounds i true).getD j false) (List.nodup_range (n := ops.size)) (List.mem_range.2 hin) (by simp [hisz] at hun ⊢;exact hun) (by simp [hisz]) (fun j hj => by
     show (!listed.getD j false) = !(listed.setIfInBounds i true).getD j false
     rw [getD_set_ne false (fun e => hj e.symm)])
    omega
   obtain ⟨tr, htr, hsem⟩ := h.sem i o hin ho
   have hpre := h.pre hFt hD hin hn I
   unfold wpOpIn
   simp only [ho]
   refine hsem S W0 ρ n df a w _ Q r ⟨I.size, I.defers, fun d x hx => ?_⟩ hpre fun ρ' u w' st hu => ?_
   ·obtain ⟨h1, h2⟩ := htr d x hx
    exact I.fr d x (h.fmeets hD hin hn ho h2 h1)
   ·have I' := h.step hFt hWt hD hin ho hn I st hu
    rw [← DL.set hisz] at I'
    refine ih fuel _ ρ' _ w' hcount (by omega) (by simp [hsz]) ?_ I'
    rw [DL.set hisz]
    exact hclo'
theorem Tra.region {P : Program} {n : Nat} {ops : Array Oper} {t0 : Tr Value} {s : MSt} {T : Nat → Tr Value} {M : Nat → Tr VO} {N F W : Nat → Nat} {v : Nat → Value} {id : Nat} {a : Act} {w : World} {ρ : Rl} (hm : P.follows .mixedOrders = true) (h : Tra P n ops t0 s.m s.nx ops.size T M N F W v)
  (hFt : ∀ i, i < ops.size → ∀ b, bit (F i) b → bit Ft b) (hWt : ∀ i, i < ops.size → ∀ b, bit (W i) b → bit Wt b) (fr : FrR ρ n df t0 a) (hp : Pre S W0 ρ s ⟨M ops.size, N ops.size, Ft, Wt⟩ w)
  (hQ : ∀ ρ' a' w', Stp S W0 ρ s w ρ' ⟨M ops.size, N ops.size, Ft, Wt⟩ w' → FrR ρ' n df (T ops.size) a' → Q .normal a' w') : Wp r P (.region id ops true) Q a w := by
 refine wpIn_region_any hm ?_
 have hE : Ext [] w { w with drawn := w.drawn + 1 } := Ext.drawn w _ (Nat.le_succ _)
 have hrep : DL (Array.replicate ops.size false) = fun _ => False := by
  funext i
  apply propext
  unfold DL
  rw [getD_replicate_false]
  simp
 have m0v : ∀ b o, MVal s.m M W (fun _ => False) b o → s.m.get b = some o := fun b o hv => by
  rcases hv with ⟨i, ⟨h1, _⟩, _⟩ | ⟨_, h2⟩
  ·exact h1.elim
  ·exact h2
 refine h.any (Ft := Ft) (Wt := Wt) (df := df) (S := S) (W0 := W0) (ρ0 := ρ) (w0 := { w with drawn := w.drawn + 1 }) hFt hWt (fun D ρ' a' w' hD I => hQ ρ' a' w' ?_ ?_) ops.size ops.size _ ρ a _ ?_ (Nat.le_refl _) (by simp) ?_ ?_
 ·have mk : ∀ b o, (M ops.size).get b = some o → MVal s.m M W D b o := fun b o hb => by
   have := h.below ops.size (Nat.le_refl _) hb
   have he : (fun i => i < ops.size) = D := by
    funext i
    exact propext (hD i).symm
   rw [he] at this
   exact this
  refine ⟨fun b hb => I.le b hb, ⟨I.ext, fun b o hb hf => I.at_ b o (mk b o hb) hf, fun b b' o o' r c c' hb hb' hf hf' e e' => I.inj b b' o o' r c c' (mk b o hb) (mk b' o' hb') hf hf' e e', fun b o r c hb hf e => I.own b o r c (mk b o hb) hf e⟩, I.wsize, fun k hk hW => I.blk k hk hW, fun b o r c h1 h2 hb e => ?_⟩
  rcases I.fresh b o r c h1 (mk b o hb) e with h4 | ⟨b0, o0, c0, g1, g2, g3, g4, g5⟩
  ·exact .inl h4
  ·refine .inr ⟨b0, o0, c0, g1, g2, g3, ?_, g5⟩
   cases hq : (M ops.size).get b0 with
   | none => rfl
   | some o1 => exact (g4 o1 (mk b0 o1 hq)).elim
 ·refine ⟨I.size, I.defers, fun d x hx => I.fr d x ?_⟩
  have := h.fbelow ops.size (Nat.le_refl _) hx
  have he : (fun i => i < ops.size) = D := by
   funext i
   exact propext (hD i).symm
  rw [he] at this
  exact this
 ·have : ((List.range ops.size).filter fun i => !(Array.replicate ops.size false).getD i false) = List.range ops.size := List.filter_eq_self.2 fun i _ => by rw [getD_replicate_false];rfl
  rw [this]
  simp
 ·rw [hrep]
  exact fun j o _ hj => hj.elim
 ·rw [hrep]
  refine ⟨fr.size, fr.defers, fun d x hx => ?_, hp.1.ext.trans hE.any, fun b o hb hf => ?_, fun b b' o o' r c c' hb hb' hf hf' e e' => hp.1.inj b b' o o' r c c' (m0v b o hb) (m0v b' o' hb') hf hf' e e', fun b o r c hb hf e => hp.1.own b o r c (m0v b o hb) hf e, fun b h1 h2 _ => hp.2 b h1 h2, fun b _ => rfl, Nat.le_refl _, fun _ _ _ => rfl, fun b o r c h1 hb e => ?_⟩
  ·rcases hx with ⟨i, o, h1, _⟩ | ⟨_, h2⟩
   ·exact h1.elim
   ·exact fr.at_ d x h2
  ·obtain ⟨r, c, e, ho⟩ := hp.1.at_ b o (m0v b o hb) hf
   exact ⟨r, c, e, ho⟩
  ·have := h.wf 0 (Nat.zero_le _) b (by rw [h.N0];exact h1)
   rw [h.M0, m0v b o hb] at this
   cases this
end
end Go.Proofs.YtfhkmgcalcfibaaGreat
namespace Go.Proofs.YtfhkmgcalcfibaaGreat
open Go.RowKit
variable [Y : Sy]
/-! ### an operation looks at its own slots alone -/
noncomputable def Tr.filt {α : Type} (t : Tr α) : (Nat → Bool) → Tr α := Tr.rec (motive := fun _ => (Nat → Bool) → Tr α) (fun _ => .leaf) (fun v _ _ fl fr f => .node (if f 0 then v else none) (fl fun k => f (2 * k)) (fr fun k => f (2 * k + 1))) t
omit Y in
theorem Tr.filt_get {α : Type} : ∀ (t : Tr α) (f : Nat → Bool) (k : Nat), (t.filt f).get k = if f k then t.get k else none
 | .leaf, f, k => by
  show (Tr.leaf : Tr α).get k = _
  rw [Tr.get_leaf]
  split <;> rfl
 | .node v l r, f, k => by
  show (Tr.node (if f 0 then v else none) (l.filt fun k => f (2 * k)) (r.filt fun k => f (2 * k + 1))).get k = _
  rw [Tr.get_node, Tr.get_node]
  by_cases hk : k = 0
  ·rw [if_pos hk, if_pos hk, hk]
  ·rw [if_neg hk, if_neg hk]
   by_cases hp : k % 2 = 0
   ·rw [if_pos hp, if_pos hp, Tr.filt_get l, show 2 * (k / 2) = k by omega]
   ·rw [if_neg hp, if_neg hp, Tr.filt_get r, show 2 * (k / 2) + 1 = k by omega]
variable {P : Program} {t t' : Tr Value}
def Agree (t t' : Tr Value) (xs : List Operand) : Prop := ∀ d, .tmp d ∈ xs → t'.get d = t.get d
omit Y in
theorem evK_congr {x : Operand} {xs : List Operand} (h : Agree t t' xs) (hx : x ∈ xs) : evK t' x = evK t x := by
 funext c
 unfold evK
 cases x with
 | tmp d => dsimp only;rw [h d hx]
 | _ => rfl
omit Y in
theorem evsK_congr : ∀ {ys xs : List Operand}, Agree t t' xs → (∀ y ∈ ys, y ∈ xs) → evsK t' ys = evsK t ys
 | [], _, _, _ => rfl
 | y :: ys, xs, h, hy => by
  funext c
  show (evK t' y fun v => evsK t' ys fun vs => c (v :: vs)) = (evK t y fun v => evsK t ys fun vs => c (v :: vs))
  rw [evK_congr h (hy y List.mem_cons_self), evsK_congr h fun z hz => hy z (List.mem_cons_of_mem _ hz)]
omit Y in
theorem bndK_congr {x : Option Operand} {xs : List Operand} (h : Agree t t' xs) (hx : ∀ y, x = some y → y ∈ xs) : bndK t' x = bndK t x := by
 funext c
 unfold bndK
 cases x with
 | none => rfl
 | some y => dsimp only;rw [evK_congr h (hx y rfl)]
omit Y in
theorem partsK_congr {pl : List (Nat × Nat)} : ∀ {ps : List (Nat × Operand)} {xs : List Operand}, Agree t t' xs → (∀ p ∈ ps, p.2 ∈ xs) → partsK t' pl ps = partsK t pl ps
 | [], _, _, _ => rfl
 | (i, x) :: ps, xs, h, hp => by
  funext z c
  have e1 := evK_congr h (hp (i, x) List.mem_cons_self)
  have e2 := partsK_congr (pl := pl) (ps := ps) h fun q hq => hp q (List.mem_cons_of_mem _ hq)
  show (evK t' x fun v => cellsK v fun cs => match nthP pl i with
   | some q => match Nat.beq cs.length q.2 with
    | true => putK z q.1 cs fun z => partsK t' pl ps z c
    | false => false
   | none => false) = _
  dsimp only at e1
  rw [e1, e2]
  rfl
omit Y in
theorem partsSK_congr {len sz : Nat} : ∀ {ps : List (Nat × Operand)} {xs : List Operand}, Agree t t' xs → (∀ p ∈ ps, p.2 ∈ xs) → partsSK t' len sz ps = partsSK t len sz ps
 | [], _, _, _ => rfl
 | (i, x) :: ps, xs, h, hp => by
  funext z c
  have e1 := evK_congr h (hp (i, x) List.mem_cons_self)
  have e2 := partsSK_congr (len := len) (sz := sz) (ps := ps) h fun q hq => hp q (List.mem_cons_of_mem _ hq)
  show (evK t' x fun v => cellsK v fun cs => match Nat.blt i len with
   | true => match Nat.beq cs.length sz with
    | true => putK z (Nat.mul i sz) cs fun z => partsSK t' len sz ps z c
    | false => false
   | false => false) = _
  dsimp only at e1
  rw [e1, e2]
  rfl
theorem pureK_congr {op : Op} (h : Agree t t' op.operands.toList) : pureK P t' op = pureK P t op := by
 funext c
 unfold pureK
 cases op with
 | move x => exact congrFun (evK_congr h (by simp [Op.operands])) c
 | assign x => exact congrFun (evK_congr h (by simp [Op.operands])) c
 | pick q x y =>
  dsimp only
  rw [evK_congr h (x := q) (by simp [Op.operands]), evK_congr h (x := x) (by simp [Op.operands]), evK_congr h (x := y) (by simp [Op.operands])]
 | nilCheck x => dsimp only;rw [evK_congr h (x := x) (by simp [Op.operands])]
 | binOp b tt x y t2 => dsimp only;rw [evK_congr h (x := x) (by simp [Op.operands]), evK_congr h (x := y) (by simp [Op.operands])]
 | unOp o tt x => dsimp only;rw [evK_congr h (x := x) (by simp [Op.operands])]
 | convert s d x => dsimp only;rw [evK_congr h (x := x) (by simp [Op.operands])]
 | makeFunc f xs ys => dsimp only;rw [evsK_congr (ys := xs.toList) h (fun y hy => by simp [Op.operands];left;simpa using hy), evsK_congr (ys := ys.toList) h (fun y hy => by simp [Op.operands];right;simpa using hy)]
 | fieldAddr s x i => dsimp only;rw [evK_congr h (x := x) (by simp [Op.operands])]
 | field s x i => dsimp only;rw [evK_congr h (x := x) (by simp [Op.operands])]
 | indexAddr tt x y => dsimp only;rw [evK_congr h (x := x) (by simp [Op.operands]), evK_congr h (x := y) (by simp [Op.operands])]
 | index tt x y => dsimp only;rw [evK_congr h (x := x) (by simp [Op.operands]), evK_congr h (x := y) (by simp [Op.operands])]
 | extract x i => dsimp only;rw [evK_congr h (x := x) (by simp [Op.operands])]
 | slice tt x lo hi mx =>
  cases mx with
  | none => dsimp only;rw [evK_congr h (x := x) (by simp [Op.operands]), bndK_congr (x := lo) h (fun y hy => by subst hy;simp [Op.operands]), bndK_congr (x := hi) h (fun y hy => by subst hy;simp [Op.operands])]
  | some _ => rfl
 | build tt parts =>
  dsimp only
  unfold buildK
  have e : ∀ pl, partsK t' pl parts.toList = partsK t pl parts.toList := fun pl => partsK_congr (ps := parts.toList) h (fun p hp => by simp [Op.operands];exact ⟨p.1, by simpa using hp⟩)
  simp only [e]
 | call q =>
  obtain ⟨callee, args, tys⟩ := q
  cases callee with
  | builtin b =>
   have hs : ∀ x, x ∈ args.toList → x ∈ (Op.call ⟨.builtin b, args, tys⟩).operands.toList := fun x hx => by simp [Op.operands, Call.operands];simpa using hx
   dsimp only
   cases ha : args.toList with
   | nil => rfl
   | cons x xs =>
    have e1 := evK_congr h (hs x (by rw [ha];simp))
    cases xs with
    | nil => dsimp only;rw [e1]
    | cons y ys =>
     cases ys with
     | nil => dsimp only;rw [e1, evK_congr h (hs y (by rw [ha];simp))]
     | cons _ _ => rfl
  | _ => rfl
 | _ => rfl
theorem memK_congr {call : CallK} {op : Op} {s : MSt} (h : Agree t t' op.operands.toList) : memK P call t' op s = memK P call t op s := by
 funext c
 have hp := pureK_congr (P := P) h
 unfold memK
 cases op with
 | load tt x => dsimp only;rw [evK_congr h (x := x) (by simp [Op.operands])]
 | store tt x y => dsimp only;rw [evK_congr h (x := x) (by simp [Op.operands]), evK_congr h (x := y) (by simp [Op.operands])]
 | alloc tt => rfl
 | box tt x => dsimp only;rw [evK_congr h (x := x) (by simp [Op.operands])]
 | buildSlice tt len parts =>
  dsimp only
  unfold buildSliceK
  have e : ∀ sz, partsSK t' len sz parts.toList = partsSK t len sz parts.toList := fun sz => partsSK_congr (ps := parts.toList) h (fun p hp => by simp [Op.operands];exact ⟨p.1, by simpa using hp⟩)
  simp only [e]
 | makeSlice tt x y => dsimp only;rw [evK_congr h (x := x) (by simp [Op.operands]), evK_congr h (x := y) (by simp [Op.operands])]
 | makeMap tt r =>
  cases r with
  | none => rfl
  | some x => dsimp only;rw [evK_congr h (x := x) (by simp [Op.operands])]
 | lookup tt x y cm => dsimp only;rw [evK_congr h (x := x) (by simp [Op.operands]), evK_congr h (x := y) (by simp [Op.operands])]
 | mapUpdate tt x y z => dsimp only;rw [evK_congr h (x := x) (by simp [Op.operands]), evK_congr h (x := y) (by simp [Op.operands]), evK_congr h (x := z) (by simp [Op.operands])]
 | call q =>
  obtain ⟨callee, args, tys⟩ := q
  cases callee with
  | builtin b =>
   have hs : ∀ x, x ∈ args.toList → x ∈ (Op.call ⟨.builtin b, args, tys⟩).operands.toList := fun x hx => by simp [Op.operands, Call.operands];simpa using hx
   cases b with
   | append =>
    dsimp only
    cases ha : args.toList with
    | nil => rfl
    | cons x xs =>
     have e1 := evK_congr h (hs x (by rw [ha];simp))
     cases xs with
     | nil => rfl
     | cons y ys =>
      cases ys with
      | nil => dsimp only;rw [e1, evK_congr h (hs y (by rw [ha];simp))]
      | cons _ _ => rfl
   | copy =>
    dsimp only
    cases ha : args.toList with
    | nil => rfl
    | cons x xs =>
     have e1 := evK_congr h (hs x (by rw [ha];simp))
     cases xs with
     | nil => rfl
     | cons y ys =>
      cases ys with
      | nil => dsimp only;rw [e1, evK_congr h (hs y (by rw [ha];simp))]
      | cons _ _ => rfl
   | _ => dsimp only;rw [hp]
  | value x =>
   dsimp only
   rw [evK_congr h (x := x) (by simp [Op.operands, Call.operands])]
   unfold callVK
   rw [evsK_congr (ys := args.toList) h (fun y hy => by simp [Op.operands, Call.operands];right;simpa using hy)]
  | invoke _ _ => dsimp only;rw [hp]
 | _ => dsimp only;rw [hp]
theorem oneK_congr {call : CallK} {ops : Array Oper} {o : Oper} {s : MSt} (h : ∀ d, Nm ops o d → t'.get d = t.get d) : oneK P call ops o t' s = oneK P call ops o t s := by
 funext c
 unfold oneK
 rw [memK_congr (t := t) fun d hd => h d (.inl hd)]
 unfold guardK
 cases hg : o.guard with
 | none => rfl
 | some q =>
  obtain ⟨j, b⟩ := q
  dsimp only
  cases hd : (ops[j]?).bind (·.dst) with
  | none => rfl
  | some tg => dsimp only;rw [h tg (.inr ⟨j, b, hg, hd⟩)]
/-! ### the masks of an operation -/
omit Y in
theorem Ord.refl' {ops : Array Oper} {j : Nat} {o : Oper} {e : Edge} (ho : ops[j]? = some o) (he : e ∈ o.after.toList) (hb : Region.binds .any e = true) : Ord ops e.on j := fun _ hc hj => hc j o ho hj e he hb
omit Y in
theorem Ord.trans' {ops : Array Oper} {i j k : Nat} (h : Ord ops i j) (h2 : Ord ops j k) : Ord ops i k := fun D hc hk => h D hc (h2 D hc hk)
omit Y in
theorem bit_lor {a b j : Nat} : bit (Nat.lor a b) j ↔ bit a j ∨ bit b j := by
 unfold bit
 rw [show Nat.lor a b = a ||| b from rfl, Nat.testBit_or, Bool.or_eq_true]
omit Y in
theorem bit_land {a b j : Nat} : bit (Nat.land a b) j ↔ bit a j ∧ bit b j := by
 unfold bit
 rw [show Nat.land a b = a &&& b from rfl, Nat.testBit_and, Bool.and_eq_true]
noncomputable def befK (bt : Tr Nat) (es : List Edge) : Nat → (Nat → Bool) → Bool := List.rec (motive := fun _ => Nat → (Nat → Bool) → Bool) (fun acc c => c acc)
 (fun e _ ih acc c => match Region.binds .any e with
  | true => match bt.get e.on with
   | some b => forceN (orB (Nat.lor acc b) e.on) fun acc => ih acc c
   | none => false
  | false => ih acc c) es
omit Y in
theorem befK_ok {bt : Tr Nat} : ∀ {es : List Edge} {acc : Nat} {c : Nat → Bool}, befK bt es acc c = true →
  ∃ bi, c bi = true ∧ (∀ e ∈ es, Region.binds .any e = true → ∃ b, bt.get e.on = some b) ∧ ∀ x, bit bi x → bit acc x ∨ ∃ e ∈ es, Region.binds .any e = true ∧ (x = e.on ∨ ∃ b, bt.get e.on = some b ∧ bit b x)
 | [], acc, c, h => ⟨acc, h, fun e he => by simp at he, fun x hx => .inl hx⟩
 | e :: es, acc, c, h => by
  have h' : (match Region.binds .any e with
   | true => match bt.get e.on with
    | some b => forceN (orB (Nat.lor acc b) e.on) fun acc => befK bt es acc c
    | none => false
   | false => befK bt es acc c) = true := h
  split at h'
  ·rename_i hb
   split at h'
   case h_2 => cases h'
   rename_i b hbt
   rw [forceN_is] at h'
   obtain ⟨bi, h1, h2, h3⟩ := befK_ok h'
   refine ⟨bi, h1, fun e' he' hb' => ?_, fun x hx => ?_⟩
   ·rcases List.mem_cons.1 he' with rfl | he'
    ·exact ⟨b, hbt⟩
    ·exact h2 e' he' hb'
   ·rcases h3 x hx with h4 | ⟨e', h4, h5⟩
    ·rcases bit_or.1 h4 with h4 | h4
     ·rcases bit_lor.1 h4 with h4 | h4
      ·exact .inl h4
      ·exact .inr ⟨e, List.mem_cons_self, hb, .inr ⟨b, hbt, h4⟩⟩
     ·exact .inr ⟨e, List.mem_cons_self, hb, .inl h4⟩
    ·exact .inr ⟨e', List.mem_cons_of_mem _ h4, h5⟩
  ·rename_i hb
   obtain ⟨bi, h1, h2, h3⟩ := befK_ok h'
   refine ⟨bi, h1, fun e' he' hb' => ?_, fun x hx => ?_⟩
   ·rcases List.mem_cons.1 he' with rfl | he'
    ·rw [hb] at hb';cases hb'
    ·exact h2 e' he' hb'
   ·rcases h3 x hx with h4 | ⟨e', h4, h5⟩
    ·exact .inl h4
    ·exact .inr ⟨e', List.mem_cons_of_mem _ h4, h5⟩
noncomputable def namesK (xs : List Operand) : Nat → (Nat → Bool) → Bool := List.rec (motive := fun _ => Nat → (Nat → Bool) → Bool) (fun acc c => c acc)
 (fun x _ ih acc c => match x with
  | .tmp d => forceN (orB acc d) fun acc => ih acc c
  | _ => ih acc c) xs
omit Y in
theorem namesK_ok : ∀ {xs : List Operand} {acc : Nat} {c : Nat → Bool}, namesK xs acc c = true → ∃ nm, c nm = true ∧ (∀ d, bit acc d → bit nm d) ∧ ∀ d, .tmp d ∈ xs → bit nm d
 | [], acc, c, h => ⟨acc, h, fun _ h => h, fun d hd => by simp at hd⟩
 | x :: xs, acc, c, h => by
  cases x with
  | tmp d =>
   have h' : (forceN (orB acc d) fun acc => namesK xs acc c) = true := h
   rw [forceN_is] at h'
   obtain ⟨nm, h1, h2, h3⟩ := namesK_ok h'
   refine ⟨nm, h1, fun d' hd' => h2 d' (bit_or.2 (.inl hd')), fun d' hd' => ?_⟩
   rcases List.mem_cons.1 hd' with hd' | hd'
   ·cases hd'
    exact h2 _ (bit_or.2 (.inr rfl))
   ·exact h3 d' hd'
  | const u =>
   obtain ⟨nm, h1, h2, h3⟩ := namesK_ok (xs := xs) (acc := acc) (c := c) h
   exact ⟨nm, h1, h2, fun d' hd' => h3 d' ((List.mem_cons.1 hd').resolve_left (by simp))⟩
  | global u =>
   obtain ⟨nm, h1, h2, h3⟩ := namesK_ok (xs := xs) (acc := acc) (c := c) h
   exact ⟨nm, h1, h2, fun d' hd' => h3 d' ((List.mem_cons.1 hd').resolve_left (by simp))⟩
  | func u =>
   obtain ⟨nm, h1, h2, h3⟩ := namesK_ok (xs := xs) (acc := acc) (c := c) h
   exact ⟨nm, h1, h2, fun d' hd' => h3 d' ((List.mem_cons.1 hd').resolve_left (by simp))⟩
noncomputable def nmK (ops : Array Oper) (o : Oper) (c : Nat → Bool) : Bool := match o.guard with
 | none => namesK o.op.operands.toList 0 c
 | some (j, _) => match (ops[j]?).bind (·.dst) with
  | some d => namesK o.op.operands.toList (orB 0 d) c
  | none => false
omit Y in
theorem nmK_ok {ops : Array Oper} {o : Oper} {c : Nat → Bool} (h : nmK ops o c = true) : ∃ nm, c nm = true ∧ ∀ d, Nm ops o d → bit nm d := by
 unfold nmK at h
 split at h
 ·rename_i hg
  obtain ⟨nm, h1, _, h3⟩ := namesK_ok h
  refine ⟨nm, h1, fun d hd => ?_⟩
  rcases hd with hd | ⟨j, b, hd, _⟩
  ·exact h3 d hd
  ·rw [hg] at hd;cases hd
 ·rename_i j b hg
  split at h
  case h_2 => cases h
  rename_i d0 hd0
  obtain ⟨nm, h1, h2, h3⟩ := namesK_ok h
  refine ⟨nm, h1, fun d hd => ?_⟩
  rcases hd with hd | ⟨j', b', hd, hd2⟩
  ·exact h3 d hd
  ·rw [hg] at hd
   cases hd
   rw [hd0] at hd2
   cases hd2
   exact h2 _ (bit_or.2 (.inr rfl))
structure PR where
 i : Nat
 F : Nat
 W : Nat
 nm : Nat
 dm : Nat
def dmOf (d : Option Tmp) : Nat := match d with | some d => Nat.pow 2 d | none => 0
omit Y in
theorem dmOf_bit {d : Tmp} : bit (dmOf (some d)) d := by
 unfold bit dmOf
 show (2 ^ d).testBit d = true
 exact Nat.testBit_two_pow_self
def clash (p : PR) (F W nm dm : Nat) : Nat := Nat.lor (Nat.lor (Nat.land p.W F) (Nat.land p.F W)) (Nat.lor (Nat.land p.dm (Nat.lor nm dm)) (Nat.land p.nm dm))
noncomputable def confK (bi F W nm dm : Nat) (ps : List PR) : Bool := List.rec true (fun p _ ih => match Nat.beq (clash p F W nm dm) 0 with
 | true => ih
 | false => match Nat.beq (Nat.land (Nat.shiftRight bi p.i) 1) 1 with
  | true => ih
  | false => false) ps
omit Y in
theorem confK_ok {bi F W nm dm : Nat} : ∀ {ps : List PR}, confK bi F W nm dm ps = true → ∀ p ∈ ps, clash p F W nm dm = 0 ∨ bit bi p.i
 | [], _, p, hp => by simp at hp
 | q :: ps, h, p, hp => by
  have h' : (match Nat.beq (clash q F W nm dm) 0 with
   | true => confK bi F W nm dm ps
   | false => match Nat.beq (Nat.land (Nat.shiftRight bi q.i) 1) 1 with
    | true => confK bi F W nm dm ps
    | false => false) = true := h
  have hr : confK bi F W nm dm ps = true ∧ (clash q F W nm dm = 0 ∨ bit bi q.i) := by
   split at h'
   ·rename_i h0
    exact ⟨h', .inl (Nat.eq_of_beq_eq_true h0)⟩
   ·split at h'
    ·rename_i h1
     refine ⟨h', .inr ?_⟩
     have := Nat.eq_of_beq_eq_true h1
     unfold bit Nat.testBit
     rw [show Nat.land (Nat.shiftRight bi q.i) 1 = (bi >>> q.i) &&& 1 from rfl, Nat.and_comm] at this
     rw [this]
     rfl
    ·cases h'
  rcases List.mem_cons.1 hp with rfl | hp
  ·exact hr.2
  ·exact confK_ok hr.1 p hp
omit Y in
theorem zero_bit {x b : Nat} (h : x = 0) : ¬ bit x b := by rw [h];exact bit0
end Go.Proofs.YtfhkmgcalcfibaaGreat
namespace Go.Proofs.YtfhkmgcalcfibaaGreat
open Go.RowKit
variable [Y : Sy]
def setF {α : Type} (f : Nat → α) (k : Nat) (x : α) : Nat → α := fun j => if j = k then x else f j
omit Y in
theorem setF_same {α : Type} {f : Nat → α} {k : Nat} {x : α} : setF f k x k = x := if_pos rfl
omit Y in
theorem setF_ne {α : Type} {f : Nat → α} {k j : Nat} {x : α} (h : j ≠ k) : setF f k x j = f j := if_neg h
omit Y in
theorem SLe.acc {m : Tr VO} {nx : Nat} {s1 : MSt} (h : SLe ⟨m, nx, 0, 0⟩ s1) (F W : Nat) : SLe ⟨m, nx, F, W⟩ ⟨s1.m, s1.nx, Nat.lor F s1.F, Nat.lor W s1.W⟩ where
 nx := h.nx
 F := fun b hb => bit_lor.2 (.inl hb)
 W := fun b hb => bit_lor.2 (.inl hb)
 WF := fun hw b hb => (bit_lor.1 hb).elim (fun hb => bit_lor.2 (.inl (hw b hb))) fun hb => bit_lor.2 (.inr (h.WF (fun b hb => (bit0 hb).elim) b hb))
 old := fun b hb hw => h.old b hb fun hc => hw (bit_lor.2 (.inr hc))
 dead := h.dead
 new := fun b h1 h2 => ⟨bit_lor.2 (.inr (h.new b h1 h2).1), bit_lor.2 (.inr (h.new b h1 h2).2)⟩
 top := h.top
section
variable {P : Program} {n : Nat} {ops : Array Oper} {t0 : Tr Value} {m0 : Tr VO} {n0 i : Nat} {T : Nat → Tr Value} {M : Nat → Tr VO} {N F W : Nat → Nat} {v : Nat → Value}
theorem Tra.snoc (h : Tra P n ops t0 m0 n0 i T M N F W v) {o : Oper} {s1 : MSt} {t1 : Tr Value} {x : Value} (ho : ops[i]? = some o) (hback : ∀ e ∈ o.after.toList, Region.binds .any e = true → e.on < i) (hs : SLe ⟨M i, N i, 0, 0⟩ s1)
  (hsem : ∃ tr : Tr Value, (∀ d y, tr.get d = some y → (T i).get d = some y ∧ Nm ops o d) ∧ SemOne P ops o tr ⟨M i, N i, 0, 0⟩ s1 x)
  (hslot : (∀ d, o.dst = some d → d < n) ∧ ∀ d, t1.get d = if o.dst = some d then some x else (T i).get d)
  (hconf : ∀ j b, j < i → (bit (W j) b ∧ bit s1.F b ∨ bit (F j) b ∧ bit s1.W b) → Ord ops j i)
  (hnames : ∀ j oj d, j < i → ops[j]? = some oj → (oj.dst = some d ∧ (Nm ops o d ∨ o.dst = some d) ∨ Nm ops oj d ∧ o.dst = some d) → Ord ops j i) :
  Tra P n ops t0 m0 n0 (i + 1) (setF T (i + 1) t1) (setF M (i + 1) s1.m) (setF N (i + 1) s1.nx) (setF F i s1.F) (setF W i s1.W) (setF v i x) := by
 have hT : ∀ j, j ≤ i → setF T (i + 1) t1 j = T j := fun j hj => setF_ne (by omega)
 have hM : ∀ j, j ≤ i → setF M (i + 1) s1.m j = M j := fun j hj => setF_ne (by omega)
 have hN : ∀ j, j ≤ i → setF N (i + 1) s1.nx j = N j := fun j hj => setF_ne (by omega)
 have hF : ∀ j, j < i → setF F i s1.F j = F j := fun j hj => setF_ne (by omega)
 have hW : ∀ j, j < i → setF W i s1.W j = W j := fun j hj => setF_ne (by omega)
 have hv : ∀ j, j < i → setF v i x j = v j := fun j hj => setF_ne (by omega)
 refine ⟨(hT 0 (Nat.zero_le _)).trans h.T0, (hM 0 (Nat.zero_le _)).trans h.M0, (hN 0 (Nat.zero_le _)).trans h.N0, fun j hj => ?_, fun j hj => ?_, fun j oj hj hoj => ?_, fun j oj hj hoj => ?_, fun j j' b hjj hj' hb => ?_, fun j j' oj oj' d hjj hj' hoj hoj' hd => ?_, h.top⟩
 ·rcases Nat.lt_or_ge j i with h1 | h1
  ·exact h.op j h1
  ·obtain rfl : j = i := by omega
   exact ⟨o, ho, hback⟩
 ·rcases Nat.lt_or_ge j i with h1 | h1
  ·rw [hM j (by omega), hN j (by omega), hM (j + 1) (by omega), hN (j + 1) (by omega), hF j h1, hW j h1]
   exact h.sle j h1
  ·obtain rfl : j = i := by omega
   rw [hM j (by omega), hN j (by omega), setF_same, setF_same, setF_same, setF_same]
   exact hs
 ·rcases Nat.lt_or_ge j i with h1 | h1
  ·rw [hT j (by omega), hM j (by omega), hN j (by omega), hM (j + 1) (by omega), hN (j + 1) (by omega), hF j h1, hW j h1, hv j h1]
   exact h.sem j oj h1 hoj
  ·obtain rfl : j = i := by omega
   rw [ho] at hoj
   cases hoj
   rw [hT j (by omega), hM j (by omega), hN j (by omega), setF_same, setF_same, setF_same, setF_same, setF_same]
   exact hsem
 ·rcases Nat.lt_or_ge j i with h1 | h1
  ·rw [hT j (by omega), hT (j + 1) (by omega), hv j h1]
   exact h.slot j oj h1 hoj
  ·obtain rfl : j = i := by omega
   rw [ho] at hoj
   cases hoj
   rw [hT j (by omega), setF_same, setF_same]
   exact hslot
 ·rcases Nat.lt_or_ge j' i with h1 | h1
  ·rw [hF j (by omega), hF j' h1, hW j (by omega), hW j' h1] at hb
   exact h.conf j j' b hjj h1 hb
  ·obtain rfl : j' = i := by omega
   rw [hF j hjj, hW j hjj, setF_same, setF_same] at hb
   exact hconf j b hjj hb
 ·rcases Nat.lt_or_ge j' i with h1 | h1
  ·exact h.names j j' oj oj' d hjj h1 hoj hoj' hd
  ·obtain rfl : j' = i := by omega
   rw [ho] at hoj'
   cases hoj'
   exact hnames j oj d hjj hoj hd
end
noncomputable def drawL (P : Program) (call : CallK) (n : Nat) (ops : Array Oper) (l : List Oper) : Nat → Tr Value → MSt → Tr Nat → List PR → (Tr Value → MSt → Bool) → Bool := List.rec (motive := fun _ => Nat → Tr Value → MSt → Tr Nat → List PR → (Tr Value → MSt → Bool) → Bool) (fun _ t s _ _ c => c t s)
 (fun o _ ih i t s bt ps c => befK bt o.after.toList 0 fun bi => nmK ops o fun nm => forceN (dmOf o.dst) fun dm => oneK P call ops o t ⟨s.m, s.nx, 0, 0⟩ fun v s1 => putSlot n o.dst v t fun t1 => match confK bi s1.F s1.W nm dm ps with
  | true => bt.setK i (some bi) fun bt => forceN (Nat.lor s.F s1.F) fun F => forceN (Nat.lor s.W s1.W) fun W => forceN (i + 1) fun i' => ih i' t1 ⟨s1.m, s1.nx, F, W⟩ bt (⟨i, s1.F, s1.W, nm, dm⟩ :: ps) c
  | false => false) l
omit Y in
theorem clash_bit {p : PR} {F W nm dm : Nat} (h : clash p F W nm dm = 0) : (∀ b, ¬ (bit p.W b ∧ bit F b)) ∧ (∀ b, ¬ (bit p.F b ∧ bit W b)) ∧ (∀ b, ¬ (bit p.dm b ∧ (bit nm b ∨ bit dm b))) ∧ ∀ b, ¬ (bit p.nm b ∧ bit dm b) := by
 unfold clash at h
 refine ⟨fun b hb => zero_bit h (bit_lor.2 (.inl (bit_lor.2 (.inl (bit_land.2 hb))))), fun b hb => zero_bit h (bit_lor.2 (.inl (bit_lor.2 (.inr (bit_land.2 hb))))), fun b hb => zero_bit h (bit_lor.2 (.inr (bit_lor.2 (.inl (bit_land.2 ⟨hb.1, bit_lor.2 hb.2⟩))))), fun b hb => zero_bit h (bit_lor.2 (.inr (bit_lor.2 (.inr (bit_land.2 hb)))))⟩
omit Y in
theorem putSlot_get {n : Nat} {d : Option Tmp} {v : Value} {t : Tr Value} {c : Tr Value → Bool} (h : putSlot n d v t c = true) : ∃ t', c t' = true ∧ (∀ k, d = some k → k < n) ∧ ∀ k, t'.get k = if d = some k then some v else t.get k := by
 unfold putSlot at h
 split at h
 ·exact ⟨t, h, fun k hk => (by cases hk), fun k => by rw [if_neg (by simp)]⟩
 ·split at h
  case h_2 => cases h
  rename_i d _ hd
  obtain ⟨t', h1, h2⟩ := Tr.setK_ok h
  refine ⟨t', h2, fun k hk => ?_, fun k => ?_⟩
  ·cases hk
   exact Nat.le_of_ble_eq_true hd
  ·rw [h1]
   by_cases he : k = d
   ·subst he
    rw [if_pos rfl, if_pos rfl]
   ·rw [if_neg he, if_neg fun hc => he (by cases hc;rfl)]
section
variable {P : Program} {n : Nat} {ops : Array Oper} {t0 : Tr Value} {s0 : MSt}
theorem drawL_ok {call : CallK} (hcall : CallOk P call) (hwf0 : Wf s0) : ∀ {l : List Oper} {i : Nat} {t : Tr Value} {s : MSt} {bt : Tr Nat} {ps : List PR} {c : Tr Value → MSt → Bool} {T : Nat → Tr Value} {M : Nat → Tr VO} {N F W : Nat → Nat} {v : Nat → Value},
  (∀ j, ops[i + j]? = l[j]?) → Tra P n ops t0 s0.m s0.nx i T M N F W v → T i = t → M i = s.m → N i = s.nx → SLe s0 s → (∀ j, j < i → ∀ b, bit (F j) b → bit s.F b) → (∀ j, j < i → ∀ b, bit (W j) b → bit s.W b) →
  (∀ j b, bt.get j = some b → j < i ∧ ∀ x, bit b x → Ord ops x j) → (∀ j oj, j < i → ops[j]? = some oj → ∃ p ∈ ps, p.i = j ∧ p.F = F j ∧ p.W = W j ∧ (∀ d, Nm ops oj d → bit p.nm d) ∧ p.dm = dmOf oj.dst) →
  drawL P call n ops l i t s bt ps c = true →
  ∃ T M N F W v Ft Wt, Tra P n ops t0 s0.m s0.nx (i + l.length) T M N F W v ∧ SLe s0 ⟨M (i + l.length), N (i + l.length), Ft, Wt⟩ ∧ (∀ j, j < i + l.length → ∀ b, bit (F j) b → bit Ft b) ∧ (∀ j, j < i + l.length → ∀ b, bit (W j) b → bit Wt b) ∧ c (T (i + l.length)) ⟨M (i + l.length), N (i + l.length), Ft, Wt⟩ = true
 | [], i, t, s, bt, ps, c, T, M, N, F, W, v, _, hT, e1, e2, e3, hs, hF, hW, _, _, h => by
  refine ⟨T, M, N, F, W, v, s.F, s.W, hT, ?_, hF, hW, ?_⟩
  ·simp only [List.length_nil, Nat.add_zero, e2, e3]
   exact hs
  ·simp only [List.length_nil, Nat.add_zero, e1, e2, e3]
   exact h
 | o :: l, i, t, s, bt, ps, c, T, M, N, F, W, v, hl, hT, e1, e2, e3, hs, hF, hW, hbt, hps, h => by
  have ho : ops[i]? = some o := by simpa using hl 0
  have h' : (befK bt o.after.toList 0 fun bi => nmK ops o fun nm => forceN (dmOf o.dst) fun dm => oneK P call ops o t ⟨s.m, s.nx, 0, 0⟩ fun v s1 => putSlot n o.dst v t fun t1 => match confK bi s1.F s1.W nm dm ps with
   | true => bt.setK i (some bi) fun bt => forceN (Nat.lor s.F s1.F) fun F => forceN (Nat.lor s.W s1.W) fun W => forceN (i + 1) fun i' => drawL P call n ops l i' t1 ⟨s1.m, s1.nx, F, W⟩ bt (⟨i, s1.F, s1.W, nm, dm⟩ :: ps) c
   | false => false) = true := h
  obtain ⟨bi, h1, b1, b2⟩ := befK_ok h'
  obtain ⟨nm, h2, hnm⟩ := nmK_ok h1
  rw [forceN_is] at h2
  have hwf : Wf ⟨s.m, s.nx, 0, 0⟩ := ⟨fun b hb => (bit0 hb).elim, (hs.wf hwf0).2⟩
  -- the operation by its own slots alone
  classical
  have hag : ∀ d, Nm ops o d → (t.filt fun d => decide (Nm ops o d)).get d = t.get d := fun d hd => by rw [Tr.filt_get, if_pos (by simpa using hd)]
  rw [← oneK_congr (t := t) (t' := t.filt fun d => decide (Nm ops o d)) hag] at h2
  obtain ⟨x, s1, hs1, hsem, h3⟩ := oneK_ok hcall hwf h2
  obtain ⟨t1, h4, k1, k2⟩ := putSlot_get h3
  split at h4
  case h_2 => cases h4
  rename_i hconf
  have hconf := confK_ok hconf
  obtain ⟨bt1, k3, h5⟩ := Tr.setK_ok h4
  rw [forceN_is, forceN_is, forceN_is] at h5
  have hord : ∀ y, bit bi y → Ord ops y i := fun y hy => by
   rcases b2 y hy with hy | ⟨e, he, heb, hy⟩
   ·exact (bit0 hy).elim
   ·rcases hy with rfl | ⟨b, hb, hy⟩
    ·exact Ord.refl' ho he heb
    ·exact ((hbt _ _ hb).2 y hy).trans' (Ord.refl' ho he heb)
  have hT1 : Tra P n ops t0 s0.m s0.nx (i + 1) (setF T (i + 1) t1) (setF M (i + 1) s1.m) (setF N (i + 1) s1.nx) (setF F i s1.F) (setF W i s1.W) (setF v i x) := by
   refine hT.snoc ho (fun e he heb => ?_) (by rw [e2, e3];exact hs1) ⟨_, fun d y hy => ?_, by rw [e2, e3];exact hsem⟩ ⟨k1, by rw [e1];exact k2⟩ (fun j b hj hb => ?_) fun j oj d hj hoj hd => ?_
   ·obtain ⟨b, hb⟩ := b1 e he heb
    exact (hbt _ _ hb).1
   ·rw [Tr.filt_get] at hy
    split at hy
    ·rename_i hd
     rw [e1]
     exact ⟨hy, by simpa using hd⟩
    ·cases hy
   ·obtain ⟨oj, hoj, _⟩ := hT.op j hj
    obtain ⟨p, hp, p1, p2, p3, _, _⟩ := hps j oj hj hoj
    rcases hconf p hp with hc | hc
    ·obtain ⟨q1, q2, _, _⟩ := clash_bit hc
     rw [p3] at q1
     rw [p2] at q2
     exact (hb.elim (q1 b) (q2 b)).elim
    ·rw [p1] at hc
     exact hord j hc
   ·obtain ⟨p, hp, p1, _, _, p4, p5⟩ := hps j oj hj hoj
    rcases hconf p hp with hc | hc
    ·obtain ⟨_, _, q3, q4⟩ := clash_bit hc
     exfalso
     rcases hd with ⟨d1, d2⟩ | ⟨d1, d2⟩
     ·rw [p5, d1] at q3
      refine q3 d ⟨dmOf_bit, ?_⟩
      rcases d2 with d2 | d2
      ·exact .inl (hnm d d2)
      ·exact .inr (by rw [d2];exact dmOf_bit)
     ·rw [d2] at q4
      exact q4 d ⟨p4 d d1, dmOf_bit⟩
    ·rw [p1] at hc
     exact hord j hc
  have hacc : SLe s0 ⟨s1.m, s1.nx, Nat.lor s.F s1.F, Nat.lor s.W s1.W⟩ := hs.trans (hs1.acc s.F s.W)
  obtain ⟨T2, M2, N2, F2, W2, v2, Ft, Wt, r1, r2, r3, r4, r5⟩ := drawL_ok hcall hwf0 (l := l) (i := i + 1) (t := t1) (s := ⟨s1.m, s1.nx, Nat.lor s.F s1.F, Nat.lor s.W s1.W⟩) (bt := bt1) (ps := ⟨i, s1.F, s1.W, nm, dmOf o.dst⟩ :: ps) (c := c)
   (fun j => by have := hl (j + 1);rw [List.getElem?_cons_succ] at this;rw [← this];congr 1;omega) hT1 setF_same setF_same setF_same hacc
   (fun j hj b hb => by
    dsimp only
    by_cases he : j = i
    ·subst he
     rw [setF_same] at hb
     exact bit_lor.2 (.inr hb)
    ·rw [setF_ne he] at hb
     exact bit_lor.2 (.inl (hF j (by omega) b hb)))
   (fun j hj b hb => by
    dsimp only
    by_cases he : j = i
    ·subst he
     rw [setF_same] at hb
     exact bit_lor.2 (.inr hb)
    ·rw [setF_ne he] at hb
     exact bit_lor.2 (.inl (hW j (by omega) b hb)))
   (fun j b hb => by
    rw [k3] at hb
    by_cases he : j = i
    ·subst he
     rw [if_pos rfl] at hb
     cases hb
     exact ⟨Nat.lt_succ_self _, hord⟩
    ·rw [if_neg he] at hb
     obtain ⟨q1, q2⟩ := hbt j b hb
     exact ⟨by omega, q2⟩)
   (fun j oj hj hoj => by
    by_cases he : j = i
    ·subst he
     rw [ho] at hoj
     cases hoj
     exact ⟨_, List.mem_cons_self, rfl, setF_same.symm, setF_same.symm, hnm, rfl⟩
    ·obtain ⟨p, hp, p1, p2, p3, p4, p5⟩ := hps j oj (by omega) hoj
     exact ⟨p, List.mem_cons_of_mem _ hp, p1, by rw [setF_ne he];exact p2, by rw [setF_ne he];exact p3, p4, p5⟩) h5
  have hlen : i + (o :: l).length = i + 1 + l.length := by simp;omega
  rw [hlen]
  exact ⟨T2, M2, N2, F2, W2, v2, Ft, Wt, r1, r2, r3, r4, r5⟩
noncomputable def drawK (P : Program) (call : CallK) (n : Nat) (ops : Array Oper) (t : Tr Value) (s : MSt) (c : Tr Value → MSt → Bool) : Bool := drawL P call n ops ops.toList 0 t s .leaf [] c
def SemD (P : Program) (n : Nat) (ops : Array Oper) (t : Tr Value) (s : MSt) (t' : Tr Value) (s' : MSt) : Prop := ∀ (S : List Nat) (W0 : World) (ρ : Rl) (df : List Deferred) (a : Act) (w : World) (Q : Exit → Act → World → Prop) (r : Option Nat) (id : Nat),
 FrR ρ n df t a → Pre S W0 ρ s s' w → (∀ ρ' a' w', Stp S W0 ρ s w ρ' s' w' → FrR ρ' n df t' a' → Q .normal a' w') → Wp r P (.region id ops true) Q a w
theorem drawK_ok {call : CallK} (hm : P.follows .mixedOrders = true) (hcall : CallOk P call) {t : Tr Value} {s : MSt} {c : Tr Value → MSt → Bool} (hwf : Wf s) (h : drawK P call n ops t s c = true) : ∃ t' s', SLe s s' ∧ SemD P n ops t s t' s' ∧ c t' s' = true := by
 have hT0 : Tra P n ops t s.m s.nx 0 (fun _ => t) (fun _ => s.m) (fun _ => s.nx) (fun _ => 0) (fun _ => 0) (fun _ => undef) := ⟨rfl, rfl, rfl, fun i hi => by omega, fun i hi => by omega, fun i o hi => by omega, fun i o hi => by omega, fun i j b h1 h2 => by omega, fun i j oi oj d h1 h2 => by omega, hwf.2⟩
 obtain ⟨T, M, N, F, W, v, Ft, Wt, r1, r2, r3, r4, r5⟩ := drawL_ok hcall hwf (l := ops.toList) (i := 0) (fun j => by simp) hT0 rfl rfl rfl (SLe.refl s) (fun j hj => by omega) (fun j hj => by omega) (fun j b hb => by rw [Tr.get_leaf] at hb;cases hb) (fun j oj hj => by omega) h
 have hlen : 0 + ops.toList.length = ops.size := by simp
 rw [hlen] at r1 r2 r3 r4 r5
 exact ⟨T ops.size, _, r2, fun S W0 ρ df a w Q r id fr hp hQ => r1.region hm r3 r4 fr hp hQ, r5⟩
end
end Go.Proofs.YtfhkmgcalcfibaaGreat
namespace Go.Proofs.YtfhkmgcalcfibaaGreat
open Go.RowKit
variable [Y : Sy]
section
variable {P : Program}
def SemC (P : Program) (n : Nat) (x : Code) (t : Tr Value) (s : MSt) (e : Exit) (t' : Tr Value) (s' : MSt) : Prop := ∀ (S : List Nat) (W0 : World) (ρ : Rl) (df : List Deferred) (a : Act) (w : World) (Q : Exit → Act → World → Prop) (r : Option Nat),
 FrR ρ n df t a → Pre S W0 ρ s s' w → (∀ ρ' a' w', Stp S W0 ρ s w ρ' s' w' → FrR ρ' n df t' a' → Q e a' w') → Wp r P x Q a w
abbrev CodeK := Tr Value → MSt → (Exit → Tr Value → MSt → Bool) → Bool
noncomputable def loopK (ih : CodeK) (fuel : Nat) : CodeK := Nat.rec (motive := fun _ => CodeK) (fun _ _ _ => false) (fun _ rec t s c => ih t s fun e t s => match e with
 | .normal => rec t s c
 | e => c e t s) fuel
noncomputable def codeK (P : Program) (call : CallK) (n : Nat) (x : Code) : CodeK := Code.rec (motive := fun _ => CodeK)
 (fun t s c => c .normal t s)
 (fun _ ops draw t s c => match draw with
  | true => drawK P call n ops t s fun t s => c .normal t s
  | false => listK P call n ops ops.toList t s fun t s => c .normal t s)
 (fun _ _ iha ihb t s c => iha t s fun e t s => match e with
  | .normal => ihb t s c
  | e => c e t s)
 (fun o _ _ iha ihb t s c => evK t o fun v => match v with
  | .bool true => iha t s c
  | .bool false => ihb t s c
  | _ => false)
 (fun id _ ih t s c => ih t s fun e t s => match e with
  | .exit i => match Nat.beq i id with
   | true => c .normal t s
   | false => c (.exit i) t s
  | e => c e t s)
 (fun _ ih t s c => loopK ih 100000 t s c)
 (fun _ _ _ _ _ _ _ _ _ => false)
 (fun id t s c => c (.exit id) t s)
 (fun _ _ _ _ _ => false)
 (fun _ _ _ _ => false)
 (fun _ _ _ _ => false)
 (fun t s c => c .ret t s)
 (fun _ _ _ _ => false) x
inductive LoopCh (P : Program) (n : Nat) (x : Code) : Nat → Tr Value → MSt → Exit → Tr Value → MSt → Prop
 | last {t t' : Tr Value} {s s' : MSt} {e : Exit} (h : SemC P n x t s e t' s') (he : e ≠ .normal) : LoopCh P n x 0 t s e t' s'
 | step {j : Nat} {t t1 t' : Tr Value} {s s1 s' : MSt} {e : Exit} (h : SemC P n x t s .normal t1 s1) (hs : SLe s s1) (hs2 : SLe s1 s') (k : LoopCh P n x j t1 s1 e t' s') : LoopCh P n x (j + 1) t s e t' s'
theorem LoopCh.sem {n : Nat} {x : Code} {j : Nat} {t t' : Tr Value} {s s' : MSt} {e : Exit} (hwf : Wf s) (hle : SLe s s') (h : LoopCh P n x j t s e t' s') : SemC P n (.loop x) t s e t' s' := by
 intro S W0 ρ df a w Q r F hp hQ
 refine c_loop (fun j a1 w1 => ∃ t1 s1 ρ1, LoopCh P n x j t1 s1 e t' s' ∧ SLe s s1 ∧ SLe s1 s' ∧ Stp S W0 ρ s w ρ1 s1 w1 ∧ FrR ρ1 n df t1 a1) j ⟨t, s, ρ, h, SLe.refl s, hle, Stp.same rfl rfl (hp.1.mono hle.F), F⟩ ?_
 rintro k a1 w1 ⟨t1, s1, ρ1, hch, h1, h2, st, F1⟩
 have hp1 := Pre.snd h1 h2 hwf hp st
 cases hch with
 | last hb he =>
  refine hb S W0 ρ1 df a1 w1 _ r F1 hp1 fun ρ2 a2 w2 st2 F2 => ?_
  have := hQ ρ2 a2 w2 (Stp.trans h1 h2 hwf hp st st2) F2
  cases e with
  | normal => exact (he rfl).elim
  | exit _ => exact this
  | goto _ => exact this
  | ret => exact this
  | panic _ => exact this
  | outgrown => exact this
 | step hb hs hs2 hk =>
  rename_i j1 t2 s2
  have hp2 := Pre.fst hs hs2 hp1
  exact hb S W0 ρ1 df a1 w1 _ r F1 hp2 fun ρ2 a2 w2 st2 F2 => ⟨j1, Nat.lt_succ_self _, t2, s2, ρ2, hk, h1.trans hs, hs2, Stp.trans h1 hs hwf (Pre.fst (h1.trans hs) hs2 hp) st st2, F2⟩
def CodeOk (P : Program) (n : Nat) (x : Code) (ih : CodeK) : Prop := ∀ t s c, Wf s → ih t s c = true → ∃ e t' s', SLe s s' ∧ SemC P n x t s e t' s' ∧ c e t' s' = true
theorem loopK_ok {n : Nat} {x : Code} {ih : CodeK} (hih : CodeOk P n x ih) : ∀ {fuel : Nat} {t : Tr Value} {s : MSt} {c : Exit → Tr Value → MSt → Bool}, Wf s → loopK ih fuel t s c = true → ∃ j e t' s', SLe s s' ∧ LoopCh P n x j t s e t' s' ∧ c e t' s' = true
 | 0, _, _, _, _, h => by cases h
 | fuel + 1, t, s, c, hwf, h => by
  have h' : (ih t s fun e t s => match e with
   | .normal => loopK ih fuel t s c
   | e => c e t s) = true := h
  obtain ⟨e, t1, s1, h1, h2, h3⟩ := hih t s _ hwf h'
  cases e with
  | normal =>
   obtain ⟨j, e, t', s', k1, k2, k3⟩ := loopK_ok hih (h1.wf hwf) h3
   exact ⟨j + 1, e, t', s', h1.trans k1, .step h2 h1 k1 k2, k3⟩
  | exit _ => exact ⟨0, _, t1, s1, h1, .last h2 (by simp), h3⟩
  | goto _ => exact ⟨0, _, t1, s1, h1, .last h2 (by simp), h3⟩
  | ret => exact ⟨0, _, t1, s1, h1, .last h2 (by simp), h3⟩
  | panic _ => exact ⟨0, _, t1, s1, h1, .last h2 (by simp), h3⟩
  | outgrown => exact ⟨0, _, t1, s1, h1, .last h2 (by simp), h3⟩
theorem codeK_ok {call : CallK} (hm : P.follows .mixedOrders = true) (hcall : CallOk P call) {n : Nat} (x : Code) : CodeOk P n x (codeK P call n x) := by
 induction x with
 | skip => exact fun t s c hwf h => ⟨.normal, t, s, SLe.refl s, fun S W0 ρ df a w Q r F hp hQ => c_skip (hQ ρ a w (Stp.same rfl rfl hp.1) F), h⟩
 | region id ops draw =>
  intro t s c hwf h
  cases draw with
  | true =>
   have h' : drawK P call n ops t s (fun t s => c .normal t s) = true := h
   obtain ⟨t', s', h1, h2, h3⟩ := drawK_ok hm hcall hwf h'
   exact ⟨.normal, t', s', h1, fun S W0 ρ df a w Q r F hp hQ => h2 S W0 ρ df a w Q r id F hp hQ, h3⟩
  | false =>
   have h' : listK P call n ops ops.toList t s (fun t s => c .normal t s) = true := h
   obtain ⟨t', s', h1, h2, h3⟩ := listK_ok hcall hwf h'
   refine ⟨.normal, t', s', h1, fun S W0 ρ df a w Q r F hp hQ => ?_, h3⟩
   have := h2 S W0 ρ df a w Q r F hp hQ
   have e : ops = ops.toList.toArray := by simp
   rw [e] at this ⊢
   exact c_region (by simpa using this)
 | seq x y ihx ihy =>
  intro t s c hwf h
  have h' : (codeK P call n x t s fun e t s => match e with
   | .normal => codeK P call n y t s c
   | e => c e t s) = true := h
  obtain ⟨e, t1, s1, h1, h2, h3⟩ := ihx t s _ hwf h'
  have hother : e ≠ .normal → c e t1 s1 = true → ∃ e t' s', SLe s s' ∧ SemC P n (.seq x y) t s e t' s' ∧ c e t' s' = true := fun he hc => by
   refine ⟨e, t1, s1, h1, fun S W0 ρ df a w Q r F hp hQ => c_seq (h2 S W0 ρ df a w _ r F hp fun ρ' a' w' st F' => ?_), hc⟩
   have := hQ ρ' a' w' st F'
   cases e with
   | normal => exact (he rfl).elim
   | exit _ => exact this
   | goto _ => exact this
   | ret => exact this
   | panic _ => exact this
   | outgrown => exact this
  cases e with
  | normal =>
   obtain ⟨e, t', s', k1, k2, k3⟩ := ihy t1 s1 c (h1.wf hwf) h3
   refine ⟨e, t', s', h1.trans k1, fun S W0 ρ df a w Q r F hp hQ => c_seq ?_, k3⟩
   exact h2 S W0 ρ df a w _ r F (Pre.fst h1 k1 hp) fun ρ1 a1 w1 st F1 => k2 S W0 ρ1 df a1 w1 Q r F1 (Pre.snd h1 k1 hwf hp st) fun ρ2 a2 w2 st2 F2 => hQ ρ2 a2 w2 (Stp.trans h1 k1 hwf hp st st2) F2
  | exit _ => exact hother (by simp) h3
  | goto _ => exact hother (by simp) h3
  | ret => exact hother (by simp) h3
  | panic _ => exact hother (by simp) h3
  | outgrown => exact hother (by simp) h3
 | cond o x y ihx ihy =>
  intro t s c hwf h
  have h' : (evK t o fun v => match v with
   | .bool true => codeK P call n x t s c
   | .bool false => codeK P call n y t s c
   | _ => false) = true := h
  obtain ⟨v, h1, h2⟩ := evK_ok h'
  split at h2
  ·obtain ⟨e, t', s', k1, k2, k3⟩ := ihx t s c hwf h2
   exact ⟨e, t', s', k1, fun S W0 ρ df a w Q r F hp hQ => wpIn_cond_true (h1.bool F) (k2 S W0 ρ df a w Q r F hp hQ), k3⟩
  ·obtain ⟨e, t', s', k1, k2, k3⟩ := ihy t s c hwf h2
   exact ⟨e, t', s', k1, fun S W0 ρ df a w Q r F hp hQ => wpIn_cond_false (h1.bool F) (k2 S W0 ρ df a w Q r F hp hQ), k3⟩
  ·cases h2
 | block id x ih =>
  intro t s c hwf h
  have h' : (codeK P call n x t s fun e t s => match e with
   | .exit i => match Nat.beq i id with
    | true => c .normal t s
    | false => c (.exit i) t s
   | e => c e t s) = true := h
  obtain ⟨e, t1, s1, h1, h2, h3⟩ := ih t s _ hwf h'
  cases e with
  | exit i =>
   dsimp only at h3
   split at h3
   ·rename_i hi
    obtain rfl := Nat.eq_of_beq_eq_true hi
    exact ⟨.normal, t1, s1, h1, fun S W0 ρ df a w Q r F hp hQ => c_block (h2 S W0 ρ df a w _ r F hp fun ρ' a' w' st F' => by simpa [Exit.inBlock] using hQ ρ' a' w' st F'), h3⟩
   ·rename_i hi
    have hi : i ≠ id := fun e => by rw [e] at hi;simp at hi
    exact ⟨.exit i, t1, s1, h1, fun S W0 ρ df a w Q r F hp hQ => c_block (h2 S W0 ρ df a w _ r F hp fun ρ' a' w' st F' => by simpa [Exit.inBlock, hi] using hQ ρ' a' w' st F'), h3⟩
  | normal => exact ⟨_, t1, s1, h1, fun S W0 ρ df a w Q r F hp hQ => c_block (h2 S W0 ρ df a w _ r F hp fun ρ' a' w' st F' => hQ ρ' a' w' st F'), h3⟩
  | goto _ => exact ⟨_, t1, s1, h1, fun S W0 ρ df a w Q r F hp hQ => c_block (h2 S W0 ρ df a w _ r F hp fun ρ' a' w' st F' => hQ ρ' a' w' st F'), h3⟩
  | ret => exact ⟨_, t1, s1, h1, fun S W0 ρ df a w Q r F hp hQ => c_block (h2 S W0 ρ df a w _ r F hp fun ρ' a' w' st F' => hQ ρ' a' w' st F'), h3⟩
  | panic _ => exact ⟨_, t1, s1, h1, fun S W0 ρ df a w Q r F hp hQ => c_block (h2 S W0 ρ df a w _ r F hp fun ρ' a' w' st F' => hQ ρ' a' w' st F'), h3⟩
  | outgrown => exact ⟨_, t1, s1, h1, fun S W0 ρ df a w Q r F hp hQ => c_block (h2 S W0 ρ df a w _ r F hp fun ρ' a' w' st F' => hQ ρ' a' w' st F'), h3⟩
 | loop x ih =>
  intro t s c hwf h
  have h' : loopK (codeK P call n x) 100000 t s c = true := h
  obtain ⟨j, e, t', s', h1, h2, h3⟩ := loopK_ok ih hwf h'
  exact ⟨e, t', s', h1, h2.sem hwf h1, h3⟩
 | exit id => exact fun t s c hwf h => ⟨.exit id, t, s, SLe.refl s, fun S W0 ρ df a w Q r F hp hQ => c_exit (hQ ρ a w (Stp.same rfl rfl hp.1) F), h⟩
 | ret => exact fun t s c hwf h => ⟨.ret, t, s, SLe.refl s, fun S W0 ρ df a w Q r F hp hQ => c_ret (hQ ρ a w (Stp.same rfl rfl hp.1) F), h⟩
 | _ => exact fun t s c hwf h => by cases h
end
end Go.Proofs.YtfhkmgcalcfibaaGreat
namespace Go.Proofs.YtfhkmgcalcfibaaGreat
open Go.RowKit
section
variable [Y : Sy]
variable {P : Program} {t : Tr Value}
theorem loadR_ok {tt : TypeId} {v : Value} {s : MSt} {c : Value → MSt → Bool} (h : loadK P tt v s c = true) :
  ∃ v' s', SLe s s' ∧ s'.m = s.m ∧ s'.nx = s.nx ∧ (∀ (S : List Nat) (W0 : World) (ρ : Rl) (u : Value) (w : World), VR ρ v u → WR S W0 ρ s.m s'.F w → ∃ ad u', u = .pointer (some ad) ∧ (loadVar tt ad).run P w = .ok u' w ∧ VR ρ v' u') ∧ c v' s' = true := by
 unfold loadK at h
 split at h
 case h_2 => cases h
 rename_i b o
 split at h
 case h_2 => cases h
 rename_i ob hb
 split at h
 case h_2 => cases h
 rename_i hmp
 rw [rdK_is] at h
 rcases partK_ok h with ⟨h1, v, h2, h3⟩ | ⟨n, h1, vs, h2, h3⟩
 ·refine ⟨v, s.rd b, SLe.rd s b, rfl, rfl, fun S W0 ρ u w hv A => ?_, h3⟩
  obtain ⟨r, cc, hr, cs', junk, q1, q2, _, _⟩ := A.atC hb bit_rd hmp
  cases hv
  rename_i r' cc' hr'
  rw [hr] at hr'
  cases hr'
  obtain ⟨y, e2, q3⟩ := vr_nth q1 h2
  exact ⟨_, y, rfl, run_loadVar_one h1 (cell_at q2 (by have := nth_junk (junk := junk) e2;rw [nth_spec] at this;simpa using this)), q3⟩
 ·refine ⟨_, s.rd b, SLe.rd s b, rfl, rfl, fun S W0 ρ u w hv A => ?_, h3⟩
  obtain ⟨r, cc, hr, cs', junk, q1, q2, _, _⟩ := A.atC hb bit_rd hmp
  cases hv
  rename_i r' cc' hr'
  rw [hr] at hr'
  cases hr'
  obtain ⟨ys, e2, q3⟩ := vr_seg q1 h2
  exact ⟨_, _, rfl, run_loadVar_agg h1 q2 (by simpa using seg_junk (junk := junk) e2), .agg (by simpa using q3)⟩
noncomputable def resK (P : Program) (t : Tr Value) (rvs : List ResultVar) : MSt → (List Value → MSt → Bool) → Bool := List.rec (motive := fun _ => MSt → (List Value → MSt → Bool) → Bool) (fun s c => c [] s)
 (fun rv _ ih s c => match rv with
  | .tmp d => match t.get d with
   | some v => ih s fun vs s => c (v :: vs) s
   | none => false
  | .cell d ty => match t.get d with
   | some v => loadK P ty v s fun v s => ih s fun vs s => c (v :: vs) s
   | none => false) rvs
theorem resK_ok : ∀ {rvs : List ResultVar} {s : MSt} {c : List Value → MSt → Bool}, resK P t rvs s c = true →
  ∃ vs s', SLe s s' ∧ s'.m = s.m ∧ s'.nx = s.nx ∧ (∀ (S : List Nat) (W0 : World) (ρ : Rl) (n : Nat) (df : List Deferred) (a : Act) (w : World), FrR ρ n df t a → WR S W0 ρ s.m s'.F w → ∃ us, VRs ρ vs us ∧ ResVs P a w rvs us) ∧ c vs s' = true
 | [], s, c, h => ⟨[], s, SLe.refl s, rfl, rfl, fun S W0 ρ n df a w F A => ⟨[], .nil, .nil⟩, h⟩
 | rv :: rvs, s, c, h => by
  cases rv with
  | tmp d =>
   have h' : (match t.get d with
    | some v => resK P t rvs s fun vs s => c (v :: vs) s
    | none => false) = true := h
   split at h'
   case h_2 => cases h'
   rename_i v hv
   obtain ⟨vs, s', h1, h2, h3, h4, h5⟩ := resK_ok h'
   refine ⟨v :: vs, s', h1, h2, h3, fun S W0 ρ n df a w F A => ?_, h5⟩
   obtain ⟨us, q1, q2⟩ := h4 S W0 ρ n df a w F A
   exact ⟨_, .cons (F.at_ d v hv) q1, .cons (.tmp rfl) q2⟩
  | cell d ty =>
   have h' : (match t.get d with
    | some v => loadK P ty v s fun v s => resK P t rvs s fun vs s => c (v :: vs) s
    | none => false) = true := h
   split at h'
   case h_2 => cases h'
   rename_i v hv
   obtain ⟨v1, s1, g1, g2, g3, g4, g5⟩ := loadR_ok h'
   obtain ⟨vs, s', h1, h2, h3, h4, h5⟩ := resK_ok g5
   refine ⟨v1 :: vs, s', g1.trans h1, h2.trans g2, h3.trans g3, fun S W0 ρ n df a w F A => ?_, h5⟩
   obtain ⟨ad, u', q1, q2, q3⟩ := g4 S W0 ρ _ w (F.at_ d v hv) (A.mono h1.F)
   obtain ⟨us, q4, q5⟩ := h4 S W0 ρ n df a w F (g2 ▸ A)
   exact ⟨_, .cons q3 q4, .cons (.cell q1 q2) q5⟩
noncomputable def slotsK (vs : List Value) : Nat → Tr Value → (Tr Value → Bool) → Bool := List.rec (motive := fun _ => Nat → Tr Value → (Tr Value → Bool) → Bool) (fun _ t c => c t) (fun v _ ih i t c => t.setK i (some v) fun t => forceN (i + 1) fun i => ih i t c) vs
omit Y in
theorem slotsK_ok : ∀ {vs : List Value} {i : Nat} {t : Tr Value} {c : Tr Value → Bool}, slotsK vs i t c = true → ∃ t', c t' = true ∧ ∀ k, t'.get k = if i ≤ k ∧ k < i + vs.length then vs[k - i]? else t.get k
 | [], i, t, c, h => ⟨t, h, fun k => by rw [if_neg (by simp)]⟩
 | v :: vs, i, t, c, h => by
  have h' : (t.setK i (some v) fun t => forceN (i + 1) fun i => slotsK vs i t c) = true := h
  obtain ⟨t1, h1, h2⟩ := Tr.setK_ok h'
  rw [forceN_is] at h2
  obtain ⟨t', h3, h4⟩ := slotsK_ok h2
  refine ⟨t', h3, fun k => ?_⟩
  rw [h4, h1]
  simp only [List.length_cons]
  by_cases hk : k = i
  ·subst hk
   rw [if_neg (by omega), if_pos rfl, if_pos (by omega)]
   simp
  ·by_cases hk2 : i + 1 ≤ k ∧ k < i + 1 + vs.length
   ·rw [if_pos hk2, if_pos (by omega)]
    obtain ⟨d, rfl⟩ : ∃ d, k = i + 1 + d := ⟨k - (i + 1), by omega⟩
    rw [show i + 1 + d - (i + 1) = d by omega, show i + 1 + d - i = d + 1 by omega, List.getElem?_cons_succ]
   ·rw [if_neg hk2, if_neg hk, if_neg (by omega)]
noncomputable def finK (P : Program) (fn : Func) (t : Tr Value) (s : MSt) (c : Value → MSt → Bool) : Bool := resK P t fn.results.toList s fun vs s => c (oneOr vs) s
theorem Stp.ext {S : List Nat} {W0 : World} {ρ : Rl} {s : MSt} {w w1 : World} (A : WR S W0 ρ s.m s.F w) (E : Ext [] w w1) : Stp S W0 ρ s w ρ s w1 :=
 ⟨fun _ _ => rfl, ⟨A.ext.trans E.any, fun b o hb hf => by
  obtain ⟨r, c, h1, h2⟩ := A.at_ b o hb hf
  exact ⟨r, c, h1, h2.later (fun _ _ h => h) (E.block r h2.lt (by simp))⟩, A.inj, A.own⟩, E.size, fun k hk _ => E.block k hk (by simp), fun b o r c h1 h2 => by omega⟩
noncomputable def callN (P : Program) (ex : CallK → CallK) (fuel : Nat) : CallK := Nat.rec (motive := fun _ => CallK) (fun _ _ _ _ => false)
 (fun _ ih f vs s c => match P.funcs[f]? with
  | some fn => match fn.body with
   | some x => match Nat.ble vs.length fn.ntmps with
    | true => slotsK vs 0 .leaf fun t => codeK P (ex ih) fn.ntmps x t s fun e t s => match e with
     | .ret => finK P fn t s c
     | .normal => finK P fn t s c
     | _ => false
    | false => false
   | none => false
  | none => false) fuel
theorem vr_oneOr {ρ : Rl} {vs us : List Value} (h : VRs ρ vs us) : VR ρ (oneOr vs) (oneOr us) := by
 cases h with
 | nil => exact .tup .nil
 | cons h t => cases t with
  | nil => exact h
  | cons h2 t2 => exact .tup (.cons h (.cons h2 t2))
theorem callN_ok (hm : P.follows .mixedOrders = true) {ex : CallK → CallK} (hex : ∀ call, CallOk P call → CallOk P (ex call)) : ∀ fuel, CallOk P (callN P ex fuel)
 | 0 => fun f vs s c hwf h => by cases h
 | fuel + 1 => fun f vs s c hwf h => by
  have h' : (match P.funcs[f]? with
   | some fn => match fn.body with
    | some x => match Nat.ble vs.length fn.ntmps with
     | true => slotsK vs 0 .leaf fun t => codeK P (ex (callN P ex fuel)) fn.ntmps x t s fun e t s => match e with
      | .ret => finK P fn t s c
      | .normal => finK P fn t s c
      | _ => false
     | false => false
    | none => false
   | none => false) = true := h
  split at h'
  case h_2 => cases h'
  rename_i fn hfn
  split at h'
  case h_2 => cases h'
  rename_i x hx
  split at h'
  case h_2 => cases h'
  rename_i hle
  obtain ⟨t, h1, h2⟩ := slotsK_ok h'
  obtain ⟨e, t1, s1, g1, g2, g3⟩ := codeK_ok hm (hex _ (callN_ok hm hex fuel)) x t s _ hwf h1
  have fin : (e = .ret ∨ e = .normal) → finK P fn t1 s1 c = true → ∃ v s', SLe s s' ∧ SemF P f vs s s' v ∧ c v s' = true := fun he hf => by
   obtain ⟨rs, s', k1, k2, k3, k4, k5⟩ := resK_ok hf
   refine ⟨oneOr rs, s', g1.trans k1, fun S W0 ρ w args hv hp => ?_, k5⟩
   refine fn_of hfn hx rfl (by rw [hv.len];exact hle) fun a F => ?_
   have F0 : FrR ρ fn.ntmps [] t a := ⟨F.size, F.defers, fun k y hy => by
    rw [h2] at hy
    simp only [Nat.zero_le, true_and, Nat.zero_add, Nat.sub_zero] at hy
    split at hy
    ·rename_i hk
     obtain ⟨u, q1, q2⟩ := vr_nth (i := k) hv (by rw [nth_spec];exact hy)
     rw [nth_spec] at q1
     have hn : ∀ (vs : List Value) (i k : Nat) (u : Value), vs[k]? = some u → look (number i vs) (i + k) = some u := fun vs => by
      induction vs with
      | nil => intro i k u h;simp at h
      | cons z zs ih =>
       intro i k u h
       simp only [number, look_put]
       cases k with
       | zero => simp at h;simp [h]
       | succ k =>
        rw [if_neg (by omega)]
        have := ih (i + 1) k u (by simpa using h)
        rw [← this]
        congr 1
        omega
     have := F.at_ k u (by have := hn args 0 k u q1;rwa [Nat.zero_add] at this)
     rw [this]
     exact q2
    ·rw [Tr.get_leaf] at hy
     cases hy⟩
   refine g2 S W0 ρ [] a w _ none F0 (Pre.fst g1 k1 hp) fun ρ1 a1 w1 st F1 => ?_
   have hp1 := Pre.snd g1 k1 hwf hp st
   obtain ⟨us, q1, q2⟩ := k4 S W0 ρ1 fn.ntmps [] a1 w1 F1 hp1.1
   have FF : Frm a1 fn.ntmps [] [] := ⟨F1.size, F1.defers, fun t v h => by simp [look] at h⟩
   have hR : ∃ ρ', Stp S W0 ρ s w ρ' s' w1 ∧ VR ρ' (oneOr rs) (oneOr us) := ⟨ρ1, Stp.trans g1 k1 hwf hp st (Stp.same k2 k3 hp1.1), vr_oneOr q1⟩
   rcases he with rfl | rfl
   ·exact p_ret FF (rvs := fn.results.toList) (by simp) q2 hR
   ·exact p_end FF (rvs := fn.results.toList) (by simp) q2 hR
  cases e with
  | ret => exact fin (.inl rfl) g3
  | normal => exact fin (.inr rfl) g3
  | exit _ => cases g3
  | goto _ => cases g3
  | panic _ => cases g3
  | outgrown => cases g3
noncomputable def trueK (P : Program) (ex : CallK → CallK) (fuel : Nat) (f : FuncId) (vs : List Value) : Bool := callN P ex fuel f vs ⟨.leaf, 0, 0, 0⟩ fun v _ => match v with
 | .bool b => b
 | _ => false
theorem trueK_ok {ex : CallK → CallK} {fuel : Nat} {f : FuncId} {vs us : List Value} [hm : TMix P] (hex : ∀ call, CallOk P call → CallOk P (ex call)) (h : trueK P ex fuel f vs = true) (hv : VRs (fun _ => none) vs us) (W : World) : Cal P f us.toArray W fun r w' => r = .bool true ∧ Ext [] W w' := by
 have hwf : Wf ⟨.leaf, 0, 0, 0⟩ := ⟨fun b hb => (bit0 hb).elim, fun b _ => Tr.get_leaf b⟩
 obtain ⟨v, s', h1, h2, h3⟩ := callN_ok hm.h hex fuel f vs ⟨.leaf, 0, 0, 0⟩ _ hwf h
 have hp : Pre [] W (fun _ => none) ⟨.leaf, 0, 0, 0⟩ s' W := by
  have hl : ∀ b (o : VO), ¬ (Tr.leaf : Tr VO).get b = some o := fun b o hb => by rw [Tr.get_leaf] at hb;cases hb
  exact ⟨⟨Ext.refl _ _, fun b o hb => (hl b o hb).elim, fun b b' o o' r c c' hb => (hl b o hb).elim, fun b o r c hb => (hl b o hb).elim⟩, fun _ _ _ => rfl⟩
 refine (h2 [] W (fun _ => none) W us hv hp).mono fun u w' ⟨ρ', st, hv⟩ => ⟨?_, st.wr.ext⟩
 split at h3
 ·rename_i b
  subst h3
  cases hv
  rfl
 ·cases h3
end
@[instance_reducible] noncomputable def sy0 : Sy := syOf 0 0 0 0 [] (by simp)
theorem true0_ok {P : Program} {fuel : Nat} {f : FuncId} [hm : TMix P] (h : @trueK sy0 P id fuel f [] = true) (W : World) : Cal P f [].toArray W fun r w' => r = .bool true ∧ Ext [] W w' := by
 letI : Sy := sy0
 exact trueK_ok (ex := id) (vs := []) (us := []) (fun _ h => h) h .nil W
theorem knownT_c (W : World) : Cal Tryz.prog 18 [].toArray W fun r w' => r = .bool true ∧ Ext [] W w' := true0_ok (fuel := 60) (by kernel_rfl) W
theorem row_ne {S : List Nat} {W w : World} {e : RtE} {t : Nat × Obj} (M : Mem S W w (e.row ++ [[t]]).flatten) : ∀ p ∈ e.row.flatten, p.1 ≠ t.1 := fun p hp h => by
 have h1 := M.nd
 rw [List.flatten_append, List.map_append, List.nodup_append] at h1
 exact h1.2.2 p.1 (List.mem_map_of_mem hp) t.1 (by simp) h
theorem rtA_keep {S : List Nat} {W w w' : World} {s : RtV} {x : RtX} {e : RtE} {t : Nat × Obj} (hA : RtA s x e) (M : Mem S W w (e.row ++ [[t]]).flatten) (E : Ext [t.1] w w') : RtAt w' s x := hA.at_ fun p hp => by
 have h1 := M.at_ p (by rw [List.flatten_append];exact List.mem_append_left _ hp)
 exact (E.block p.1 (Array.getElem?_eq_some_iff.1 h1).1 (by simpa using row_ne M p hp)).trans h1
attribute [local irreducible] OpTo wpListIn Code.wpIn MW Cal
end Go.Proofs.YtfhkmgcalcfibaaGreat
namespace Go.Proofs.YtfhkmgcalcfibaaGreat
open Go.RowKit
attribute [local irreducible] OpTo wpListIn Code.wpIn MW Cal
theorem stR_no {self now : Int} {l : List OrgV} : NoRt (stR self now l).1 := by
 unfold stR
 split
 ·exact ⟨rfl, rfl, rfl, rfl, rfl, rfl⟩
 split
 ·exact ⟨rfl, rfl, rfl, rfl, rfl, rfl⟩
 split <;> exact ⟨rfl, rfl, rfl, rfl, rfl, rfl⟩
theorem stR_valid {now : Int} {l : List OrgV} (hx : ∀ x ∈ l, IsOg x) (h : (stR 3 now l).2 = 0) : rtValid (stR 3 now l).1 = true := by
 have h1 := (stR_og (self := 3) (now := now) hx).2
 unfold stR at h h1 ⊢
 split at h
 ·cases h
 rename_i g1
 rw [if_neg g1] at h1 ⊢
 split at h
 ·cases h
 rename_i g2
 rw [if_neg g2] at h1 ⊢
 split at h
 ·cases h
 rename_i g3
 rw [if_neg g3] at h1 ⊢
 have ht : isTime now = true := by simpa using g2
 exact rtV_mk (show ¬ (3 : Int) = 0 by decide) ht (later_time ht (d := 16) (by omega)) ht h1 rfl rfl rfl rfl rfl rfl ht (fun y hy => (List.not_mem_nil hy).elim) (fun y hy => (List.not_mem_nil hy).elim)
theorem rtU {W : World} {s : RtV} {u : Value} (h : NoRt s) (hu : SlAt W 34 u s.og.length (ogsC s.og)) : RtAt W s (rxU u) := by
 obtain ⟨g1, g2, g3, g4, g5, g6⟩ := h
 refine ⟨hu, ?_, ?_, ?_, ?_, ?_, ?_⟩ <;> simp only [g1, g2, g3, g4, g5, g6] <;> exact SlAt.nil _ _
theorem isU {s : RtV} (h : NoRt s) (hu : ∀ y ∈ s.og, IsOg y) : IsRt s := by
 obtain ⟨g1, g2, g3, g4, g5, g6⟩ := h
 refine ⟨hu, ?_, ?_, ?_, ?_, ?_, ?_, ?_⟩ <;> simp only [g1, g2, g3, g4, g5, g6] <;> exact fun y hy => (List.not_mem_nil hy).elim
theorem starts_c (s : RtV) (x : RtX) (hs : IsRt s) (self now : Int) (lo : List OrgV) (hlo : ∀ x ∈ lo, IsOg x) {pl : Option Addr} {cl : Nat} {pt : Option Addr} {cap : Nat} (xs0 : List Int) (W : World) (h : RtAt W s x) (hL : SlAt W 34 (.slice pl lo.length cl) lo.length (ogsC lo)) (hI : IntsAt W (.slice pt xs0.length cap) xs0) (hcap : xs0.length ≤ cap) : Cal Tryz.prog 6 [.agg (rtC s x).toArray, .int .u64 self, .int .i64 now, .slice pl lo.length cl, .slice pt xs0.length cap].toArray W fun r w' => r = .bool true ∧ Ext [] W w' := by
 have hmem : 0 < xs0.length → ∃ b o cs t fz, pt = some ⟨b, o, none⟩ ∧ W.heap[b]? = some (.cells cs t fz) ∧ seg cs.toList o xs0.length = some (i64C xs0) := fun hl => by
  obtain ⟨p', cap', h1, _, h3⟩ := hI.ex
  cases h1
  exact h3 hl
 obtain ⟨v6, v7, v8, v9, v10, v11, v12⟩ := x
 obtain ⟨a6, a7, a8, a9, a10, a11, a12⟩ := id h
 dsimp only at a6 a7 a8 a9 a10 a11 a12
 obtain ⟨q6, c6, rfl, _⟩ := id a6
 obtain ⟨q7, c7, rfl, _⟩ := id a7
 obtain ⟨q8, c8, rfl, _⟩ := id a8
 obtain ⟨q9, c9, rfl, _⟩ := id a9
 obtain ⟨q10, c10, rfl, _⟩ := id a10
 obtain ⟨q11, c11, rfl, _⟩ := id a11
 obtain ⟨q12, c12, rfl, _⟩ := id a12
 refine g_start (n := 161) (S := []) fldT_ok slcT_ok Tryz.func6 rfl rfl rfl (gR 2 rfl (g_box rfl rfl fun b5 => gR 6 rfl (g_ldA 0 rfl rfl rfl ?_)))
 refine g_callN (ι := Bool) (fun b => .bool b) (fun _ => True) (fun _ => []) rfl rfl (fun w M => Cal.mono (small_c s _ w (h.later M.ext)) fun r w' hh => by
  obtain ⟨⟨b, hb⟩, E⟩ := hh
  exact ⟨b, hb, trivial, Mem.nil E⟩) ?_
 rintro b -
 dsimp only [List.nil_append]
 cases b
 ·refine gR 11 rfl ?_
  exact g_call rfl rfl (fun w M => knownT_c _) (gR 5 rfl (g_ret1 rfl rfl rfl fun w M => ⟨rfl, M.ext⟩))
 by_cases h12 : 12 < lo.length
 ·refine gR 8 rfl ?_
  exact g_ifT rfl (dqT (by omega)) (gR 2 rfl (g_call rfl rfl (fun w M => knownT_c _) (gR 5 rfl (g_ret1 rfl rfl rfl fun w M => ⟨rfl, M.ext⟩))))
 refine gR 8 rfl (g_ifF rfl (dqF (by omega)) (gR 5 rfl (g_callN (ι := Nat) (fun bt => .pointer (some ⟨bt, 0, none⟩)) (fun bt => W.heap.size ≤ bt) (fun bt => [[(bt, tobj pt (cut400 xs0).length cap 0)]]) rfl rfl (fun w M => Cal.mono (new_c xs0 _ (hI.later M.ext) hcap) fun x w' h => h.elim fun bt h => ⟨bt, h.1, Nat.le_trans M.ext.size ((h.2.own _ List.mem_cons_self).resolve_left (by simp)), by simpa using h.2⟩) (fun bt hbt => ?_))))
 have hT : TapeS W bt pt (cut400 xs0).length (cut400 xs0) := tape_new (Ext.refl [] W) hbt hI.bd hmem
 generalize hxs : cut400 xs0 = xs at *
 generalize hlen : xs.length = len at *
 clear hxs hI hmem hcap
 dsimp only [List.cons_append, List.nil_append]
 refine gR 6 rfl ?_
 refine g_callT (ι := Int × Nat) 0 (fun j => .int .i64 j.1) (fun j => 0 ≤ j.1 ∧ j.1 ≤ 1099511627776) (fun j => tobj pt len cap j.2) (fun _ => []) rfl rfl rfl (fun w M => Cal.mono (baseW_c w (hT.later M.ext.any) (M.at_ _ (nthO_mem (i := 0) rfl))) fun r w' h => by
  obtain ⟨x, k', qq, h1, N⟩ := h
  exact ⟨(x, k'), qq, h1, by simpa using N⟩) (fun _ => rfl) ?_
 rintro ⟨bs, k1⟩ hbs
 dsimp only [List.nil_append] at hbs ⊢
 have n11 := nxV_bd xs k1 (n := 11) (by omega)
 refine gR 12 rfl (g_callT1 0 rfl rfl rfl (fun w M => next_c _ (by omega) (by omega) w (hT.later M.ext.any) (M.at_ _ (nthO_mem (i := 0) rfl))) rfl (gR 4 rfl (g_pad ?_)))
 refine g_loop (ι := Int × (List OrgV) × Value × (List (Nat × Obj)) × Nat) ⟨fun (d, out, u, es, k) => d.toNat, fun (d, out, u, es, k) => d ≤ 10 ∧ OwnS 85 34 u out.length (ogsC out) es ∧ (∀ y ∈ out, IsOg y) ∧ (out.length : Int) + d ≤ 10 ∧ 0 ≤ d, fun (d, out, u, es, k) => [(14, .int .i64 d), (13, u), (12, .int .i64 bs), (11, .pointer (some ⟨bt, 0, none⟩)), (1, .int .u64 self), (2, .int .i64 now), (3, .slice pl lo.length cl), (5, .pointer (some ⟨b5, 0, none⟩))], fun (d, out, u, es, k) => [es, [(bt, tobj pt len cap k)], [(b5, Obj.cells (rtC s ⟨.slice q6 s.og.length c6, .slice q7 s.aj.length c7, .slice q8 s.sr.length c8, .slice q9 s.ro.length c9, .slice q10 s.ins.length c10, .slice q11 s.rq.length c11, .slice q12 s.av.length c12⟩).toArray 53 (0, 0))]]⟩ (_, [], _, [], _) ⟨by first | omega | (dsimp only;omega), OwnS.nilL _ _ _, fun y hy => (List.not_mem_nil hy).elim, by first | (simp;omega) | (dsimp only;simp;omega), by first | omega | (dsimp only;omega)⟩ (fun a F => F.only [14, 13, 12, 11, 1, 2, 3, 5] rfl) (by repeat (first | exact .refl _ | apply sC2 | apply sC1)) ?_
 clear n11
 rintro ⟨d, out, u, es, k⟩ ⟨hd, hOs, hO, hol, hd0⟩
 dsimp only at hd hOs hO hol hd0 ⊢
 by_cases hlt : 0 < d
 ·refine gR 7 rfl ?_
  refine g_ifT rfl (dqT (by omega)) (gR 7 rfl ?_)
  refine g_callT (ι := DstV × Nat) 1 (fun j => dvV j.1) (fun j => IsDv j.1 ∧ validT j.1 = true) (fun j => tobj pt len cap j.2) (fun _ => []) rfl rfl rfl (fun w M => Cal.mono (toE_c w (hT.later M.ext.any) (M.at_ _ (nthO_mem (i := 1) rfl))) fun r w' h => by
    obtain ⟨x, k', q, h1, h2, N⟩ := h
    exact ⟨(x, k'), q, ⟨h1, h2⟩, by simpa using N⟩) (fun _ => rfl) ?_
  rintro ⟨x, k1⟩ ⟨xd, -⟩
  dsimp only [List.nil_append] at xd ⊢
  unfold dvV
  have hol3 : out.length ≤ 9 := by omega
  have xo : IsOg (⟨x.dip, x.dbits, x.sip, x.sbits⟩ : OrgV) := xd
  refine g_alloc fun b15 => g_stA 0 rfl rfl (dv_len ‹_›) (dv_one _) rfl (put_all (by rw [dv_len ‹_›];first | rfl | rw [dv_len ‹_›])) rfl ?_
  refine gR 5 rfl (g_ldA 0 rfl rfl (dv_dst ‹_›) ?_)
  refine gR 1 rfl (g_ldA 0 rfl rfl (dv_src ‹_›) ?_)
  refine g_v (fun a w F M R r => o_build F rfl (og_mkA _ ‹_›) r) ?_
  refine g_bs rfl rfl rfl (og_build1 ‹_›) (fun b57 => ?_)
  refine g_app 2 0 (enc := ogC) rfl rfl ‹_› rfl rfl (og_len ‹_›) (by first | omega | (simp only [List.length_nil];omega)) (fun _ => rfl) (fun v58 es58 hO58 => ?_) (og_one _)
  refine gR 6 rfl (g_sub rfl rfl (w_i64 (by omega) (by omega)) (gR 2 rfl ?_))
  exact g_next (d - 1, out ++ [⟨x.dip, x.dbits, x.sip, x.sbits⟩], _, _, _) ⟨by dsimp only;omega, by assumption, app_is hO xo, by simp;omega, by dsimp only;omega⟩ (by dsimp only;omega) (fun a F => F.only [14, 13, 12, 11, 1, 2, 3, 5] rfl) (by (try dsimp only);repeat (first | exact .refl _ | with_reducible exact sC0 _ | with_reducible apply sC2 | apply sC1))
 have hol10 : out.length ≤ 10 := by omega
 obtain ⟨q4, c4, rfl, hq4⟩ := own_q hOs
 refine gR 7 rfl (g_ifF rfl (dqF (by omega)) (gR 2 rfl (g_outX (gR 8 rfl ?_))))
 refine g_callN (ι := Value × List (Nat × Obj)) (fun j => j.1) (fun j => OwnS 85 34 j.1 out.length (ogsC out) j.2) (fun j => [j.2]) rfl rfl (fun w M => Cal.mono (cloneO_c out (by omega) _ w (hOs.slAt M (fun q hq => List.mem_append_left _ hq))) fun r w' hh => by
  obtain ⟨ent, e1, _, e2⟩ := hh
  exact ⟨(r, ent), rfl, e1, by simpa using e2⟩) ?_
 rintro ⟨uc, ec⟩ hOc
 dsimp only [List.cons_append, List.nil_append] at hOc ⊢
 refine gR 1 rfl (g_appL 0 rfl rfl hOc rfl (fun w M => (hOs.slAt M (fun q hq => List.mem_append_right _ (List.mem_append_left _ hq))).src ogs_one) (by omega) (by omega) (fun _ => rfl) ?_)
 intro u2 e2 hO2
 have hO3 : OwnS 85 34 u2 (out ++ out).length (ogsC (out ++ out)) e2 := by
  rw [List.length_append, show ogsC (out ++ out) = ogsC out ++ ogsC out from List.flatMap_append]
  exact hO2
 have hOO : ∀ y ∈ out ++ out, IsOg y := fun y hy => (List.mem_append.1 hy).elim (hO y) (hO y)
 clear hO2 hOc
 obtain ⟨q5, c5, rfl, -⟩ := own_q hO3
 refine g_bs rfl rfl rfl rfl (fun b65 => ?_)
 refine gR 5 rfl ?_
 have key : ∀ r : Nat, r < 3 → ∃ (ls : List OrgV) (p : Option Addr) (c : Nat), (∀ x ∈ ls, IsOg x) ∧ ls.length ≤ 24 ∧ nth [.slice pl lo.length cl, .slice q4 out.length c4, .slice q5 (out ++ out).length c5] (0 + (r : Int).toNat * 1) = some (.slice p ls.length c) ∧ ∀ w, Mem [] W w ([[(b65, Obj.cells [.slice pl lo.length cl, .slice q4 out.length c4, .slice q5 (out ++ out).length c5].toArray 43 (0, 0))], e2, es, [(bt, tobj pt len cap k)], [(b5, Obj.cells (rtC s ⟨.slice q6 s.og.length c6, .slice q7 s.aj.length c7, .slice q8 s.sr.length c8, .slice q9 s.ro.length c9, .slice q10 s.ins.length c10, .slice q11 s.rq.length c11, .slice q12 s.av.length c12⟩).toArray 53 (0, 0))]] : Row).flatten → SlAt w 34 (.slice p ls.length c) ls.length (ogsC ls) := by
  intro r hr
  rcases (by omega : r = 0 ∨ r = 1 ∨ r = 2) with rfl | rfl | rfl
  ·exact ⟨lo, pl, cl, hlo, by omega, rfl, fun w M => hL.later M.ext⟩
  ·exact ⟨out, q4, c4, hO, by omega, rfl, fun w M => hOs.slAt M (fun q hq => by simp [hq])⟩
  ·exact ⟨out ++ out, q5, c5, hOO, by rw [List.length_append];omega, rfl, fun w M => hO3.slAt M (fun q hq => by simp [hq])⟩
 refine g_loop (ι := Nat) ⟨fun i => 3 - i, fun i => i ≤ 3, fun i => [(67, .int .i64 i), (66, .int .i64 3), (65, .slice (some ⟨b65, 0, none⟩) 3 3), (12, .int .i64 bs), (11, .pointer (some ⟨bt, 0, none⟩)), (1, .int .u64 self), (2, .int .i64 now), (5, .pointer (some ⟨b5, 0, none⟩))], fun i => [[(b65, Obj.cells [.slice pl lo.length cl, .slice q4 out.length c4, .slice q5 (out ++ out).length c5].toArray 43 (0, 0))], e2, es, [(bt, tobj pt len cap k)], [(b5, Obj.cells (rtC s ⟨.slice q6 s.og.length c6, .slice q7 s.aj.length c7, .slice q8 s.sr.length c8, .slice q9 s.ro.length c9, .slice q10 s.ins.length c10, .slice q11 s.rq.length c11, .slice q12 s.av.length c12⟩).toArray 53 (0, 0))]]⟩ 0 (by omega) (fun a F => F.only [67, 66, 65, 12, 11, 1, 2, 5] rfl) (by repeat (first | exact .refl _ | apply sC2 | apply sC1)) ?_
 intro i hi
 dsimp only at hi ⊢
 by_cases hlt3 : i < 3
 ·obtain ⟨ls, p, c, hls, hl24, hn, hat⟩ := key i hlt3
  refine gR 6 rfl (g_ifT rfl (dqT (by omega)) (gR 6 rfl (g_ixS rfl rfl (by omega) (by omega) (g_ld1 0 rfl rfl (by with_reducible assumption) ?_))))
  refine gR 7 rfl (g_bs rfl rfl rfl rfl (fun b73 => ?_))
  refine gR 5 rfl ?_
  have key2 : ∀ r : Nat, r < 2 → ∃ at_ : Int, nth [Value.int .i64 now, .int .i64 bs] (0 + (r : Int).toNat * 1) = some (.int .i64 at_) := by
   intro r hr
   rcases (by omega : r = 0 ∨ r = 1) with rfl | rfl
   ·exact ⟨now, rfl⟩
   ·exact ⟨bs, rfl⟩
  refine g_loop (ι := Nat) ⟨fun j => 2 - j, fun j => j ≤ 2, fun j => [(75, .int .i64 j), (74, .int .i64 2), (73, .slice (some ⟨b73, 0, none⟩) 2 2), (17, .slice p ls.length c), (67, .int .i64 i), (66, .int .i64 3), (65, .slice (some ⟨b65, 0, none⟩) 3 3), (12, .int .i64 bs), (11, .pointer (some ⟨bt, 0, none⟩)), (1, .int .u64 self), (2, .int .i64 now), (5, .pointer (some ⟨b5, 0, none⟩))], fun j => [[(b73, Obj.cells [.int .i64 now, .int .i64 bs].toArray 3 (0, 0))], [(b65, Obj.cells [.slice pl lo.length cl, .slice q4 out.length c4, .slice q5 (out ++ out).length c5].toArray 43 (0, 0))], e2, es, [(bt, tobj pt len cap k)], [(b5, Obj.cells (rtC s ⟨.slice q6 s.og.length c6, .slice q7 s.aj.length c7, .slice q8 s.sr.length c8, .slice q9 s.ro.length c9, .slice q10 s.ins.length c10, .slice q11 s.rq.length c11, .slice q12 s.av.length c12⟩).toArray 53 (0, 0))]]⟩ 0 (by omega) (fun a F => F.only [75, 74, 73, 17, 67, 66, 65, 12, 11, 1, 2, 5] rfl) (by repeat (first | exact .refl _ | apply sC2 | apply sC1)) ?_
  intro j hj
  dsimp only at hj ⊢
  by_cases hlt2 : j < 2
  ·obtain ⟨at_, hn2⟩ := key2 j hlt2
   have g1 := stR_og (self := self) (now := at_) hls
   have g2 := stR_og (self := 3) (now := at_) hls
   have n1 := stR_no (self := self) (now := at_) (l := ls)
   have n2 := stR_no (self := 3) (now := at_) (l := ls)
   have v2 := stR_valid (now := at_) hls
   obtain ⟨z, hz⟩ : ∃ z, stR self at_ ls = z := ⟨_, rfl⟩
   obtain ⟨y, hy⟩ : ∃ y, stR 3 at_ ls = y := ⟨_, rfl⟩
   rw [hz] at g1 n1
   rw [hy] at g2 n2 v2
   have l1 := (validOgs_iff.1 g1.2).1
   have l2 := (validOgs_iff.1 g2.2).1
   refine gR 6 rfl (g_ifT rfl (dqT (by omega)) (gR 6 rfl (g_ixS rfl rfl (by omega) (by omega) (g_ld1 0 rfl rfl (by with_reducible assumption) ?_))))
   refine gR 8 rfl ?_
   refine g_callN (ι := Value × List (Nat × Obj)) (fun j => .tuple #[.agg (rtC z.1 (rxU j.1)).toArray, .int .i64 z.2]) (fun j => OwnS 85 34 j.1 z.1.og.length (ogsC z.1.og) j.2) (fun j => [j.2]) rfl rfl (fun w M => Cal.mono (mStart_c self at_ ls hls (by omega) _ w (hat w (M.sub (subO (by (try dsimp only [RtE.row, List.cons_append, List.nil_append]);repeat (first | exact .refl _ | exact sC0 _ | with_reducible apply sC2 | apply sC1)))))) fun r w' hh => by
    obtain ⟨u, ent, q, h1, N⟩ := hh
    rw [hz] at q h1
    exact ⟨(u, ent), q, h1, by simpa using N⟩) ?_
   rintro ⟨u1, e1⟩ hO1
   dsimp only [List.cons_append, List.nil_append] at hO1 ⊢
   obtain ⟨pu1, wu1, rfl, -⟩ := own_q hO1
   refine gR 3 rfl (g_alloc fun b20 => ?_)
   refine g_stA 0 rfl rfl rfl rfl rfl rfl rfl ?_
   refine gR 8 rfl ?_
   refine g_callN (ι := Value × List (Nat × Obj)) (fun j => .tuple #[.agg (rtC z.1 (rxU j.1)).toArray, .int .i64 z.2]) (fun j => OwnS 85 34 j.1 z.1.og.length (ogsC z.1.og) j.2) (fun j => [j.2]) rfl rfl (fun w M => Cal.mono (refStartT_c self at_ ls hls (by omega) _ w (hat w (M.sub (subO (by (try dsimp only [RtE.row, List.cons_append, List.nil_append]);repeat (first | exact .refl _ | exact sC0 _ | with_reducible apply sC2 | apply sC1)))))) fun r w' hh => by
    obtain ⟨u, ent, q, h1, N⟩ := hh
    rw [hz] at q h1
    exact ⟨(u, ent), q, h1, by simpa using N⟩) ?_
   rintro ⟨u2, f2⟩ hO2
   dsimp only [List.cons_append, List.nil_append] at hO2 ⊢
   obtain ⟨pu2, wu2, rfl, -⟩ := own_q hO2
   refine gR 3 rfl (g_alloc fun b22 => ?_)
   refine g_stA 0 rfl rfl rfl rfl rfl rfl rfl ?_
   refine gR 7 rfl ?_
   refine g_callN (ι := Value × List (Nat × Obj)) (fun j => .tuple #[.agg (rtC y.1 (rxU j.1)).toArray, .int .i64 y.2]) (fun j => OwnS 85 34 j.1 y.1.og.length (ogsC y.1.og) j.2) (fun j => [j.2]) rfl rfl (fun w M => Cal.mono (mStart_c 3 at_ ls hls (by omega) _ w (hat w (M.sub (subO (by (try dsimp only [RtE.row, List.cons_append, List.nil_append]);repeat (first | exact .refl _ | exact sC0 _ | with_reducible apply sC2 | apply sC1)))))) fun r w' hh => by
    obtain ⟨u, ent, q, h1, N⟩ := hh
    rw [hy] at q h1
    exact ⟨(u, ent), q, h1, by simpa using N⟩) ?_
   rintro ⟨u3, f3⟩ hO4
   dsimp only [List.cons_append, List.nil_append] at hO4 ⊢
   obtain ⟨pu3, wu3, rfl, -⟩ := own_q hO4
   refine gR 3 rfl (g_alloc fun b24 => ?_)
   refine g_stA 0 rfl rfl rfl rfl rfl rfl rfl ?_
   refine gR 7 rfl ?_
   refine g_callN (ι := Value × List (Nat × Obj)) (fun j => .tuple #[.agg (rtC y.1 (rxU j.1)).toArray, .int .i64 y.2]) (fun j => OwnS 85 34 j.1 y.1.og.length (ogsC y.1.og) j.2) (fun j => [j.2]) rfl rfl (fun w M => Cal.mono (refStartT_c 3 at_ ls hls (by omega) _ w (hat w (M.sub (subO (by (try dsimp only [RtE.row, List.cons_append, List.nil_append]);repeat (first | exact .refl _ | exact sC0 _ | with_reducible apply sC2 | apply sC1)))))) fun r w' hh => by
    obtain ⟨u, ent, q, h1, N⟩ := hh
    rw [hy] at q h1
    exact ⟨(u, ent), q, h1, by simpa using N⟩) ?_
   rintro ⟨u4, f4⟩ hO5
   dsimp only [List.cons_append, List.nil_append] at hO5 ⊢
   obtain ⟨pu4, wu4, rfl, -⟩ := own_q hO5
   have e1n : (z.2 != z.2) = false := bneF rfl
   have e2n : (y.2 != y.2) = false := bneF rfl
   refine gR 3 rfl (g_alloc fun b26 => ?_)
   refine g_stA 0 rfl rfl rfl rfl rfl rfl rfl ?_
   refine gR 9 rfl (g_know 108 rfl (bneF (by omega)) (gR 5 rfl (g_know 113 rfl (bneF (by omega)) (g_ldA 6 rfl rfl rfl ?_))))
   refine g_ldA 4 rfl rfl rfl ?_
   refine g_call rfl rfl (fun w M => sameRt_c z.1 g1.1 (by omega) _ _ w (hO1.slAt M (fun q hq => by simp [hq])) (hO2.slAt M (fun q hq => by simp [hq]))) (gR 3 rfl (g_ldA 2 rfl rfl rfl ?_))
   refine g_ldA 0 rfl rfl rfl ?_
   refine g_call rfl rfl (fun w M => sameRt_c y.1 g2.1 (by omega) _ _ w (hO4.slAt M (fun q hq => by simp [hq])) (hO5.slAt M (fun q hq => by simp [hq]))) ?_
   by_cases h0 : y.2 = 0
   ·have h0t : (y.2 == 0) = true := by simp [h0]
    have h5 := v2 h0
    refine gR 6 rfl (g_know 128 rfl (dqT (by omega)) (g_ldA 2 rfl rfl rfl ?_))
    refine g_call rfl rfl (fun w M => rtvalidM_c y.1 _ (isU n2 g2.1) w (rtU n2 (hO4.slAt M (fun q hq => by simp [hq])))) (gR 5 rfl (g_ifF rfl (notF ‹_›) ?_))
    exact gR 4 rfl (g_add rfl rfl (w_i64 (by omega) (by omega)) (gR 2 rfl (g_next (j + 1) (by dsimp only;omega) (by dsimp only;omega) (fun a F => F.only [75, 74, 73, 17, 67, 66, 65, 12, 11, 1, 2, 5] rfl) (by (try dsimp only);repeat (first | exact .refl _ | with_reducible exact sC0 _ | with_reducible apply sC2 | apply sC1)))))
   ·have h0f : (y.2 == 0) = false := by simp [h0]
    exact gR 6 rfl (g_know 128 rfl (dqF (by omega)) (gR 12 rfl (g_add rfl rfl (w_i64 (by omega) (by omega)) (gR 2 rfl (g_next (j + 1) (by dsimp only;omega) (by dsimp only;omega) (fun a F => F.only [75, 74, 73, 17, 67, 66, 65, 12, 11, 1, 2, 5] rfl) (by (try dsimp only);repeat (first | exact .refl _ | with_reducible exact sC0 _ | with_reducible apply sC2 | apply sC1)))))))
  ·refine gR 6 rfl ?_
   exact g_ifF rfl (dqF (by omega)) (gR 2 rfl (g_outX (gR 4 rfl (g_add rfl rfl (w_i64 (by omega) (by omega)) (gR 2 rfl (g_next (i + 1) (by dsimp only;omega) (by dsimp only;omega) (fun a F => F.only [67, 66, 65, 12, 11, 1, 2, 5] rfl) (by (try dsimp only);repeat (first | exact .refl _ | with_reducible exact sC0 _ | with_reducible apply sC2 | apply sC1))))))))
 ·clear key
  refine gR 6 rfl (g_ifF rfl (dqF (by omega)) (gR 2 rfl (g_outX (gR 6 rfl ?_))))
  refine g_callT (ι := RtV × RtX × RtE × Nat) 3 (fun j => .agg (rtC j.1 j.2.1).toArray) (fun j => IsRt j.1 ∧ RtSm j.1 ∧ rtValid j.1 = true ∧ RtA j.1 j.2.1 j.2.2.1) (fun j => tobj pt len cap j.2.2.2) (fun j => j.2.2.1.row) rfl rfl rfl (fun w M => Cal.mono (routerB_c bs hbs w (hT.later M.ext.any) (M.at_ _ (nthO_mem (i := 3) rfl))) fun r w' h => by
   obtain ⟨s, x, e, k', h1, h2, h3, h4, h5, N⟩ := h
   exact ⟨(s, x, e, k'), h1, ⟨h2, h3, h4, h5⟩, N⟩) (fun _ => rfl) ?_
  rintro ⟨s1, ⟨u6, u7, u8, u9, u10, u11, u12⟩, ⟨f6, f7, f8, f9, f10, f11, f12⟩, k2⟩ ⟨hs1, hsm1, hv1, hA1⟩
  dsimp only [RtE.row, List.cons_append, List.nil_append] at hs1 hsm1 hv1 hA1 ⊢
  obtain ⟨z6, z7, z8, z9, z10, z11, z12⟩ := id hA1
  dsimp only at z6 z7 z8 z9 z10 z11 z12
  obtain ⟨p6, y6, rfl⟩ := z6.q
  obtain ⟨p7, y7, rfl⟩ := z7.q
  obtain ⟨p8, y8, rfl⟩ := z8.q
  obtain ⟨p9, y9, rfl⟩ := z9.q
  obtain ⟨p10, y10, rfl⟩ := z10.q
  obtain ⟨p11, y11, rfl⟩ := z11.q
  obtain ⟨p12, y12, rfl⟩ := z12.q
  refine g_alloc fun b28 => ?_
  refine g_stA 0 rfl rfl rfl rfl rfl rfl rfl ?_
  refine gR 5 rfl (g_ldA 0 rfl rfl rfl ?_)
  refine g_callT (ι := RtV × RtX × RtE × Nat) 11 (fun j => .agg (rtC j.1 j.2.1).toArray) (fun j => IsRt j.1 ∧ RtOw j.1 j.2.1 j.2.2.1) (fun j => tobj pt len cap j.2.2.2) (fun j => j.2.2.1.row) rfl rfl rfl (fun w M => by
   have M2 : Mem [] W w ((RtE.row ⟨f6, f7, f8, f9, f10, f11, f12⟩ ++ [[(bt, tobj pt len cap k2)]]).flatten) := M.sub (subO (by (try dsimp only [RtE.row, List.cons_append, List.nil_append]);repeat (first | exact .refl _ | exact sC0 _ | with_reducible apply sC2 | apply sC1)))
   refine Cal.mono (spoiled_c s1 _ hs1 hsm1 w (hT.later M.ext.any) (M.at_ _ (nthO_mem (i := 11) rfl)) (rtA_keep hA1 M2 (Ext.refl _ _)) (fun w' E => rtA_keep hA1 M2 E)) fun r w' h => ?_
   obtain ⟨s, x, e, k', h1, h2, h3, N⟩ := h
   exact ⟨(s, x, e, k'), h1, ⟨h2, h3⟩, N⟩) (fun _ => rfl) ?_
  rintro ⟨s2, ⟨v6, v7, v8, v9, v10, v11, v12⟩, ⟨g6, g7, g8, g9, g10, g11, g12⟩, k3⟩ ⟨hs2, hO2⟩
  dsimp only [RtE.row, List.cons_append, List.nil_append] at hs2 hO2 ⊢
  have hA2 := hO2.at_E
  obtain ⟨o6, o7, o8, o9, o10, o11, o12⟩ := id hO2
  dsimp only at o6 o7 o8 o9 o10 o11 o12
  obtain ⟨r6, d6, rfl, -⟩ := own_q o6
  obtain ⟨r7, d7, rfl, -⟩ := own_q o7
  obtain ⟨r8, d8, rfl, -⟩ := own_q o8
  obtain ⟨r9, d9, rfl, -⟩ := own_q o9
  obtain ⟨r10, d10, rfl, -⟩ := own_q o10
  obtain ⟨r11, d11, rfl, -⟩ := own_q o11
  obtain ⟨r12, d12, rfl, -⟩ := own_q o12
  refine g_alloc fun b29 => ?_
  refine g_stA 0 rfl rfl rfl rfl rfl rfl rfl ?_
  refine gR 2 rfl (gR 1 rfl (g_draw 20 161 rfl (by kernel_rfl) ?_))
  have cA : ∀ w, Mem [] W w ([g12, g11, g10, g9, g8, g7, g6] : Row).flatten → RtAt w s2 _ := fun w M => hA2.at_ fun p hp => M.at_ p hp
  have cB : ∀ w, Mem [] W w ([f12, f11, f10, f9, f8, f7, f6] : Row).flatten → RtAt w s1 _ := fun w M => hA1.at_ fun p hp => M.at_ p hp
  refine fd_ldA 20 rfl rfl rfl ?_
  refine fd_call rfl rfl (fun w M => rtvalidM_c s _ hs w (h.later M.ext)) (fd_ldA 20 rfl rfl rfl ?_)
  refine fd_call rfl rfl (fun w M => refvalidRt_c s _ hs w (h.later M.ext)) (fd_v (fun a w F M R r => o_eqlBT (F.e rfl) (F.e rfl) rfl r) (fR 1 rfl (fd_ldA 8 rfl rfl rfl ?_)))
  refine fd_call rfl rfl (fun w M => rtvalidM_c s1 _ hs1 w (cB w (M.sub (subO (by (try dsimp only [RtE.row, List.cons_append, List.nil_append]);repeat (first | exact .refl _ | exact sC0 _ | with_reducible apply sC2 | apply sC1)))))) (fR 2 rfl (fd_know 151 rfl ‹_› ?_))
  refine fd_ldA 0 rfl rfl rfl ?_
  refine fd_call rfl rfl (fun w M => rtvalidM_c s2 _ hs2 w (cA w (M.sub (subO (by (try dsimp only [RtE.row, List.cons_append, List.nil_append]);repeat (first | exact .refl _ | exact sC0 _ | with_reducible apply sC2 | apply sC1)))))) (fd_ldA 0 rfl rfl rfl ?_)
  exact fd_call rfl rfl (fun w M => refvalidRt_c s2 _ hs2 w (cA w (M.sub (subO (by (try dsimp only [RtE.row, List.cons_append, List.nil_append]);repeat (first | exact .refl _ | exact sC0 _ | with_reducible apply sC2 | apply sC1)))))) (fd_v (fun a w F M R r => o_eqlBT (F.e rfl) (F.e rfl) rfl r) (fR 2 rfl (fd_call rfl rfl (fun w M => knownT_c _) (fR 2 rfl (fd_done rfl rfl (gR 3 rfl (g_ret1 rfl rfl rfl fun w M => ⟨rfl, M.ext⟩)))))))
end Go.Proofs.YtfhkmgcalcfibaaGreat
namespace Go.Proofs.YtfhkmgcalcfibaaGreat
open Go.ChangeShapes Go.WideShapes Go.ChangeAt Go.RowKit
section
variable {H : Type} {enc : TypeId × Value → H} {w : World} {r : Reach} {b0 base : Nat} {sp : Nat → Bool} {held : Bool} {v : Value} {d : DataW H} {p : List MemPlace}
set_option maxRecDepth 100000 in
theorem open_ogs (hval : Value.okWide Tryz.prog w r b0 43 v) (h : DataW.Trod enc Tryz.prog w base sp held 43 v d p) : ∃ ls : List OrgV, (∀ x ∈ ls, IsOg x) ∧ SlAt w 34 v ls.length (ogsC ls) := by
 obtain ⟨a, len, cap, rfl⟩ := okWide_slice Tryz.underlying43 hval
 obtain ⟨fuel, hf⟩ := h
 obtain ⟨v', ls, e, h1, h2, _⟩ := open_slG (sz := 34) Tryz.underlying43 (by kernel_rfl) (by omega) dec_og hf
 have e' : [Value.slice a len cap] = [v'] := e
 cases e'
 exact ⟨ls, h1, h2⟩
end
theorem startsV_c (s : RtV) (x : RtX) (hs : IsRt s) (self now : Int) (lo : List OrgV) (hlo : ∀ x ∈ lo, IsOg x) (v : Value) {pt : Option Addr} {cap : Nat} (xs0 : List Int) (W : World) (h : RtAt W s x) (hL : SlAt W 34 v lo.length (ogsC lo)) (hI : IntsAt W (.slice pt xs0.length cap) xs0) (hcap : xs0.length ≤ cap) : Cal Tryz.prog 6 [.agg (rtC s x).toArray, .int .u64 self, .int .i64 now, v, .slice pt xs0.length cap].toArray W fun r w' => r = .bool true ∧ Ext [] W w' := by
 obtain ⟨q, c, rfl, _⟩ := id hL
 exact starts_c s x hs self now lo hlo xs0 W h hL hI hcap
set_option maxRecDepth 100000 in
theorem routerStarts_contract (H : Type) (enc : TypeId × Value → H) (W : World) (base : Nat) (args : Array Value) (ds gs : List (DataW H)) (before : List MemPlace)
  (hval : ∀ (j : Nat) t v, Tryz.f6.params[j]? = some t → args[j]? = some v → Value.okWide Tryz.prog W .any base t v)
  (hW : DataW.Whole enc Tryz.prog Tryz.f6.params.toList Rows.routerStartsSpec.vars false W args.toList ds gs before) (hL : laidMetH Tryz.prog seatLaid W) (hS : W.ShapedOpen Tryz.prog) :
  Calls Tryz.prog 6 args W fun e W' => ∃ v, e = .returned v ∧ Rows.routerStartsSpec.post enc Tryz.prog Tryz.f6 false true false false W args v W' := by
 have hW' := hW
 obtain ⟨p, q, hA0, hV, rfl, hfz, hnd⟩ := hW
 have hA : DataW.TrodAll enc Tryz.prog W 0 (fun _ => true) true Tryz.f6.params.toList args.toList ds p := hA0
 rw [Tryz.params6] at hA hval
 obtain ⟨v0, vs0, d0, ds0, p0, q0, hargs, rfl, rfl, h0, r0⟩ := trodAll_cons hA
 obtain ⟨v1, vs1, d1, ds1, p1, q1, rfl, rfl, rfl, h1, r1⟩ := trodAll_cons r0
 obtain ⟨v2, vs2, d2, ds2, p2, q2, rfl, rfl, rfl, h2, r2⟩ := trodAll_cons r1
 obtain ⟨v3, vs3, d3, ds3, p3, q3, rfl, rfl, rfl, h3, r3⟩ := trodAll_cons r2
 obtain ⟨v4, vs4, d4, ds4, p4, q4, rfl, rfl, rfl, h4, r4⟩ := trodAll_cons r3
 obtain ⟨rfl, rfl, rfl⟩ := trodAll_nil r4
 obtain rfl : args = #[v0, v1, v2, v3, v4] := by cases args;simp_all
 obtain ⟨s0, y0, hx0, hs0, rfl⟩ := open_rt (hval 0 _ v0 rfl rfl) h0
 obtain ⟨x1, rfl, rfl, rfl, w1⟩ := open_int Tryz.underlying41 (hval 1 _ v1 rfl rfl) h1;have hx1 := int_bd w1
 obtain ⟨x2, rfl, rfl, rfl, w2⟩ := open_int Tryz.underlying3 (hval 2 _ v2 rfl rfl) h2;have hx2 := int_bd w2
 obtain ⟨l3, hx3, hs3⟩ := open_ogs (hval 3 _ v3 rfl rfl) h3
 obtain ⟨l4, q4p, cap4, rfl, hc4, hx4⟩ := open_il (hval 4 _ v4 rfl rfl) h4
 refine ((startsV_c s0 y0 hx0 x1 x2 l3 hx3 v3 l4 W hs0 hs3 hx4 hc4).calls).mono ?_
 rintro e W' ⟨v, rfl, rfl, hE⟩
 exact ⟨_, rfl, law_post (tb := 4) laidOut (by kernel_rfl) rfl (by kernel_rfl) Tryz.underlying4 (fun xs hx => by rw [Tryz.params6] at hx;match xs, hx with | [_, _, _, _, _], _ => rfl) hW' hE⟩
set_option maxRecDepth 100000 in
theorem routerStarts_lifted (os : Os) (started : os.Started) (H : Type) (enc : TypeId × Value → H) (F : Stop.Interp) :
  ReturnsInHanded {} Tryz.checked os 6 .any ((OpenSpec.ofChange Rows.routerStartsSpec).preRow enc Tryz.prog Tryz.f6 Rows.routerStartsRow.domain false Rows.routerStartsRow.laid) (((OpenSpec.ofChange Rows.routerStartsSpec).at F).post enc Tryz.prog Tryz.f6 false true false false) := by
 have hx : ∃ places ds, DataW.whole enc Tryz.prog ((laidWorld os).forCall (fun _ _ => 0) ⟨#[], #[.agg (rtC ⟨0, 0, 0, 0, 0, 0, 0, [], [], [], [], [], [], []⟩ ⟨.slice none 0 0, .slice none 0 0, .slice none 0 0, .slice none 0 0, .slice none 0 0, .slice none 0 0, .slice none 0 0⟩).toArray, .int .u64 0, .int .i64 0, .slice none 0 0, .slice none 0 0], []⟩).memory Tryz.f6.params.toList Rows.routerStartsSpec.vars false #[Value.agg (rtC ⟨0, 0, 0, 0, 0, 0, 0, [], [], [], [], [], [], []⟩ ⟨.slice none 0 0, .slice none 0 0, .slice none 0 0, .slice none 0 0, .slice none 0 0, .slice none 0 0, .slice none 0 0⟩).toArray, .int .u64 0, .int .i64 0, .slice none 0 0, .slice none 0 0].toList 8 = some (ds, [], places) ∧ ds = [.agg [.lit (.int .u64 0), .lit (.int .u16 0), .lit (.int .i64 0), .lit (.int .i64 0), .lit (.int .u16 0), .lit (.int .i64 0), .nil, .nil, .nil, .nil, .nil, .nil, .agg [.nil, .lit (.int .i64 0)]], .lit (.int .u64 0), .lit (.int .i64 0), .nil, .nil] := ⟨[], [.agg [.lit (.int .u64 0), .lit (.int .u16 0), .lit (.int .i64 0), .lit (.int .i64 0), .lit (.int .u16 0), .lit (.int .i64 0), .nil, .nil, .nil, .nil, .nil, .nil, .agg [.nil, .lit (.int .i64 0)]], .lit (.int .u64 0), .lit (.int .i64 0), .nil, .nil], by kernel_rfl, rfl⟩
 obtain ⟨places, ds, hx, rfl⟩ := hx
 refine returnsInHanded_of_row (C := Tryz.checked) (s := OpenSpec.ofChange Rows.routerStartsSpec) own started (by kernel_rfl) Tryz.func6
  (witness_row_at (enc := enc) (C := Tryz.checked) false (laidWorld os) #[.agg (rtC ⟨0, 0, 0, 0, 0, 0, 0, [], [], [], [], [], [], []⟩ ⟨.slice none 0 0, .slice none 0 0, .slice none 0 0, .slice none 0 0, .slice none 0 0, .slice none 0 0, .slice none 0 0⟩).toArray, .int .u64 0, .int .i64 0, .slice none 0 0, .slice none 0 0] rfl (by kernel_rfl) (by kernel_rfl) (by kernel_rfl)
   (OpenSpec.preRow_of_cond 8 hx (by kernel_rfl) (fun k hk => by cases hk) (by kernel_rfl) (laid_met os _))) ?_
 intro W base args ds gs before hval hW _ hcond _ hL hS _
 exact routerStarts_contract H enc W base args ds gs before hval hW hL hS
theorem routerStarts_name : Tryz.pinned.checked.prog.funcNamed Rows.routerStartsRow.func = some 6 := by kernel_rfl
theorem routerStarts_closed : joinedFacts Tryz.pinned.checked.prog 6 Tryz.f6 (OpenSpec.ofChange Rows.routerStartsSpec).bare Rows.routerStartsRow = true := by
 unfold joinedFacts
 simp only [Bool.and_eq_true]
 repeat' apply And.intro
 all_goals (as_aux_lemma => kernel_rfl)
theorem routerStarts_said : Rows.RouterStartsSaid :=
 OpenClaim.holds_of_cond 6 Tryz.f6 rfl rfl rfl rfl rfl rfl rfl ⟨rfl, rfl, rfl, rfl, rfl⟩ rfl rfl rfl rfl rfl routerStarts_name Tryz.func6 routerStarts_closed
  (dqU (by kernel_rfl)) (by unfold Func.isWrapper;first | (rw [if_pos (by decide +kernel)];kernel_rfl) | (rw [if_neg (by decide +kernel)];exact ⟨rfl, rfl⟩))
  (fun os started H enc _ F => by rw [OpenClaim.pre_eq_preRow];exact routerStarts_lifted os started H enc F)
#print axioms routerStarts_said
end Go.Proofs.YtfhkmgcalcfibaaGreat

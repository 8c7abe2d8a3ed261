/-
  Texts joined.
-/
import Derived.Test.YtfhkmgcalcfibaaGreatTlsF2
set_option linter.unusedVariables false
set_option linter.unusedSimpArgs false
set_option maxHeartbeats 64000000
namespace Go.Proofs.YtfhkmgcalcfibaaGreat
open Go.RowKit
theorem Mem.joinB {S : List Nat} {W0 w w' : World} {l0 r new : List (Nat × Obj)} (M : Mem S W0 w (l0 ++ r)) (N : Mem (l0.map (·.1)) w w' new) : Mem S W0 w' (new ++ r) := by
 have hnd := M.nd
 simp only [List.map_append, List.nodup_append] at hnd
 have hE : Ext S W0 w' := (M.ext.mono (S' := S ++ l0.map (·.1)) fun k hk => List.mem_append_left _ hk).trans (N.ext.mono fun k hk => List.mem_append_right _ hk) |>.fresh fun k hk => by
  rcases List.mem_append.1 hk with h | h
  ·exact .inl h
  ·obtain ⟨q, hq, rfl⟩ := List.mem_map.1 h
   exact M.own q (List.mem_append_left _ hq)
 have hr : ∀ p ∈ r, p.1 ∉ l0.map (·.1) := fun p hp hc => hnd.2.2 _ hc _ (List.mem_map.2 ⟨p, hp, rfl⟩) rfl
 refine ⟨hE, fun p hp => ?_, ?_, fun p hp => ?_⟩
 ·rcases List.mem_append.1 hp with h | h
  ·exact N.at_ p h
  ·exact (N.ext.block p.1 (M.lt (List.mem_append_right _ h)) (hr p h)).trans (M.at_ p (List.mem_append_right _ h))
 ·simp only [List.map_append, List.nodup_append]
  refine ⟨N.nd, hnd.2.1, fun a ha b hb e => ?_⟩
  obtain ⟨p, hp, rfl⟩ := List.mem_map.1 ha
  obtain ⟨q, hq, rfl⟩ := List.mem_map.1 hb
  rcases N.own p hp with h | h
  ·exact hr q hq (e ▸ h)
  ·have := M.lt (List.mem_append_right _ hq)
   omega
 ·rcases List.mem_append.1 hp with h | h
  ·rcases N.own p h with h1 | h1
   ·obtain ⟨q, hq, e⟩ := List.mem_map.1 h1
    rw [← e]
    exact M.own q (List.mem_append_left _ hq)
   ·exact .inr (Nat.le_trans M.ext.size h1)
  ·exact M.own p (List.mem_append_right _ h)
theorem NwS.staysBut {n0 len : Nat} {o : Obj} {B : List Nat} (hB : ∀ b ∈ B, b < n0) : Stays (keepBut B) (NwS n0 len o) := fun v w w' ⟨b, h1, h2, h3⟩ h => ⟨b, h1, h2, by
 rw [Ext.block h b (Array.getElem?_eq_some_iff.1 h3).1 (fun hb => Nat.lt_irrefl _ (Nat.lt_of_lt_of_le (hB b hb) h2))];exact h3⟩
def IsT2 (v : Value) : Prop := ∃ x y, v = .tuple #[x, y]
inductive XP
 | nw (len : Nat) (o : Obj)
 | t2
 | any
 | pt (off : Nat) (o : Obj)
 | sl (sz n : Nat) (cs : List Value)
def XP.pred (n0 : Nat) : XP → Pred
 | .nw len o => NwS n0 len o
 | .t2 => fun v _ => IsT2 v
 | .any => fun _ _ => True
 | .pt off o => fun v w => ∃ b, v = .pointer (some ⟨b, off, none⟩) ∧ n0 ≤ b ∧ w.heap[b]? = some o
 | .sl sz n cs => fun v w => SlAt w sz v n cs ∧ NewV n0 v
theorem XP.stays {n0 : Nat} {B : List Nat} (hB : ∀ b ∈ B, b < n0) : ∀ x : XP, Stays (keepBut B) (x.pred n0)
 | .nw _ _ => NwS.staysBut hB
 | .t2 => fun _ _ _ h _ => h
 | .any => fun _ _ _ h _ => h
 | .pt _ _ => fun v w w' ⟨b, h1, h2, h3⟩ h => ⟨b, h1, h2, by
  rw [Ext.block h b (Array.getElem?_eq_some_iff.1 h3).1 (fun hb => Nat.lt_irrefl _ (Nat.lt_of_lt_of_le (hB b hb) h2))];exact h3⟩
 | .sl _ _ _ => fun v w w' ⟨h1, h2⟩ h => ⟨h1.laterB (fun b o s k c e hb => Nat.lt_irrefl _ (Nat.lt_of_lt_of_le (hB b hb) (h2 b o s k c e))) h, h2⟩
structure RX where
 ol : List Oper
 n : Nat
 B : List Nat
 Ef : List Nat
 Rl : List (Nat × Nat)
 lk : Row
abbrev ESt := List (Nat × Value) → Row → Prop
def ET (c : Cx) (E : ESt) : SPred := fun σ w => ∃ sl l, E sl l ∧ (∀ q ∈ sl, σ q.1 = q.2) ∧ Mem c.S c.W w l.flatten
def FE (c : Cx) (Q : Exit → Act → World → Prop) (ks : List KF) (x : RX) (k : Nat) (rest : List Oper) (fr : List (Nat × Value)) (xs : List (Nat × XP)) (E : ESt) : Prop :=
 (∀ sl l, E sl l → ∀ q ∈ sl, q.1 < k) → ∀ a w Vs, (∀ w', Ext x.B w w' → Mem c.S c.W w' x.lk.flatten) → (∀ b ∈ x.B, b < w.heap.size) → regOk x.ol.toArray x.n = true → (∀ q ∈ xs, Vs[q.1]? = some (q.2.pred w.heap.size)) →
  MW ⟨keepBut x.B, x.Ef, [], c.P, c.r, x.ol.toArray, x.n, c.n, c.df, a, w, KQ c Q ks, [], x.Rl⟩ k rest fr Vs (ET c E)
theorem xs_app {xs : List (Nat × XP)} {n0 : Nat} {Vs : List Pred} {V : Pred} (h : ∀ q ∈ xs, Vs[q.1]? = some (q.2.pred n0)) : ∀ q ∈ xs, (Vs ++ [V])[q.1]? = some (q.2.pred n0) := fun q hq => by
 have := h q hq
 rw [List.getElem?_append_left (List.getElem?_eq_some_iff.1 this).1, this]
def E0 (l : Row) : ESt := fun sl l' => sl = [] ∧ l' = l
section
variable {c : Cx} {Q : Exit → Act → World → Prop} {ks : List KF} {fr fr' : List (Nat × Value)} {l : Row} {x : RX} {rest rest' : List Oper} {k k' : Nat} {xs : List (Nat × XP)} {E : ESt} {d : Nat} {op : Op} {ty : TypeId} {pos : String} {af : Array Edge} {g : Option (Nat × Bool)}
theorem g_drawE {id : Nat} {ol : List Oper} (n nt : Nat) (B Ef : List Nat) (Rl : List (Nat × Nat)) (l0 lk : Row) [hm : TMix c.P] (hnt : c.n = nt) (hchk : (regOk ol.toArray n && tailOk ol.toArray n && Nat.ble n ol.length && dstOk ol.toArray n nt && effOk ol.toArray n Ef && xOk ol.toArray n Ef [] && relOk ol.toArray n Rl) = true)
  (hp : l.flatten.Perm (l0.flatten ++ lk.flatten)) (hB : ∀ b ∈ B, b ∈ l0.flatten.map (·.1)) (h : FE c Q ks ⟨ol, n, B, Ef, Rl, lk⟩ 0 ol fr [] (E0 l)) : G c Q ks (.code (.region id ol.toArray true)) fr l := fun a w F M =>
 c_drawX (keepBut B) Ef [] Rl (ET c (E0 l)) n F (by rw [hnt];exact hchk) (fun σ w w' ⟨sl, l', h1, h2, h3⟩ hE => ⟨sl, l', h1, h2, h3.later hE⟩) (by simp) (fun σ d hd => ⟨[], l, ⟨rfl, rfl⟩, by simp, M.later (Ext.drawn w d hd)⟩) fun w1 hE hs hok => by
  have M1 := (M.later hE).perm hp
  refine h (by rintro _ _ ⟨rfl, _⟩ q hq;cases hq) a w1 [] (fun w' hE' => M1.laterBut hE' hB) (fun b hb => ?_) hok (by simp)
  obtain ⟨q, hq, e⟩ := List.mem_map.1 (hB b hb)
  rw [← e]
  exact M1.lt (List.mem_append_left _ hq)
theorem fe_c {v : Value} (h : ∀ a w, Frm a c.n c.df fr → Mem c.S c.W w x.lk.flatten → OpTo c.P ⟨some d, op, ty, pos, af, g⟩ a.eval w fun u w' => Ext [] w w' ∧ u = v)
  (hk : FE c Q ks x (k + 1) rest ((d, v) :: fr) xs E) (hlt : flo x.Ef x.Rl [] x.n k op = true := by rfl) (hd : Nat.blt d c.n = true := by rfl) (hg : gOk x.ol.toArray fr g = some true := by rfl) : FE c Q ks x k (⟨some d, op, ty, pos, af, g⟩ :: rest) fr xs E := fun hE a w Vs hM hB hok hx => by
 have hE' : ∀ sl l, E sl l → ∀ q ∈ sl, q.1 < k + 1 := fun sl l h q hq => Nat.lt_succ_of_lt (hE sl l h q hq)
 rcases gOk_true hg with rfl | ⟨j, b, t, rfl, ht, hl⟩
 ·exact mK hok hlt hd (fun a' w' F he => h a' w' F (hM w' he)) (hk hE' a w _ hM hB hok (xs_app hx))
 ·exact mKG hok hlt hd ht hl (fun a' w' F he => h a' w' F (hM w' he)) (hk hE' a w _ hM hB hok (xs_app hx))
theorem fe_v {v : Value} (h : ∀ a w, Frm a c.n c.df fr → Mem c.S c.W w x.lk.flatten → ∀ R : Value → World → Prop, R v w → OpTo c.P ⟨some d, op, ty, pos, af, g⟩ a.eval w R)
  (hk : FE c Q ks x (k + 1) rest ((d, v) :: fr) xs E) (hlt : flo x.Ef x.Rl [] x.n k op = true := by rfl) (hd : Nat.blt d c.n = true := by rfl) (hg : gOk x.ol.toArray fr g = some true := by rfl) : FE c Q ks x k (⟨some d, op, ty, pos, af, g⟩ :: rest) fr xs E :=
 fe_c (fun a w F M => h a w F M _ ⟨Ext.refl _ _, rfl⟩) hk hlt hd hg
theorem fe_off (hk : FE c Q ks x (k + 1) rest ((d, undef) :: fr) xs E) (hlt : flo x.Ef x.Rl [] x.n k op = true := by rfl) (hd : Nat.blt d c.n = true := by rfl) (hg : gOk x.ol.toArray fr g = some false := by rfl) : FE c Q ks x k (⟨some d, op, ty, pos, af, g⟩ :: rest) fr xs E := fun hE a w Vs hM hB hok hx => by
 obtain ⟨j, b, t, v, rfl, ht, hl, ho⟩ := gOk_false hg
 exact mOff hok hlt hd ht hl ho (hk (fun sl l h q hq => Nat.lt_succ_of_lt (hE sl l h q hq)) a w _ hM hB hok (xs_app hx))
def runE (c : Cx) (x : RX) : Nat → Nat → List Oper → List (Nat × Value) → Nat × List Oper × List (Nat × Value)
 | m + 1, k, o :: rest, fr => match o.dst with
  | some d => match Nat.blt d c.n && flo x.Ef x.Rl [] x.n k o.op with
   | true => match gOk x.ol.toArray fr o.guard with
    | some true => match evO c fr o.op with
     | some v => runE c x m (k + 1) rest ((d, v) :: fr)
     | none => (k, o :: rest, fr)
    | some false => runE c x m (k + 1) rest ((d, undef) :: fr)
    | none => (k, o :: rest, fr)
   | false => (k, o :: rest, fr)
  | none => (k, o :: rest, fr)
 | _, k, rest, fr => (k, rest, fr)
theorem fe_run : ∀ (m : Nat) {k k' : Nat} {rest rest' : List Oper} {fr fr' : List (Nat × Value)}, runE c x m k rest fr = (k', rest', fr') → FE c Q ks x k' rest' fr' xs E → FE c Q ks x k rest fr xs E
 | 0, k, k', rest, rest', fr, fr', h, hk => by
  cases rest <;> cases h <;> exact hk
 | m + 1, k, k', [], rest', fr, fr', h, hk => by
  cases h
  exact hk
 | m + 1, k, k', o :: rest, rest', fr, fr', h, hk => by
  obtain ⟨dst, op, ty, pos, af, g⟩ := o
  unfold runE at h
  split at h
  ·rename_i d hd0
   dsimp only at hd0
   subst hd0
   split at h
   ·rename_i hb
    simp only [Bool.and_eq_true] at hb
    split at h
    ·rename_i hg
     split at h
     ·rename_i v hv
      exact fe_v (fun a w F M R r => evO_ok F hv r) (fe_run m h hk) hb.2 hb.1 hg
     ·cases h
      exact hk
    ·rename_i hg
     exact fe_off (fe_run m h hk) hb.2 hb.1 hg
    ·cases h
     exact hk
   ·cases h
    exact hk
  ·cases h
   exact hk
theorem fe_bs {t e : TypeId} {len sz : Nat} {ys : List (Nat × Operand)} {parts : List (Nat × List Value)} {zs cs : List Value} [ht : TU c.P t (.slice e)] [hs : TSz c.P e sz] [hz : TZero c.P e zs] (hv : evP fr ys = some parts)
  (hle : Nat.ble (len * sz) 16777216 = true) (hzl : Nat.beq zs.length sz = true) (hp : putAll (placesL len sz) (zerosL zs (len * sz)) parts = some cs)
  (hk : FE c Q ks x (k + 1) rest fr ((k, .nw len (.cells cs.toArray e (0, 0))) :: xs) E) (hlt : flo x.Ef x.Rl [] x.n k (.buildSlice t len ys.toArray) = true := by rfl) (hnd : notIn d fr = true := by rfl) :
  FE c Q ks x k (⟨some d, .buildSlice t len ys.toArray, ty, pos, af, none⟩ :: rest) fr xs E := fun hE a w Vs hM hB hok hx => by
 intro hlen
 refine mX (V := NwS w.heap.size len (.cells cs.toArray e (0, 0))) hok hlt hnd (NwS.staysBut hB) (fun a' w' F' E' D' => o_buildSlice F' (Mem.start [] w') hv hle hzl hp fun b w'' M'' => ⟨M''.ext, b, rfl, Nat.le_trans E'.size ((M''.own _ List.mem_cons_self).resolve_left (by simp)), M''.heap .here⟩) (hk (fun sl l h q hq => Nat.lt_succ_of_lt (hE sl l h q hq)) a w _ hM hB hok fun q hq => ?_) hlen
 rcases List.mem_cons.1 hq with rfl | hq
 ·show (Vs ++ [NwS w.heap.size len (.cells cs.toArray e (0, 0))])[k]? = some (NwS w.heap.size len (.cells cs.toArray e (0, 0)))
  rw [← hlen]
  simp
 ·exact xs_app hx q hq
def OpF (c : Cx) (x : RX) (xs : List (Nat × XP)) (o : Oper) (fr : List (Nat × Value)) (l : Row) (Ψ : Value → Row → Prop) : Prop :=
 ∀ a w, Frm a c.n c.df fr → Mem c.S c.W w l.flatten → (∀ q ∈ xs, q.1 ∈ depsOf o → ∃ n0, q.2.pred n0 (slotV x.ol.toArray q.1 a) w) → OpTo c.P o a.eval w fun v w' => Ext x.B w w' ∧ ∃ r, Ψ v r ∧ Mem c.S c.W w' r.flatten
def dsFr : List (Nat × Nat) → List (Nat × Value) → List (Nat × Value)
 | [], _ => []
 | p :: r, sl => match look sl p.1 with
  | some v => (p.2, v) :: dsFr r sl
  | none => dsFr r sl
def dsOk (ops : Array Oper) (o : Oper) (Ef : List Nat) (ds : List (Nat × Nat)) : Bool := ds.all fun p => (depsOf o).contains p.1 && Ef.contains p.1 && (match (ops[p.1]?).bind (·.dst) with | some t => Nat.beq t p.2 | none => false)
theorem look_mem : ∀ {sl : List (Nat × Value)} {j : Nat} {v : Value}, look sl j = some v → (j, v) ∈ sl
 | [], _, _, h => by simp [look] at h
 | (t, u) :: r, j, v, h => by
  unfold look at h
  split at h
  ·rename_i hb
   cases h
   simp [Nat.eq_of_beq_eq_true hb]
  ·exact List.mem_cons_of_mem _ (look_mem h)
theorem dsFr_frm {o : Oper} {a : Act} {sl : List (Nat × Value)} (F : Frm a c.n c.df fr) (hs : ∀ q ∈ sl, q.1 ∈ x.Ef → q.1 ∈ depsOf o → slotV x.ol.toArray q.1 a = q.2) : ∀ {ds : List (Nat × Nat)}, dsOk x.ol.toArray o x.Ef ds = true → Frm a c.n c.df (dsFr ds sl ++ fr)
 | [], _ => F
 | (j, t) :: r, h => by
  simp only [dsOk, List.all_cons, Bool.and_eq_true] at h
  have ih := dsFr_frm F hs (ds := r) h.2
  unfold dsFr
  split
  ·rename_i v hv
   refine ih.know ?_
   have h1 := hs _ (look_mem hv) (by simpa using h.1.1.2) (by simpa using h.1.1.1)
   have h2 := h.1.2
   dsimp only at h1 h2
   unfold slotV at h1
   revert h1 h2
   cases ((x.ol.toArray[j]?).bind (·.dst)) with
   | none => intro _ h2;cases h2
   | some t' => intro h1 h2;rw [← Nat.eq_of_beq_eq_true h2];exact h1
  ·exact ih
theorem fe_eff (Ψ : List (Nat × Value) → Row → Value → Row → Prop) (ds : List (Nat × Nat)) (p : XP) (h : ∀ sl l, E sl l → OpF c x xs ⟨some d, op, ty, pos, af, none⟩ (dsFr ds sl ++ fr) l (Ψ sl l)) (hp : ∀ sl l v r, E sl l → Ψ sl l v r → ∀ n0 w, p.pred n0 v w)
  (hk : FE c Q ks x (k + 1) rest fr ((k, p) :: xs) (fun s r => ∃ sl l v, E sl l ∧ Ψ sl l v r ∧ s = (k, v) :: sl))
  (hlt : effX x.Ef x.Rl [] x.n k op = true := by rfl) (hnd : notIn d fr = true := by rfl) (hds : dsOk x.ol.toArray ⟨some d, op, ty, pos, af, none⟩ x.Ef ds = true := by rfl) :
  FE c Q ks x k (⟨some d, op, ty, pos, af, none⟩ :: rest) fr xs E := fun hE a w Vs hM hB hok hx => by
 obtain ⟨h1, h2, h3, h4, hrf⟩ := effX_spec hlt
 rintro rfl hT0 hPK
 have hsT : StaysT (keepBut x.B) (ET c fun s r => ∃ sl l v, E sl l ∧ Ψ sl l v r ∧ s = (Vs.length, v) :: sl) := fun σ w w' ⟨sl, l', q1, q2, q3⟩ hE => ⟨sl, l', q1, q2, q3.later hE⟩
 refine mw_gen hok h1 (XP.stays hB p) hsT hT0.2 (fun hh => absurd h2 hh) hPK (fun hC ho' => cov_same (fun d' hd' => by cases hd';exact hnd) hC ho') (fun a' w' σ F he hdp hT hPp hσ hrel => ?_) (hk ?_ a w (Vs ++ [p.pred w.heap.size]) hM hB hok (fun q hq => ?_) (by simp) ⟨hsT, XT.nil rfl⟩ hPK)
 ·simp only [Region.wanted, if_true]
  obtain ⟨sl, l, e1, e2, M⟩ := hT h2
  refine (h sl l e1 a' w' (dsFr_frm F (fun q hq hf hd => ?_) hds) M (fun q hq hd => ⟨_, hdp q.1 hd _ (hx q hq)⟩)).mono fun v w'' ⟨q1, r, q2, q3⟩ => ⟨q1, hp _ _ _ _ e1 q2 _ _, fun hh => absurd (h3.symm.trans hh) Bool.false_ne_true, fun hh => absurd h2 hh, fun _ => ⟨(Vs.length, v) :: sl, r, ⟨sl, l, v, e1, q2, rfl⟩, ?_, q3⟩, .none h4, fun q hq e => (relFree_spec hrf q hq e).elim⟩
  ·rw [← hσ q.1 (.inl hf) hd]
   exact e2 q hq
  ·intro q hq
   rcases List.mem_cons.1 hq with rfl | hq
   ·simp [updS]
   ·have := hE sl l e1 q hq
    simp only [updS]
    rw [if_neg (by omega)]
    exact e2 q hq
 ·rintro s r ⟨sl, l, v, e1, _, rfl⟩ q hq
  rcases List.mem_cons.1 hq with rfl | hq
  ·exact Nat.lt_succ_self _
  ·exact Nat.lt_succ_of_lt (hE sl l e1 q hq)
 ·rcases List.mem_cons.1 hq with rfl | hq
  ·simp
  ·exact xs_app hx q hq
theorem fe_effN (Ψ : List (Nat × Value) → Row → Row → Prop) (ds : List (Nat × Nat)) (h : ∀ sl l, E sl l → OpF c x xs ⟨none, op, ty, pos, af, none⟩ (dsFr ds sl ++ fr) l (fun _ => Ψ sl l))
  (hk : FE c Q ks x (k + 1) rest fr xs (fun s r => ∃ l, E s l ∧ Ψ s l r))
  (hlt : effX x.Ef x.Rl [] x.n k op = true := by rfl) (hds : dsOk x.ol.toArray ⟨none, op, ty, pos, af, none⟩ x.Ef ds = true := by rfl) :
  FE c Q ks x k (⟨none, op, ty, pos, af, none⟩ :: rest) fr xs E := fun hE a w Vs hM hB hok hx => by
 obtain ⟨h1, h2, h3, h4, hrf⟩ := effX_spec hlt
 rintro rfl hT0 hPK
 have hsT : StaysT (keepBut x.B) (ET c fun s r => ∃ l, E s l ∧ Ψ s l r) := fun σ w w' ⟨sl, l', q1, q2, q3⟩ hE => ⟨sl, l', q1, q2, q3.later hE⟩
 refine mw_gen hok h1 (Kn.stays _ undef) hsT hT0.2 (fun hh => absurd h2 hh) hPK (fun hC ho' => cov_same (fun d' hd' => by cases hd') hC ho') (fun a' w' σ F he hdp hT hPp hσ hrel => ?_) (hk ?_ a w (Vs ++ [Kn undef]) hM hB hok (xs_app hx) (by simp) ⟨hsT, XT.nil rfl⟩ hPK)
 ·simp only [Region.wanted, if_true]
  obtain ⟨sl, l, e1, e2, M⟩ := hT h2
  refine (h sl l e1 a' w' (dsFr_frm F (fun q hq hf hd => ?_) hds) M (fun q hq hd => ⟨_, hdp q.1 hd _ (hx q hq)⟩)).mono fun v w'' ⟨q1, r, q2, q3⟩ => ⟨q1, rfl, fun hh => absurd (h3.symm.trans hh) Bool.false_ne_true, fun hh => absurd h2 hh, fun _ => ⟨sl, r, ⟨l, e1, q2⟩, ?_, q3⟩, .none h4, fun q hq e => (relFree_spec hrf q hq e).elim⟩
  ·rw [← hσ q.1 (.inl hf) hd]
   exact e2 q hq
  ·intro q hq
   have := hE sl l e1 q hq
   show updS σ Vs.length undef q.1 = q.2
   simp only [updS]
   rw [if_neg (by omega)]
   exact e2 q hq
 ·rintro s r ⟨l, e1, _⟩ q hq
  exact Nat.lt_succ_of_lt (hE s l e1 q hq)
def relAll (ops : Array Oper) : List (Nat × Nat) → List (Nat × Value) → Option (List (Nat × Value))
 | [], sl => some sl
 | q :: r, sl => match look sl q.2 with
  | some u => match ops[q.1]? with
   | some o => match relV o.op u with
    | some v => relAll ops r ((q.1, v) :: sl)
    | none => none
   | none => none
  | none => none
def toFr (ops : Array Oper) : List (Nat × Value) → List (Nat × Value)
 | [] => []
 | (j, v) :: r => match (ops[j]?).bind (·.dst) with
  | some t => (t, v) :: toFr ops r
  | none => toFr ops r
theorem relAll_ok {ops : Array Oper} {a : Act} : ∀ {Rl : List (Nat × Nat)} {sl sl' : List (Nat × Value)}, (∀ q ∈ Rl, ∃ oq, ops[q.1]? = some oq ∧ relV oq.op (slotV ops q.2 a) = some (slotV ops q.1 a)) → (∀ q ∈ sl, slotV ops q.1 a = q.2) → relAll ops Rl sl = some sl' → ∀ q ∈ sl', slotV ops q.1 a = q.2
 | [], sl, sl', _, h2, h => by
  cases h
  exact h2
 | p :: r, sl, sl', h1, h2, h => by
  unfold relAll at h
  split at h
  ·rename_i u hu
   split at h
   ·rename_i o ho
    split at h
    ·rename_i v hv
     refine relAll_ok (fun q hq => h1 q (List.mem_cons_of_mem _ hq)) (fun q hq => ?_) h
     rcases List.mem_cons.1 hq with rfl | hq
     ·obtain ⟨oq, g1, g2⟩ := h1 p List.mem_cons_self
      rw [ho] at g1
      cases g1
      have h3 := h2 _ (look_mem hu)
      dsimp only at h3
      rw [h3, hv] at g2
      injection g2 with g2
      exact g2.symm
     ·exact h2 q hq
    ·cases h
   ·cases h
  ·cases h
theorem toFr_frm {ops : Array Oper} {a : Act} (F : Frm a c.n c.df fr) : ∀ {sl : List (Nat × Value)}, (∀ q ∈ sl, slotV ops q.1 a = q.2) → Frm a c.n c.df (toFr ops sl ++ fr)
 | [], _ => F
 | (j, v) :: r, h => by
  have ih := toFr_frm F fun q hq => h q (List.mem_cons_of_mem _ hq)
  have h1 := h _ List.mem_cons_self
  unfold slotV at h1
  dsimp only at h1
  unfold toFr
  split
  ·rename_i t ht
   rw [ht] at h1
   exact ih.know h1
  ·exact ih
theorem fe_done (hn : Nat.beq k x.n = true) (hEf : ∀ sl l, E sl l → ∀ q ∈ sl, q.1 ∈ x.Ef) (h : ∀ sl l, E sl l → ∃ s, relAll x.ol.toArray x.Rl sl = some s ∧ G c Q ks (.ops x.ol.toArray rest) (toFr x.ol.toArray s ++ fr) l) : FE c Q ks x k rest fr xs E := fun hE a w Vs hM hB hok hx => by
 refine xDone hn fun a' w' F he hV hT _ hR => ?_
 obtain ⟨sl, l, e1, e2, M⟩ := hT
 obtain ⟨s, h1, h2⟩ := h sl l e1
 refine h2 a' w' (toFr_frm F (relAll_ok hR (fun q hq => ?_) h1)) M
 rw [← e2 q hq]
 simp [slotE, hEf sl l e1 q hq]
theorem opf_v {o : Oper} {v : Value} (h : ∀ a w, Frm a c.n c.df fr → Mem c.S c.W w l.flatten → ∀ R : Value → World → Prop, R v w → OpTo c.P o a.eval w R) : OpF c x xs o fr l (fun u r => u = v ∧ r = l) := fun a w F M _ =>
 h a w F M _ ⟨Ext.refl _ _, l, ⟨rfl, rfl⟩, M⟩
theorem opf_callN {ι : Type} (val : ι → Value) (p : ι → Prop) (li : ι → Row) {y : Operand} {fn : FuncId} {ys : List Operand} {ts : Array TypeId} {vs : List Value} [hb : TBody c.P fn] (hx : Ev fr y = some (.func (.func fn) #[] #[])) (ha : evL fr ys = some vs)
  (hc : ∀ w, Mem c.S c.W w l.flatten → Cal c.P fn vs.toArray w fun v w' => ∃ i, v = val i ∧ p i ∧ Mem [] w w' (li i).flatten) :
  OpF c x xs ⟨some d, .call ⟨.value y, ys.toArray, ts⟩, ty, pos, af, none⟩ fr l (fun u r => ∃ i, u = val i ∧ p i ∧ r = li i ++ l) := fun a w F M _ =>
 o_call (F.e hx) (F.evs ha) (Cal.mono (hc w M) fun u w' h => by
  obtain ⟨i, h1, h2, N⟩ := h
  exact ⟨N.ext.any, _, ⟨i, h1, h2, rfl⟩, by rw [List.flatten_append];exact M.joins N⟩)
theorem opf_callT {ι : Type} (j : Nat) (val : ι → Value) (p : ι → Prop) (ob : ι → Obj) (li : ι → Row) {f : ι → Row} {b : Nat} {o : Obj} {y : Operand} {fn : FuncId} {ys : List Operand} {ts : Array TypeId} {vs : List Value} [hb : TBody c.P fn] (hx : Ev fr y = some (.func (.func fn) #[] #[])) (ha : evL fr ys = some vs)
  (hl : nthO l j = some [(b, o)]) (hB : b ∈ x.B) (hc : ∀ w, Mem c.S c.W w l.flatten → Cal c.P fn vs.toArray w fun v w' => ∃ i, v = val i ∧ p i ∧ Mem [b] w w' ((b, ob i) :: (li i).flatten)) (hf : ∀ i, setO l j [(b, ob i)] = some (f i)) :
  OpF c x xs ⟨some d, .call ⟨.value y, ys.toArray, ts⟩, ty, pos, af, none⟩ fr l (fun u r => ∃ i, u = val i ∧ p i ∧ r = li i ++ f i) := fun a w F M _ =>
 o_call (F.e hx) (F.evs ha) (Cal.mono (hc w M) fun u w' h => by
  obtain ⟨i, h1, h2, N⟩ := h
  refine ⟨N.ext.mono fun k hk => by simp at hk;subst hk;exact hB, _, ⟨i, h1, h2, rfl⟩, ?_⟩
  obtain ⟨r, p1, p2⟩ := nthO_perm hl (hf i)
  have N' : Mem (([(b, o)] : List (Nat × Obj)).map (·.1)) w w' ((b, ob i) :: (li i).flatten) := N
  refine ((M.perm p1).joinB N').perm ?_
  rw [List.flatten_append]
  refine List.Perm.trans ?_ (List.Perm.append_left _ p2.symm)
  simpa using (List.perm_middle (a := (b, ob i)) (l₁ := (li i).flatten) (l₂ := r)).symm)
def EI {ι : Type} (P : ι → Prop) (sl : ι → List (Nat × Value)) (li : ι → Row) : ESt := fun s r => ∃ i, P i ∧ s = sl i ∧ r = li i
theorem fe_start (h : FE c Q ks x k rest fr xs (EI (ι := Unit) (fun _ => True) (fun _ => []) (fun _ => l))) : FE c Q ks x k rest fr xs (E0 l) := by
 have : E0 l = EI (ι := Unit) (fun _ => True) (fun _ => []) (fun _ => l) := by
  funext s r
  simp [E0, EI]
 rw [this]
 exact h
section
variable {ι : Type} {P : ι → Prop} {sl : ι → List (Nat × Value)} {li : ι → Row}
theorem fe_op {κ : Type} (val : ι → κ → Value) (p : ι → κ → Prop) (f : ι → κ → Row) (ds : List (Nat × Nat)) (xp : XP)
  (h : ∀ i, P i → OpF c x xs ⟨some d, op, ty, pos, af, none⟩ (dsFr ds (sl i) ++ fr) (li i) (fun v r => ∃ j, v = val i j ∧ p i j ∧ r = f i j)) (hp : ∀ i j n0 w, xp.pred n0 (val i j) w)
  (hk : FE c Q ks x (k + 1) rest fr ((k, xp) :: xs) (EI (ι := ι × κ) (fun q => P q.1 ∧ p q.1 q.2) (fun q => (k, val q.1 q.2) :: sl q.1) (fun q => f q.1 q.2)))
  (hlt : effX x.Ef x.Rl [] x.n k op = true := by rfl) (hnd : notIn d fr = true := by rfl) (hds : dsOk x.ol.toArray ⟨some d, op, ty, pos, af, none⟩ x.Ef ds = true := by rfl) :
  FE c Q ks x k (⟨some d, op, ty, pos, af, none⟩ :: rest) fr xs (EI P sl li) := by
 refine fe_eff (fun s _ v r => ∃ i j, P i ∧ p i j ∧ s = sl i ∧ v = val i j ∧ r = f i j) ds xp ?_ ?_ ?_ hlt hnd hds
 ·rintro _ _ ⟨i, hi, rfl, rfl⟩ a w F M hx
  refine (h i hi a w F M hx).mono fun v w' ⟨q1, r, ⟨j, q2, q3, q4⟩, q5⟩ => ⟨q1, r, ⟨i, j, hi, q3, rfl, q2, q4⟩, q5⟩
 ·rintro s r v r' _ ⟨i, j, _, _, _, rfl, _⟩ n0 w
  exact hp i j n0 w
 ·have : (fun s r => ∃ sl' l v, EI P sl li sl' l ∧ (∃ i j, P i ∧ p i j ∧ sl' = sl i ∧ v = val i j ∧ r = f i j) ∧ s = (k, v) :: sl') = EI (ι := ι × κ) (fun q => P q.1 ∧ p q.1 q.2) (fun q => (k, val q.1 q.2) :: sl q.1) (fun q => f q.1 q.2) := by
   funext s r
   apply propext
   constructor
   ·rintro ⟨sl', l, v, _, ⟨i, j, h1, h2, rfl, rfl, rfl⟩, rfl⟩
    exact ⟨(i, j), ⟨h1, h2⟩, rfl, rfl⟩
   ·rintro ⟨⟨i, j⟩, ⟨h1, h2⟩, rfl, rfl⟩
    exact ⟨sl i, li i, val i j, ⟨i, h1, rfl, rfl⟩, ⟨i, j, h1, h2, rfl, rfl, rfl⟩, rfl⟩
  rw [this]
  exact hk
theorem fe_opK {v : Value} (f : ι → Row) (ds : List (Nat × Nat)) (h : ∀ i, P i → OpF c x xs ⟨some d, op, ty, pos, af, none⟩ (dsFr ds (sl i) ++ fr) (li i) (fun u r => u = v ∧ r = f i))
  (hk : FE c Q ks x (k + 1) rest ((d, v) :: fr) xs (EI P sl f))
  (hlt : effX x.Ef x.Rl [] x.n k op = true := by rfl) (hd : Nat.blt d c.n = true := by rfl) (hds : dsOk x.ol.toArray ⟨some d, op, ty, pos, af, none⟩ x.Ef ds = true := by rfl) :
  FE c Q ks x k (⟨some d, op, ty, pos, af, none⟩ :: rest) fr xs (EI P sl li) := fun hE a w Vs hM hB hok hx => by
 obtain ⟨h1, h2, h3, h4, hrf⟩ := effX_spec hlt
 rintro rfl hT0 hPK
 have hsT : StaysT (keepBut x.B) (ET c (EI P sl f)) := fun σ w w' ⟨s, l', q1, q2, q3⟩ hE => ⟨s, l', q1, q2, q3.later hE⟩
 have hlt' : ∀ i, P i → ∀ q ∈ sl i, q.1 < Vs.length := fun i hi q hq => hE _ _ ⟨i, hi, rfl, rfl⟩ q hq
 refine mw_gen hok h1 (Kn.stays _ v) hsT hT0.2 (fun hh => absurd h2 hh) hPK (fun hC ho => cov_known rfl hd hC ho) (fun a' w' σ F he hdp hT hPp hσ hrel => ?_) (hk ?_ a w (Vs ++ [Kn v]) hM hB hok (xs_app hx) (by simp) ⟨hsT, XT.nil rfl⟩ hPK)
 ·simp only [Region.wanted, if_true]
  obtain ⟨_, _, ⟨i, hi, rfl, rfl⟩, e2, M⟩ := hT h2
  refine (h i hi a' w' (dsFr_frm F (fun q hq hf hd => ?_) hds) M (fun q hq hd => ⟨_, hdp q.1 hd _ (hx q hq)⟩)).mono fun u w'' ⟨q1, r, ⟨q2, q4⟩, q3⟩ => ⟨q1, q2, fun hh => absurd (h3.symm.trans hh) Bool.false_ne_true, fun hh => absurd h2 hh, fun _ => ⟨sl i, r, ⟨i, hi, rfl, q4⟩, ?_, q3⟩, .none h4, fun q hq e => (relFree_spec hrf q hq e).elim⟩
  ·rw [← hσ q.1 (.inl hf) hd]
   exact e2 q hq
  ·intro q hq
   have := hlt' i hi q hq
   show updS σ Vs.length u q.1 = q.2
   simp only [updS]
   rw [if_neg (by omega)]
   exact e2 q hq
 ·rintro _ _ ⟨i, hi, rfl, rfl⟩ q hq
  exact Nat.lt_succ_of_lt (hlt' i hi q hq)
theorem fe_opN (f : ι → Row) (ds : List (Nat × Nat)) (h : ∀ i, P i → OpF c x xs ⟨none, op, ty, pos, af, none⟩ (dsFr ds (sl i) ++ fr) (li i) (fun _ r => r = f i))
  (hk : FE c Q ks x (k + 1) rest fr xs (EI P sl f))
  (hlt : effX x.Ef x.Rl [] x.n k op = true := by rfl) (hds : dsOk x.ol.toArray ⟨none, op, ty, pos, af, none⟩ x.Ef ds = true := by rfl) :
  FE c Q ks x k (⟨none, op, ty, pos, af, none⟩ :: rest) fr xs (EI P sl li) := by
 refine fe_effN (fun s _ r => ∃ i, P i ∧ s = sl i ∧ r = f i) ds ?_ ?_ hlt hds
 ·rintro _ _ ⟨i, hi, rfl, rfl⟩ a w F M hx
  refine (h i hi a w F M hx).mono fun v w' ⟨q1, r, q2, q5⟩ => ⟨q1, r, ⟨i, hi, rfl, q2⟩, q5⟩
 ·have : (fun s r => ∃ l, EI P sl li s l ∧ ∃ i, P i ∧ s = sl i ∧ r = f i) = EI P sl f := by
   funext s r
   apply propext
   constructor
   ·rintro ⟨l, _, h⟩
    exact h
   ·rintro ⟨i, h1, h2, h3⟩
    exact ⟨li i, ⟨i, h1, h2, rfl⟩, i, h1, h2, h3⟩
  rw [this]
  exact hk
theorem fe_fin (hn : Nat.beq k x.n = true) (hEf : ∀ i, P i → ∀ q ∈ sl i, q.1 ∈ x.Ef) (h : ∀ i, P i → ∃ s, relAll x.ol.toArray x.Rl (sl i) = some s ∧ G c Q ks (.ops x.ol.toArray rest) (toFr x.ol.toArray s ++ fr) (li i)) : FE c Q ks x k rest fr xs (EI P sl li) :=
 fe_done hn (by rintro _ _ ⟨i, hi, rfl, rfl⟩;exact hEf i hi) (by rintro _ _ ⟨i, hi, rfl, rfl⟩;exact h i hi)
end
theorem opf_callK (j : Nat) {v : Value} {o' : Obj} {l' : Row} {b : Nat} {o : Obj} {y : Operand} {fn : FuncId} {ys : List Operand} {ts : Array TypeId} {vs : List Value} [hb : TBody c.P fn] (hx : Ev fr y = some (.func (.func fn) #[] #[])) (ha : evL fr ys = some vs)
  (hl : nthO l j = some [(b, o)]) (hB : b ∈ x.B) (hc : ∀ w, Mem c.S c.W w l.flatten → Cal c.P fn vs.toArray w fun u w' => u = v ∧ Mem [b] w w' [(b, o')]) (hf : setO l j [(b, o')] = some l') :
  OpF c x xs ⟨some d, .call ⟨.value y, ys.toArray, ts⟩, ty, pos, af, none⟩ fr l (fun u r => u = v ∧ r = l') := fun a w F M hX =>
 (opf_callT (ι := Unit) j (fun _ => v) (fun _ => True) (fun _ => o') (fun _ => []) hx ha hl hB (fun w M => Cal.mono (hc w M) fun u w' h => ⟨(), h.1, trivial, by simpa using h.2⟩) (fun _ => hf) a w F M hX).mono fun u w' ⟨q1, r, ⟨_, q2, _, q3⟩, q4⟩ => ⟨q1, r, ⟨q2, q3⟩, q4⟩
theorem g_callT {ι : Type} (i : Nat) (val : ι → Value) (p : ι → Prop) (ob : ι → Obj) (li : ι → Row) {f : ι → Row} {b : Nat} {o : Obj} {aa : Array Oper} {y : Operand} {fn : FuncId} {ys : List Operand} {ts : Array TypeId} {vs : List Value} [hb : TBody c.P fn] (hx : Ev fr y = some (.func (.func fn) #[] #[])) (ha : evL fr ys = some vs)
  (hl : nthO l i = some [(b, o)]) (hc : ∀ w, Mem c.S c.W w l.flatten → Cal c.P fn vs.toArray w fun v w' => ∃ j, v = val j ∧ p j ∧ Mem [b] w w' ((b, ob j) :: (li j).flatten)) (hf : ∀ j, setO l i [(b, ob j)] = some (f j))
  (hk : ∀ j, p j → G c Q ks (.ops aa rest) ((d, val j) :: fr) (li j ++ f j)) (hd : Nat.blt d c.n = true := by rfl) (hg : gOk aa fr g = some true := by rfl) : G c Q ks (.ops aa (⟨some d, .call ⟨.value y, ys.toArray, ts⟩, ty, pos, af, g⟩ :: rest)) fr l :=
 g_op rfl hd hg fun a w F M => o_call (F.e hx) (F.evs ha) (Cal.mono (hc w M) fun u w' h a' F' => by
  obtain ⟨j, rfl, h2, N⟩ := h
  obtain ⟨r, p1, p2⟩ := nthO_perm hl (hf j)
  have N' : Mem (([(b, o)] : List (Nat × Obj)).map (·.1)) w w' ((b, ob j) :: (li j).flatten) := N
  refine hk j h2 a' w' F' (((M.perm p1).joinB N').perm ?_)
  rw [List.flatten_append]
  refine List.Perm.trans ?_ (List.Perm.append_left _ p2.symm)
  simpa using (List.perm_middle (a := (b, ob j)) (l₁ := (li j).flatten) (l₂ := r)).symm)
theorem g_callT1 (i : Nat) {v : Value} {o' : Obj} {b : Nat} {o : Obj} {l' : Row} {aa : Array Oper} {y : Operand} {fn : FuncId} {ys : List Operand} {ts : Array TypeId} {vs : List Value} [hb : TBody c.P fn] (hx : Ev fr y = some (.func (.func fn) #[] #[])) (ha : evL fr ys = some vs)
  (hl : nthO l i = some [(b, o)]) (hc : ∀ w, Mem c.S c.W w l.flatten → Cal c.P fn vs.toArray w fun u w' => u = v ∧ Mem [b] w w' [(b, o')]) (hf : setO l i [(b, o')] = some l')
  (hk : G c Q ks (.ops aa rest) ((d, v) :: fr) l') (hd : Nat.blt d c.n = true := by rfl) (hg : gOk aa fr g = some true := by rfl) : G c Q ks (.ops aa (⟨some d, .call ⟨.value y, ys.toArray, ts⟩, ty, pos, af, g⟩ :: rest)) fr l :=
 g_callT (ι := Unit) i (fun _ => v) (fun _ => True) (fun _ => o') (fun _ => []) hx ha hl (fun w M => Cal.mono (hc w M) fun u w' h => ⟨(), h.1, trivial, by simpa using h.2⟩) (fun _ => hf) (fun _ _ => hk) hd hg
end
section
open Go.RowKit
attribute [local irreducible] OpTo wpListIn Code.wpIn MW Cal
theorem xor8_bd (m n : Int) : 0 ≤ bitsOf .xor .u8 m n ∧ bitsOf .xor .u8 m n < 256 := by
 unfold bitsOf
 simp only [IntKind.wrap, IntKind.signed, IntKind.bits, Bool.false_and, Bool.false_eq_true, if_false]
 omega
theorem nextE_c {bt : Nat} {p : Option Addr} {len cap k : Nat} {xs : List Int} (n : Int) (hn : 0 < n) (hn2 : n ≤ 9223372036854775807) (W : World) (hT : TapeS W bt p len xs) (hb : W.heap[bt]? = some (tobj p len cap k)) :
  Cal Tryz.prog 28 [.pointer (some ⟨bt, 0, none⟩), .int .i64 n].toArray W fun v w' => ∃ x k', v = .int .i64 x ∧ (0 ≤ x ∧ x < n) ∧ Mem [bt] W w' [(bt, tobj p len cap k')] :=
 Cal.mono (next_c n hn hn2 W hT hb) fun _ _ h => ⟨_, _, h.1, nxV_bd _ _ hn, h.2⟩
theorem boolE_c {bt : Nat} {p : Option Addr} {len cap k : Nat} {xs : List Int} (n : Int) (hn : 0 < n) (hn2 : n ≤ 9223372036854775807) (W : World) (hT : TapeS W bt p len xs) (hb : W.heap[bt]? = some (tobj p len cap k)) :
  Cal Tryz.prog 14 [.pointer (some ⟨bt, 0, none⟩), .int .i64 n].toArray W fun v w' => ∃ x k', v = .bool x ∧ Mem [bt] W w' [(bt, tobj p len cap k')] :=
 Cal.mono (bool_c n hn hn2 W hT hb) fun _ _ h => ⟨_, _, h.1, h.2⟩
theorem eui_c {bt : Nat} {p : Option Addr} {len cap k : Nat} {xs : List Int} (W : World) (hT : TapeS W bt p len xs) (hb : W.heap[bt]? = some (tobj p len cap k)) :
  Cal Tryz.prog 25 [.pointer (some ⟨bt, 0, none⟩)].toArray W fun v w' => ∃ x k', v = .int .u64 x ∧ (1 ≤ x ∧ x ≤ 5) ∧ Mem [bt] W w' [(bt, tobj p len cap k')] := by
 refine fn_ofM (n := 7) [bt] Tryz.func25 rfl rfl rfl ?_
 intro a w F M hwW
 replace M := M.came hwW hb (by simp) (by simp)
 refine c_seq (c_region ?_)
 refine sD F (o_assign (F.e rfl) ?_);clear F a;intro a F
 with_reducible refine l_nil (q_then (c_seq (c_region ?_)))
 refine sD F (o_move (F.e rfl) ?_);clear F a;intro a F
 (refine sD F (o_call (F.e rfl) (F.evs rfl) (Cal.mono (nextE_c 5 (by omega) (by omega) _ (hT.later M.ext) (M.heap .here) ) ?_));clear F;clear a;have M0 := M;clear M;rintro _ w ⟨x, k', rfl, hx, N⟩ a F)
 replace M := M0.turn1 N .here
 refine sD F (o_add (F.e rfl) (F.e rfl) (w_i64 (by omega) (by omega)) fun a F => sD F (o_conv (F.e rfl) (w_u64 (by omega) (by omega)) fun a F => sD F (o_assign (F.e rfl) ?_)));iterate 3 clear F a
 intro a F
 with_reducible refine l_nil (q_then (c_ret ?_))
 exact p_ret F rfl (.cons (.tmp (F.e rfl)) .nil) (⟨1 + x, k', rfl, by omega, M⟩)
def isTime (t : Int) : Bool := decide (0 ≤ t) && decide (t ≤ 1099511627776)
def laterV (a d : Int) : Int := if 1099511627776 < a + d then 1099511627776 else a + d
theorem bytesCompare_c {v u : Value} {n m : Nat} {xs ys : List Int} (W : World) (h : SlAt W 1 v n (ipC xs)) (k : SlAt W 1 u m (ipC ys)) (hx : ∀ x ∈ xs, 0 ≤ x ∧ x < 256) (hy : ∀ x ∈ ys, 0 ≤ x ∧ x < 256) :
  Cal Tryz.prog 183 [v, u].toArray W fun x w' => x = .int .i64 (cmpL xs ys) ∧ Ext [] W w' := by
 refine fn_ofM (n := 8) [] Tryz.func183 rfl rfl rfl ?_
 intro a w F M hwW
 refine c_seq (c_region ?_)
 refine sD F (o_assign (F.e rfl) ?_);clear F a;intro a F
 with_reducible refine l_nil (q_then (c_seq (c_region ?_)))
 refine sD F (o_move (F.e rfl) fun a F => sD F (o_move (F.e rfl) ?_));iterate 2 clear F a
 intro a F
 (refine sD F (o_entry (F.e rfl) Tryz.func279 (by kernel_rfl) (by kernel_rfl) (by kernel_rfl) (e := Extern.BytealgCompare.compare) (by kernel_rfl) (F.evs rfl) (run_compare (h.later M.ext) (k.later M.ext) hx hy) ?_);clear F a;intro a F)
 refine sD F (o_assign (F.e rfl) ?_);clear F a;intro a F
 with_reducible refine l_nil (q_then (c_ret ?_))
 exact p_ret F rfl (.cons (.tmp (F.e rfl)) .nil) (⟨rfl, M.ext⟩)
def overlapP (p : List Int) (n : Int) (q : List Int) (m : Int) : Bool := coversP p n q m || coversP q m p n
end
section
open Go.RowKit
attribute [local irreducible] OpTo wpListIn Code.wpIn MW Cal
structure Lease where
 ip : List Int
 bits : Int
 own : Int
 til : Int
end
section
open Go.RowKit
attribute [local irreducible] OpTo wpListIn Code.wpIn MW Cal
end
section
open Go.RowKit
attribute [local irreducible] OpTo wpListIn Code.wpIn MW Cal
structure LeaseOk (p : List Int) (n : Int) (l : Lease) : Prop where
 ip : IsIP l.ip
 own0 : l.own ≠ 0
 own1 : 0 ≤ l.own ∧ l.own ≤ 18446744073709551615
 til : isTime l.til = true
 bits : l.bits ≤ 64
 cov : coversP p n l.ip l.bits = true
structure PoolOk (p : List Int) (n : Int) (ls : List Lease) : Prop where
 ip : IsIP p
 pre : validP p n = true
 bits : n ≤ 64
 len : ls.length ≤ 64
 each : ∀ l ∈ ls, LeaseOk p n l
 pw : ls.Pairwise fun x y => cmpL x.ip y.ip < 0 ∧ overlapP x.ip x.bits y.ip y.bits = false
end
section
open Go.RowKit
attribute [local irreducible] OpTo wpListIn Code.wpIn MW Cal
end
section
open Go.RowKit
attribute [local irreducible] OpTo wpListIn Code.wpIn MW Cal
theorem PoolOk.filter {p : List Int} {n : Int} {ls : List Lease} (h : PoolOk p n ls) (f : Lease → Bool) : PoolOk p n (ls.filter f) :=
 ⟨h.ip, h.pre, h.bits, Nat.le_trans (List.length_filter_le _ _) h.len, fun l hl => h.each l (List.mem_filter.1 hl).1, h.pw.filter _⟩
end
section
open Go.RowKit
attribute [local irreducible] OpTo wpListIn Code.wpIn MW Cal
end
section
open Go.RowKit
structure PInf where
 ip : List Int
 bits : Int
 onl : Bool
 aut : Bool
 life : Int
 deriving DecidableEq
def piC (o : PInf) : List Value := pfC o.ip o.bits ++ ([.bool o.onl, .bool o.aut, .int .u32 o.life])
def IsPi (o : PInf) : Prop := IsIP o.ip
abbrev pisC (l : List PInf) : List Value := encL piC l
structure CInf where
 id : Int
 ip : List Int
 bits : Int
 cmp : Bool
 life : Int
 deriving DecidableEq
def ciC (o : CInf) : List Value := [.int .i64 o.id] ++ (pfC o.ip o.bits ++ ([.bool o.cmp, .int .u16 o.life]))
def IsCi (o : CInf) : Prop := IsIP o.ip
abbrev cisC (l : List CInf) : List Value := encL ciC l
structure OffH where
 rt : List Int
 ver : Int
 til : Int
 deriving DecidableEq
def ofC (o : OffH) (ps : Value) (cs : Value) : List Value := ipC o.rt ++ ([.int .i64 o.ver, .int .i64 o.til, ps, cs])
def IsOf (o : OffH) : Prop := IsIP o.rt
end
section
open Go.RowKit
attribute [local irreducible] OpTo wpListIn Code.wpIn MW Cal
structure Off where
 h : OffH
 ps : List PInf
 cs : List CInf
 deriving DecidableEq
def IsOff (o : Off) : Prop := IsOf o.h ∧ (∀ p ∈ o.ps, IsPi p) ∧ ∀ c ∈ o.cs, IsCi c
structure OV where
 o : Off
 u : Value
 v : Value
def ovC (x : OV) : List Value := ofC x.o.h x.u x.v
def OffAt (W : World) (x : OV) : Prop := SlAt W 20 x.u x.o.ps.length (pisC x.o.ps) ∧ SlAt W 20 x.v x.o.cs.length (cisC x.o.cs)
theorem OffAt.later {W w : World} {x : OV} (h : OffAt W x) (E : Ext [] W w) : OffAt w x := ⟨h.1.later E, h.2.later E⟩
end
section
open Go.RowKit
attribute [local irreducible] OpTo wpListIn Code.wpIn MW Cal
theorem risTime_c (t : Int) (W : World) : Cal Tryz.prog 74 [.int .i64 t].toArray W fun v w' => v = .bool (isTime t) ∧ Ext [] W w' := by
 unfold isTime
 by_cases h : 0 ≤ t
 ·rw [dqT h, Bool.true_and]
  refine fn_ofM (n := 9) [] Tryz.func74 rfl rfl rfl ?_
  intro a w F M hwW
  refine c_seq (c_region ?_)
  refine sD F (o_assign (F.e rfl) ?_);clear F a;intro a F
  with_reducible refine l_nil (q_then (c_seq (c_region ?_)))
  refine sD F (o_move (F.e rfl) fun a F => sD F (o_geqT (F.e rfl) (F.e rfl) (by omega) fun a F => sD F (o_move (F.e rfl) fun a F => sG F (o_move (F.e rfl) fun a F => sG F (o_leq (F.e rfl) (F.e rfl) fun a F => sD F (o_pickT (F.e rfl) (F.e rfl) fun a F => sD F (o_assign (F.e rfl) ?_)))))));iterate 7 clear F a
  intro a F
  with_reducible refine l_nil (q_then (c_ret ?_))
  exact p_ret F rfl (.cons (.tmp (F.e rfl)) .nil) (⟨rfl, M.ext⟩)
 ·rw [dqF h, Bool.false_and]
  refine fn_ofM (n := 9) [] Tryz.func74 rfl rfl rfl ?_
  intro a w F M hwW
  refine c_seq (c_region ?_)
  refine sD F (o_assign (F.e rfl) ?_);clear F a;intro a F
  with_reducible refine l_nil (q_then (c_seq (c_region ?_)))
  refine sD F (o_move (F.e rfl) fun a F => sD F (o_geqF (F.e rfl) (F.e rfl) (by omega) fun a F => sD F (o_move (F.e rfl) fun a F => sO F fun a F => sO F fun a F => sD F (o_pickF (F.e rfl) (F.e rfl) fun a F => sD F (o_assign (F.e rfl) ?_)))));iterate 7 clear F a
  intro a F
  with_reducible refine l_nil (q_then (c_ret ?_))
  exact p_ret F rfl (.cons (.tmp (F.e rfl)) .nil) (⟨rfl, M.ext⟩)
theorem rafter_c (a d : Int) (h0 : 0 ≤ a) (h1 : a ≤ 1099511627776) (d0 : 0 ≤ d) (d1 : d ≤ 1099511627776) (W : World) : Cal Tryz.prog 93 [.int .i64 a, .int .i64 d].toArray W fun v w' => v = .int .i64 (laterV a d) ∧ Ext [] W w' := by
 refine fn_ofM (n := 9) [] Tryz.func93 rfl rfl rfl ?_
 intro a w F M hwW
 refine c_seq (c_region ?_)
 refine sD F (o_assign (F.e rfl) ?_);clear F a;intro a F
 with_reducible refine l_nil (q_then (c_seq (c_region ?_)))
 refine sD F (o_move (F.e rfl) fun a F => sD F (o_move (F.e rfl) fun a F => sD F (o_add (F.e rfl) (F.e rfl) (w_i64 (by omega) (by omega)) fun a F => sD F (o_min (F.e rfl) (F.e rfl) fun a F => sD F (o_assign (F.e rfl) ?_)))));iterate 5 clear F a
 intro a F
 with_reducible refine l_nil (q_then (c_ret ?_))
 exact p_ret F rfl (.cons (.tmp (F.e rfl)) .nil) (⟨rfl, M.ext⟩)
theorem cmpL_drop {p q : List Int} : ∀ (i : Nat), i ≤ p.length → p.length = q.length → (∀ j, j < i → p.getD j 0 = q.getD j 0) → cmpL p q = cmpL (p.drop i) (q.drop i)
 | 0, _, _, _ => by simp
 | i + 1, h1, h2, h => by
  rw [cmpL_drop i (by omega) h2 fun j hj => h j (by omega), List.drop_eq_getElem_cons (show i < p.length by omega), List.drop_eq_getElem_cons (show i < q.length by omega)]
  have := h i (by omega)
  simp only [List.getD_eq_getElem?_getD, List.getElem?_eq_getElem (show i < p.length by omega), List.getElem?_eq_getElem (show i < q.length by omega), Option.getD_some] at this
  simp [cmpL, this]
theorem cmpL_step {p q : List Int} {i : Nat} (h1 : i < p.length) (h2 : p.length = q.length) (h : ∀ j, j < i → p.getD j 0 = q.getD j 0) : cmpL p q = if p.getD i 0 < q.getD i 0 then -1 else if q.getD i 0 < p.getD i 0 then 1 else cmpL (p.drop (i + 1)) (q.drop (i + 1)) := by
 rw [cmpL_drop i (by omega) h2 h, List.drop_eq_getElem_cons (show i < p.length by omega), List.drop_eq_getElem_cons (show i < q.length by omega)]
 simp [cmpL, List.getD_eq_getElem?_getD, List.getElem?_eq_getElem (show i < p.length by omega), List.getElem?_eq_getElem (show i < q.length by omega)]
theorem rcompareIP_c (p q : List Int) (hp : IsIP p) (hq : IsIP q) (W : World) : Cal Tryz.prog 282 [.agg (ipC p).toArray, .agg (ipC q).toArray].toArray W fun x w' => x = .int .i64 (cmpL p q) ∧ Ext [] W w' := by
 have l1 := hp.len
 have l2 := hq.len
 refine fn_ofM (n := 24) [] Tryz.func282 rfl rfl rfl ?_
 intro a w F M hwW
 refine c_seq (c_region ?_)
 (refine sD F (o_box M (F.e rfl) rfl ?_);clear F M;intro b2 w M a F)
 (refine sD F (o_box M (F.e rfl) rfl ?_);clear F M;intro b3 w M a F)
 refine sD F (o_assign (F.e rfl) ?_);clear F a;intro a F
 with_reducible refine l_nil (q_then (c_seq (c_seq (c_region ?_))))
 refine sD F (o_assign (F.e rfl) ?_);clear F a;intro a F
 with_reducible refine l_nil (q_then (c_block ?_))
 refine c_loop (fun m a w => ∃ i : Nat, m = 16 - i ∧ i ≤ 16 ∧ (∀ j, j < i → p.getD j 0 = q.getD j 0) ∧ Frm a 24 [] [(5, .int .i64 i), (3, .pointer (some ⟨b3, 0, none⟩)), (2, .pointer (some ⟨b2, 0, none⟩))] ∧ Mem [] W w [(b3, .cells (ipC q).toArray 63 (0, 0)), (b2, .cells (ipC p).toArray 63 (0, 0))]) 16 ⟨0, rfl, by omega, by omega, F.only [5, 3, 2] rfl, M⟩ ?_
 clear F M
 rintro m a w ⟨i, hm, hi, hv, F, M⟩
 by_cases hlt : i < 16
 ·have hst := cmpL_step (by omega) (by omega) hv
  have f1 : nth (ipC p) (0 + (i : Int).toNat * 1) = some (.int .u8 (p.getD i 0)) := nth_ip2 hp hlt (by omega)
  have f2 : nth (ipC q) (0 + (i : Int).toNat * 1) = some (.int .u8 (q.getD i 0)) := nth_ip2 hq hlt (by omega)
  with_reducible refine c_seq (c_seq (c_region ?_))
  refine sD F (o_move (F.e rfl) fun a F => sD F (o_lssT (F.e rfl) (F.e rfl) (by omega) ?_));iterate 2 clear F a
  intro a F
  with_reducible refine l_nil (q_then ?_)
  refine c_true F rfl rfl ?_
  with_reducible refine c_skip (q_then (c_seq (c_block (c_seq (c_seq ?_)))))
  replace F := F.only [5, 3, 2] rfl
  by_cases c1 : p.getD i 0 < q.getD i 0
  ·rw [if_pos c1] at hst
   rw [hst]
   refine c_draw 7 F (by kernel_rfl) ?_
   intro w1 hE hok
   have M1 := M.later hE
   refine mK hok rfl rfl (fun a' w' F' E' => o_move (F'.e rfl) ⟨Ext.refl _ _, rfl⟩) (mK hok rfl rfl (fun a' w' F' E' => o_indexArr (F'.e rfl) (F'.e rfl) (by omega) (by omega) ⟨Ext.refl _ _, rfl⟩) (mK hok rfl rfl (fun a' w' F' E' => o_load1 (M1.later E') (F'.e rfl) (by repeat constructor) ‹_› ⟨Ext.refl _ _, rfl⟩) ?_))
   refine mK hok rfl rfl (fun a' w' F' E' => o_move (F'.e rfl) ⟨Ext.refl _ _, rfl⟩) (mK hok rfl rfl (fun a' w' F' E' => o_indexArr (F'.e rfl) (F'.e rfl) (by omega) (by omega) ⟨Ext.refl _ _, rfl⟩) (mK hok rfl rfl (fun a' w' F' E' => o_load1 (M1.later E') (F'.e rfl) (by repeat constructor) ‹_› ⟨Ext.refl _ _, rfl⟩) ?_))
   refine mK hok rfl rfl (fun a' w' F' E' => o_lssT (F'.e rfl) (F'.e rfl) (by omega) ⟨Ext.refl _ _, rfl⟩) ?_
   (refine mDone rfl rfl ?_;clear F M;intro a w F hE2 hX hTT hDD hPP;have M := M1.later hE2;clear M1;clear hX;clear hE2;clear hok;clear hE;clear hTT;clear hDD;clear hPP;(try dsimp only at F))
   with_reducible refine l_nil (q_then ?_)
   refine c_true F rfl rfl (c_seq (c_region ?_))
   refine sD F (o_assign (F.e rfl) ?_);clear F a;intro a F
   with_reducible refine l_nil (q_then (c_ret (q_thenR (q_inBR (q_thenR (q_thenR (q_inBR (q_thenR ?_))))))))
   exact p_ret F rfl (.cons (.tmp (F.e rfl)) .nil) (⟨rfl, M.ext⟩)
  ·rw [if_neg c1] at hst
   refine c_draw 7 F (by kernel_rfl) ?_
   intro w1 hE hok
   have M1 := M.later hE
   refine mK hok rfl rfl (fun a' w' F' E' => o_move (F'.e rfl) ⟨Ext.refl _ _, rfl⟩) (mK hok rfl rfl (fun a' w' F' E' => o_indexArr (F'.e rfl) (F'.e rfl) (by omega) (by omega) ⟨Ext.refl _ _, rfl⟩) (mK hok rfl rfl (fun a' w' F' E' => o_load1 (M1.later E') (F'.e rfl) (by repeat constructor) ‹_› ⟨Ext.refl _ _, rfl⟩) ?_))
   refine mK hok rfl rfl (fun a' w' F' E' => o_move (F'.e rfl) ⟨Ext.refl _ _, rfl⟩) (mK hok rfl rfl (fun a' w' F' E' => o_indexArr (F'.e rfl) (F'.e rfl) (by omega) (by omega) ⟨Ext.refl _ _, rfl⟩) (mK hok rfl rfl (fun a' w' F' E' => o_load1 (M1.later E') (F'.e rfl) (by repeat constructor) ‹_› ⟨Ext.refl _ _, rfl⟩) ?_))
   refine mK hok rfl rfl (fun a' w' F' E' => o_lssF (F'.e rfl) (F'.e rfl) (by omega) ⟨Ext.refl _ _, rfl⟩) ?_
   (refine mDone rfl rfl ?_;clear F M;intro a w F hE2 hX hTT hDD hPP;have M := M1.later hE2;clear M1;clear hX;clear hE2;clear hok;clear hE;clear hTT;clear hDD;clear hPP;(try dsimp only at F))
   with_reducible refine l_nil (q_then ?_)
   refine c_false F rfl rfl ?_
   with_reducible refine c_skip (q_then (c_seq ?_))
   replace F := F.only [5, 3, 2] rfl
   by_cases c2 : q.getD i 0 < p.getD i 0
   ·rw [if_pos c2] at hst
    rw [hst]
    refine c_draw 7 F (by kernel_rfl) ?_
    intro w1 hE hok
    have M1 := M.later hE
    refine mK hok rfl rfl (fun a' w' F' E' => o_move (F'.e rfl) ⟨Ext.refl _ _, rfl⟩) (mK hok rfl rfl (fun a' w' F' E' => o_indexArr (F'.e rfl) (F'.e rfl) (by omega) (by omega) ⟨Ext.refl _ _, rfl⟩) (mK hok rfl rfl (fun a' w' F' E' => o_load1 (M1.later E') (F'.e rfl) (by repeat constructor) ‹_› ⟨Ext.refl _ _, rfl⟩) ?_))
    refine mK hok rfl rfl (fun a' w' F' E' => o_move (F'.e rfl) ⟨Ext.refl _ _, rfl⟩) (mK hok rfl rfl (fun a' w' F' E' => o_indexArr (F'.e rfl) (F'.e rfl) (by omega) (by omega) ⟨Ext.refl _ _, rfl⟩) (mK hok rfl rfl (fun a' w' F' E' => o_load1 (M1.later E') (F'.e rfl) (by repeat constructor) ‹_› ⟨Ext.refl _ _, rfl⟩) ?_))
    refine mK hok rfl rfl (fun a' w' F' E' => o_gtrT (F'.e rfl) (F'.e rfl) (by omega) ⟨Ext.refl _ _, rfl⟩) ?_
    (refine mDone rfl rfl ?_;clear F M;intro a w F hE2 hX hTT hDD hPP;have M := M1.later hE2;clear M1;clear hX;clear hE2;clear hok;clear hE;clear hTT;clear hDD;clear hPP;(try dsimp only at F))
    with_reducible refine l_nil (q_then ?_)
    refine c_true F rfl rfl (c_seq (c_region ?_))
    refine sD F (o_assign (F.e rfl) ?_);clear F a;intro a F
    with_reducible refine l_nil (q_then (c_ret (q_inBR (q_thenR (q_thenR (q_inBR (q_thenR ?_)))))))
    exact p_ret F rfl (.cons (.tmp (F.e rfl)) .nil) (⟨rfl, M.ext⟩)
   ·refine c_draw 7 F (by kernel_rfl) ?_
    intro w1 hE hok
    have M1 := M.later hE
    refine mK hok rfl rfl (fun a' w' F' E' => o_move (F'.e rfl) ⟨Ext.refl _ _, rfl⟩) (mK hok rfl rfl (fun a' w' F' E' => o_indexArr (F'.e rfl) (F'.e rfl) (by omega) (by omega) ⟨Ext.refl _ _, rfl⟩) (mK hok rfl rfl (fun a' w' F' E' => o_load1 (M1.later E') (F'.e rfl) (by repeat constructor) ‹_› ⟨Ext.refl _ _, rfl⟩) ?_))
    refine mK hok rfl rfl (fun a' w' F' E' => o_move (F'.e rfl) ⟨Ext.refl _ _, rfl⟩) (mK hok rfl rfl (fun a' w' F' E' => o_indexArr (F'.e rfl) (F'.e rfl) (by omega) (by omega) ⟨Ext.refl _ _, rfl⟩) (mK hok rfl rfl (fun a' w' F' E' => o_load1 (M1.later E') (F'.e rfl) (by repeat constructor) ‹_› ⟨Ext.refl _ _, rfl⟩) ?_))
    refine mK hok rfl rfl (fun a' w' F' E' => o_gtrF (F'.e rfl) (F'.e rfl) (by omega) ⟨Ext.refl _ _, rfl⟩) ?_
    (refine mDone rfl rfl ?_;clear F M;intro a w F hE2 hX hTT hDD hPP;have M := M1.later hE2;clear M1;clear hX;clear hE2;clear hok;clear hE;clear hTT;clear hDD;clear hPP;(try dsimp only at F))
    with_reducible refine l_nil (q_then ?_)
    refine c_false F rfl rfl ?_
    with_reducible refine c_skip (q_inB (q_then (c_region ?_)))
    refine sD F (o_move (F.e rfl) fun a F => sD F (o_add (F.e rfl) (F.e rfl) (w_i64 (by omega) (by omega)) fun a F => sD F (o_assign (F.e rfl) ?_)));iterate 3 clear F a
    intro a F
    with_reducible refine l_nil (q_then ?_)
    exact ⟨_, by omega, i + 1, rfl, by omega, fun j hj => by
     rcases Nat.lt_or_ge j i with h1 | h1
     ·exact hv j h1
     ·obtain rfl : j = i := by omega
      omega, F.only [5, 3, 2] rfl, M⟩
 ·obtain rfl : i = 16 := by omega
  have : cmpL p q = 0 := by rw [cmpL_drop 16 (by omega) (by omega) hv, List.drop_eq_nil_of_le (by omega), List.drop_eq_nil_of_le (by omega)];rfl
  rw [this]
  with_reducible refine c_seq (c_seq (c_region ?_))
  refine sD F (o_move (F.e rfl) fun a F => sD F (o_lssF (F.e rfl) (F.e rfl) (by omega) ?_));iterate 2 clear F a
  intro a F
  with_reducible refine l_nil (q_then ?_)
  refine c_false F rfl rfl ?_
  with_reducible refine c_exit (q_thenX (q_thenX (q_inBX (q_then (c_seq (c_region ?_))))))
  refine sD F (o_assign (F.e rfl) ?_);clear F a;intro a F
  with_reducible refine l_nil (q_then (c_ret ?_))
  exact p_ret F rfl (.cons (.tmp (F.e rfl)) .nil) (⟨rfl, M.ext⟩)
end
section
open Go.RowKit
attribute [local irreducible] OpTo wpListIn Code.wpIn MW Cal
def insO (o : Off) : List Off → Option (List Off)
 | [] => some [o]
 | y :: ys =>
  if cmpL y.h.rt o.h.rt < 0 then (insO o ys).map (y :: ·)
  else if cmpL y.h.rt o.h.rt = 0 then
   (if o.h.ver < y.h.ver then none else if y.h.ver = o.h.ver then some ({ y with h := { y.h with til := if y.h.til < o.h.til then o.h.til else y.h.til } } :: ys) else some (o :: ys))
  else some (o :: y :: ys)
def Asc (os : List Off) : Prop := os.Pairwise fun a b => cmpL a.h.rt b.h.rt < 0
theorem Asc.filter {os : List Off} (h : Asc os) (f : Off → Bool) : Asc (os.filter f) := List.Pairwise.filter _ h
def OffsAt (W : World) (s : Value) (os : List Off) : Prop := ∃ zs : List OV, zs.map (·.o) = os ∧ SlAt W 20 s zs.length (encL ovC zs) ∧ ∀ z ∈ zs, OffAt W z
theorem OffsAt.nil (W : World) : OffsAt W (.slice none 0 0) [] := ⟨[], rfl, SlAt.nil W 20, by simp⟩
theorem OffsAt.later {W w : World} {s : Value} {os : List Off} (h : OffsAt W s os) (E : Ext [] W w) : OffsAt w s os := by
 obtain ⟨zs, h1, h2, h3⟩ := h
 exact ⟨zs, h1, h2.later E, fun z hz => (h3 z hz).later E⟩
def OffsN (n0 : Nat) (W : World) (s : Value) (os : List Off) : Prop := ∃ zs : List OV, zs.map (·.o) = os ∧ SlAt W 20 s zs.length (encL ovC zs) ∧ (∀ z ∈ zs, OffAt W z) ∧ NewV n0 s ∧ ∀ z ∈ zs, NewV n0 z.u ∧ NewV n0 z.v
theorem OffsN.nil (n0 : Nat) (W : World) : OffsN n0 W (.slice none 0 0) [] := ⟨[], rfl, SlAt.nil W 20, by simp, NewV.nil _ _ _, by simp⟩
theorem OffsN.at {n0 : Nat} {W : World} {s : Value} {os : List Off} (h : OffsN n0 W s os) : OffsAt W s os := by
 obtain ⟨zs, h1, h2, h3, _⟩ := h
 exact ⟨zs, h1, h2, h3⟩
end
section
open Go.RowKit
attribute [local irreducible] OpTo wpListIn Code.wpIn MW Cal
def Pl (o : Off) (placed : Bool) (out pre rest : List Off) : Prop :=
 if placed then insO o (pre ++ rest) = some (out ++ rest) ∧ ∀ y ∈ rest, 0 < cmpL y.h.rt o.h.rt
 else out = pre ∧ ∀ y ∈ pre, cmpL y.h.rt o.h.rt < 0
theorem insO_pre {o : Off} : ∀ {pre : List Off} (r : List Off), (∀ y ∈ pre, cmpL y.h.rt o.h.rt < 0) → insO o (pre ++ r) = (insO o r).map (pre ++ ·)
 | [], r, _ => by simp
 | y :: pre, r, h => by
  have ih := insO_pre r fun z hz => h z (List.mem_cons_of_mem _ hz)
  simp only [List.cons_append, insO, if_pos (h y List.mem_cons_self), ih, Option.map_map]
  rfl
theorem cmpL_pos {a b c : List Int} (h1 : 0 ≤ cmpL a c) (h2 : cmpL a b < 0) : 0 < cmpL b c := by
 rcases Int.lt_trichotomy (cmpL b c) 0 with h | h | h
 ·exact absurd (cmpL_lt_trans h2 h) (by omega)
 ·rw [cmpL_zero h] at h2;omega
 ·exact h
theorem Pl.new {o y : Off} {out pre rest : List Off} (h : Pl o false out pre (y :: rest)) (ha : Asc (y :: rest)) (hk : cmpL y.h.rt o.h.rt = 0) (hv : ¬ o.h.ver < y.h.ver) (hv2 : ¬ y.h.ver = o.h.ver) : Pl o true (out ++ [o]) (pre ++ [y]) rest := by
 simp only [Pl, Bool.false_eq_true, if_false, if_true] at *
 refine ⟨?_, fun z hz => cmpL_pos (by omega) ((List.pairwise_cons.1 ha).1 z hz)⟩
 rw [List.append_assoc, insO_pre _ h.2, h.1]
 simp [insO, hk, hv, hv2]
theorem Pl.on {o y : Off} {out pre rest : List Off} (h : Pl o true out pre (y :: rest)) : Pl o true (out ++ [y]) (pre ++ [y]) rest := by
 simp only [Pl, if_true] at *
 exact ⟨by simpa using h.1, fun z hz => h.2 z (List.mem_cons_of_mem _ hz)⟩
end
section
open Go.RowKit
attribute [local irreducible] OpTo wpListIn Code.wpIn MW Cal
end
section
open Go.RowKit
attribute [local irreducible] OpTo wpListIn Code.wpIn MW Cal
def wip0 (xs : List Int) (k : Nat) : List Int := [32, 1, 13, 184, 0, nxV xs k 2, nxV xs (nxK xs k) 2, 0, 0, 0, 0, 0, 0, 0, 0, nxV xs (nxK xs (nxK xs k)) 6]
def wip4 (xs : List Int) (k : Nat) : Nat := nxK xs (nxK xs (nxK xs (nxK xs k)))
def wipV (xs : List Int) (k : Nat) : List Int := if boolV xs (nxK xs (nxK xs (nxK xs k))) 9 then (wip0 xs k).set (nxV xs (wip4 xs k) 16).toNat (bitsOf .xor .u8 ((wip0 xs k).getD (nxV xs (wip4 xs k) 16).toNat 0) (IntKind.u8.wrap (1 * 2 ^ min (nxV xs (nxK xs (wip4 xs k)) 8).toNat IntKind.u8.bits))) else wip0 xs k
def wipK (xs : List Int) (k : Nat) : Nat := if boolV xs (nxK xs (nxK xs (nxK xs k))) 9 then nxK xs (nxK xs (wip4 xs k)) else wip4 xs k
theorem wip0_is (xs : List Int) (k : Nat) : IsIP (wip0 xs k) := by
 have h1 := nxV_bd xs k (n := 2) (by omega)
 have h2 := nxV_bd xs (nxK xs k) (n := 2) (by omega)
 have h3 := nxV_bd xs (nxK xs (nxK xs k)) (n := 6) (by omega)
 exact ⟨rfl, by intro x hx;simp [wip0] at hx;omega⟩
theorem wipV_is (xs : List Int) (k : Nat) : IsIP (wipV xs k) := by
 unfold wipV
 split
 ·exact (wip0_is xs k).set _ (xor8_bd _ _).1 (xor8_bd _ _).2
 ·exact wip0_is xs k
theorem wipD_c {bt : Nat} {p : Option Addr} {len cap k : Nat} {xs : List Int} (W : World) (hT : TapeS W bt p len xs) (hb : W.heap[bt]? = some (tobj p len cap k)) :
  Cal Tryz.prog 46 [.pointer (some ⟨bt, 0, none⟩)].toArray W fun v w' => v = .agg (ipC (wipV xs k)).toArray ∧ Mem [bt] W w' [(bt, tobj p len cap (wipK xs k))] := by
 refine fn_ofM (n := 28) [bt] Tryz.func46 rfl rfl rfl ?_
 intro a w F M hwW
 replace M := M.came hwW hb (by simp) (by simp)
 refine c_seq (c_region ?_)
 (refine sD F (o_alloc M ?_);clear F M;intro b2 w M a F)
 with_reducible refine l_nil (q_then (c_seq (c_region ?_)))
 refine sD F (o_move (F.e rfl) ?_);clear F a;intro a F
 (refine sD F (o_call (F.e rfl) (F.evs rfl) (Cal.mono (next_c 2 (by omega) (by omega) _ (hT.later M.ext) (M.heap (.there .here)) ) ?_));clear F;clear a;have M0 := M;clear M;rintro _ w ⟨rfl, N⟩ a F)
 have hx1 := nxV_bd xs k (n := 2) (by omega)
 replace M := M0.turn1 N (.there .here)
 refine sD F (o_conv (F.e rfl) (w_u8 (by omega) (by omega)) fun a F => sD F (o_move (F.e rfl) ?_));iterate 2 clear F a
 intro a F
 (refine sD F (o_call (F.e rfl) (F.evs rfl) (Cal.mono (next_c 2 (by omega) (by omega) _ (hT.later M.ext) (M.heap (.there .here)) ) ?_));clear F;clear a;have M0 := M;clear M;rintro _ w ⟨rfl, N⟩ a F)
 have hx2 := nxV_bd xs (nxK xs k) (n := 2) (by omega)
 replace M := M0.turn1 N (.there .here)
 refine sD F (o_conv (F.e rfl) (w_u8 (by omega) (by omega)) fun a F => sD F (o_build F rfl rfl ?_));iterate 2 clear F a
 intro a F
 (refine sD F (o_alloc M ?_);clear F M;intro b3 w M a F)
 (refine stepN rfl F (o_storeA M (F.e rfl) (F.e rfl) (by rfl) (by rfl) (by repeat constructor) (by rfl) (by repeat constructor) ?_);clear F M;intro w M a F)
 with_reducible refine l_nil (q_then (c_seq (c_region ?_)))
 refine sD F (o_move (F.e rfl) ?_);clear F a;intro a F
 (refine sD F (o_call (F.e rfl) (F.evs rfl) (Cal.mono (next_c 6 (by omega) (by omega) _ (hT.later M.ext) (M.heap (.there (.there .here))) ) ?_));clear F;clear a;have M0 := M;clear M;rintro _ w ⟨rfl, N⟩ a F)
 have hx3 := nxV_bd xs (nxK xs (nxK xs k)) (n := 6) (by omega)
 replace M := M0.turn1 N (.there (.there .here))
 refine sD F (o_conv (F.e rfl) (w_u8 (by omega) (by omega)) fun a F => sD F (o_indexArr (F.e rfl) (F.e rfl) (by omega) (by omega) ?_));iterate 2 clear F a
 intro a F
 (refine stepN rfl F (o_store1 M (F.e rfl) (F.e rfl) rfl (by repeat constructor) (by rfl) (by repeat constructor) ?_);clear F M;intro w M a F)
 with_reducible refine l_nil (q_then (c_seq (c_seq (c_region ?_))))
 refine sD F (o_move (F.e rfl) ?_);clear F a;intro a F
 obtain ⟨ip, hipd, hip, M⟩ : ∃ ip, ip = wip0 xs k ∧ IsIP ip ∧ Mem [bt] W w [(bt, tobj p len cap (nxK xs (nxK xs (nxK xs k)))), (b3, .cells (ipC ip).toArray 63 (0, 0)), (b2, .cells (ipC [0, 0, 0, 0, 0, 0, 0, 0, 0, 0, 0, 0, 0, 0, 0, 0]).toArray 63 (0, 0))] :=
  ⟨wip0 xs k, rfl, ⟨rfl, by intro x hx;simp [wip0] at hx;omega⟩, M.perm ((List.Perm.refl _).trans (List.perm_append_comm (l₁ := [_, _]) (l₂ := [_])))⟩
 (refine sD F (o_call (F.e rfl) (F.evs rfl) (Cal.mono (bool_c 9 (by omega) (by omega) _ (hT.later M.ext) (M.heap .here) ) ?_));clear F;clear a;have M0 := M;clear M;rintro _ w ⟨rfl, N⟩ a F)
 replace M := M0.turn1 N .here
 clear M0
 have e0 : seg (ipC ip) 0 16 = some (ipC ip) := seg_all (ipC_len hip.len)
 rw [show nxK xs (nxK xs (nxK xs (nxK xs k))) = wip4 xs k from rfl] at M
 obtain ⟨k4, hk4⟩ : ∃ k4, k4 = wip4 xs k := ⟨_, rfl⟩
 rw [← hk4] at M
 cases hc : boolV xs (nxK xs (nxK xs (nxK xs k))) 9
 all_goals rw [hc] at F
 ·with_reducible refine l_nil ?_
  with_reducible refine q_then ?_
  refine c_false F rfl rfl ?_
  with_reducible refine c_skip (q_then (c_seq (c_region ?_)))
  refine sD F (o_loadA M (F.e rfl) (by repeat constructor) ‹_› ?_);clear F a;intro a F
  (refine stepN rfl F (o_storeA M (F.e rfl) (F.e rfl) (ipC_len hip.len) (one_ip _)  (by repeat constructor)  (put_all (by rw [ipC_len hip.len];rfl)) (by repeat constructor) ?_);clear F M;intro w M a F)
  with_reducible refine l_nil (q_then (c_ret ?_))
  exact p_ret F rfl (.cons (.cell (F.e rfl) (run_loadVar_agg TAgg.h (M.heap (.there (.there .here))) e0)) .nil) ⟨by rw [show wipV xs k = ip by rw [hipd];unfold wipV;rw [if_neg (by simp [hc])]];rfl, by rw [show wipK xs k = k4 by rw [hk4];unfold wipK;rw [if_neg (by simp [hc])]];exact M.sub (.cons_cons _ (.cons _ (.cons _ (.refl _))))⟩
 ·replace F := F.only [0, 2, 3, 16] rfl
  have v1 := nxV_bd xs k4 (n := 16) (by omega)
  have v2 := nxV_bd xs (nxK xs k4) (n := 8) (by omega)
  have hib := hip.at_ (nxV xs k4 16).toNat
  have h1 : nth (ipC ip) (0 + (nxV xs k4 16).toNat * 1) = some (.int .u8 (ip.getD (nxV xs k4 16).toNat 0)) := nth_ip2 hip (by omega) (by omega)
  with_reducible refine l_nil (q_then ?_)
  refine c_true F rfl rfl (c_drawB (l0 := [(bt, tobj p len cap k4)]) [bt] [1, 5] M 9 F (by kernel_rfl) ?_)
  intro w1 M1 hok hef
  have hB : ∀ k ∈ [bt], k ∈ ([(bt, tobj p len cap k4)] : List (Nat × Obj)).map (·.1) := by simp
  have hTw : ∀ w', Ext [bt] w1 w' → TapeS w' bt p len xs := fun w' E => hT.later (M1.ext.trans (E.mono (by simp)))
  refine mK hok rfl rfl (fun a' w' F' E' => o_move (F'.e rfl) ⟨Ext.refl _ _, rfl⟩) (mE (T' := fun _ w => Mem _ _ w ([(bt, tobj p len cap (nxK xs k4))] ++ _)) hok rfl rfl (fun _ _ _ h k => h.later k) (fun a' w' σ' F' E' T' => o_call (F'.e rfl) (F'.evs rfl) (Cal.mono (next_c 16 (by omega) (by omega) _ (hTw _ E') (T'.heap .here)) fun _ _ hh => ⟨hh.2.ext, hh.1, Mem.turn1 T' hh.2 .here⟩)) (mK hok rfl rfl (fun a' w' F' E' => o_indexArr (F'.e rfl) (F'.e rfl) (by omega) (by omega) ⟨Ext.refl _ _, rfl⟩) (mK hok rfl rfl (fun a' w' F' E' => o_load1 (M1.laterBut E' hB) (F'.e rfl) (by repeat constructor) ‹_› ⟨Ext.refl _ _, rfl⟩) ?_)))
  refine mK hok rfl rfl (fun a' w' F' E' => o_move (F'.e rfl) ⟨Ext.refl _ _, rfl⟩) (mE (T' := fun _ w => Mem _ _ w ([(bt, tobj p len cap (nxK xs (nxK xs k4)))] ++ _)) hok rfl rfl (fun _ _ _ h k => h.later k) (fun a' w' σ' F' E' T' => o_call (F'.e rfl) (F'.evs rfl) (Cal.mono (next_c 8 (by omega) (by omega) _ (hTw _ E') (T'.heap .here)) fun _ _ hh => ⟨hh.2.ext, hh.1, Mem.turn1 T' hh.2 .here⟩)) (mK hok rfl rfl (fun a' w' F' E' => o_conv (F'.e rfl) (w_u64 (by omega) (by omega)) ⟨Ext.refl _ _, rfl⟩) (mK hok rfl rfl (fun a' w' F' E' => o_shl (F'.e rfl) (F'.e rfl) (by omega) rfl ⟨Ext.refl _ _, rfl⟩) (mK hok rfl rfl (fun a' w' F' E' => o_xor (F'.e rfl) (F'.e rfl) rfl ⟨Ext.refl _ _, rfl⟩) ?_))))
  clear hTw
  (refine mDone rfl hef ?_;clear F M;intro a w F hE2 hX M hDD hPP;clear M1;clear hX;clear hE2;clear hok;clear hef;clear hB;clear hDD;clear hPP;(try dsimp only at F);(try simp only [List.cons_append, List.nil_append] at M))
  have hbd := xor8_bd (ip.getD (nxV xs k4 16).toNat 0) (IntKind.u8.wrap (1 * 2 ^ min (nxV xs (nxK xs k4) 8).toNat IntKind.u8.bits))
  obtain ⟨z, hz⟩ : ∃ z, z = bitsOf BinOp.xor IntKind.u8 (ip.getD (nxV xs k4 16).toNat 0) (IntKind.u8.wrap (1 * 2 ^ min (nxV xs (nxK xs k4) 8).toNat IntKind.u8.bits)) := ⟨_, rfl⟩
  rw [← hz] at F hbd
  refine sD F (o_indexArr (F.e rfl) (F.e rfl) (by omega) (by omega) ?_);clear F a;intro a F
  (refine stepN rfl F (o_store1 M (F.e rfl) (F.e rfl) rfl (by repeat constructor) (put1 (q := (nxV xs k4 16).toNat) _ (by omega) (by rw [ipC_len hip.len];omega)) (by repeat constructor) ?_);clear F M;intro w M a F)
  rw [← ipC_set] at M
  have hip2 := hip.set (nxV xs k4 16).toNat hbd.1 hbd.2
  obtain ⟨ip2, hi2⟩ : ∃ ip2, ip2 = ip.set (nxV xs k4 16).toNat z := ⟨_, rfl⟩
  rw [← hi2] at M hip2
  have e2 : seg (ipC ip2) 0 16 = some (ipC ip2) := seg_all (ipC_len hip2.len)
  with_reducible refine l_nil (q_then (c_seq (c_region ?_)))
  refine sD F (o_loadA M (F.e rfl) (by repeat constructor) ‹_› ?_);clear F a;intro a F
  (refine stepN rfl F (o_storeA M (F.e rfl) (F.e rfl) (ipC_len hip2.len) (one_ip _)  (by repeat constructor)  (put_all (by rw [ipC_len hip2.len];rfl)) (by repeat constructor) ?_);clear F M;intro w M a F)
  with_reducible refine l_nil (q_then (c_ret ?_))
  exact p_ret F rfl (.cons (.cell (F.e rfl) (run_loadVar_agg TAgg.h (M.heap (.there (.there .here))) e2)) .nil) ⟨by rw [show wipV xs k = ip2 by rw [hi2, hz, hipd, hk4];unfold wipV;rw [if_pos hc]];rfl, by rw [show wipK xs k = nxK xs (nxK xs k4) by rw [hk4];unfold wipK;rw [if_pos hc]];exact M.sub (.cons_cons _ (.cons _ (.cons _ (.refl _))))⟩
end
section
open Go.RowKit
attribute [local irreducible] OpTo wpListIn Code.wpIn MW Cal
def wtV (xs : List Int) (k : Nat) (base : Int) : Int := if 0 < (if base + nxV xs k 60 - 30 < 1099511627776 then base + nxV xs k 60 - 30 else 1099511627776) then (if base + nxV xs k 60 - 30 < 1099511627776 then base + nxV xs k 60 - 30 else 1099511627776) else 0
theorem wtime_c {bt : Nat} {p : Option Addr} {len cap k : Nat} {xs : List Int} (base : Int) (h0 : 0 ≤ base) (h1 : base ≤ 1099511627776) (W : World) (hT : TapeS W bt p len xs) (hb : W.heap[bt]? = some (tobj p len cap k)) :
  Cal Tryz.prog 44 [.pointer (some ⟨bt, 0, none⟩), .int .i64 base].toArray W fun v w' => v = .int .i64 (wtV xs k base) ∧ Mem [bt] W w' [(bt, tobj p len cap (nxK xs k))] := by
 refine fn_ofM (n := 12) [bt] Tryz.func44 rfl rfl rfl ?_
 intro a w F M hwW
 replace M := M.came hwW hb (by simp) (by simp)
 have hx := nxV_bd xs k (n := 60) (by omega)
 refine c_seq (c_region ?_)
 refine sD F (o_assign (F.e rfl) ?_);clear F a;intro a F
 with_reducible refine l_nil (q_then (c_seq (c_region ?_)))
 refine sD F (o_move (F.e rfl) fun a F => sD F (o_move (F.e rfl) ?_));iterate 2 clear F a
 intro a F
 (refine sD F (o_call (F.e rfl) (F.evs rfl) (Cal.mono (next_c 60 (by omega) (by omega) _ (hT.later M.ext) (M.heap .here) ) ?_));clear F;clear a;have M0 := M;clear M;rintro _ w ⟨rfl, N⟩ a F)
 replace M := M0.turn1 N .here
 clear M0
 refine sD F (o_add (F.e rfl) (F.e rfl) (w_i64 (by omega) (by omega)) fun a F => sD F (o_sub (F.e rfl) (F.e rfl) (w_i64 (by omega) (by omega)) fun a F => sD F (o_min (F.e rfl) (F.e rfl) fun a F => sD F (o_max (F.e rfl) (F.e rfl) fun a F => sD F (o_assign (F.e rfl) ?_)))));iterate 5 clear F a
 intro a F
 with_reducible refine l_nil (q_then (c_ret ?_))
 exact p_ret F rfl (.cons (.tmp (F.e rfl)) .nil) (⟨rfl, M⟩)
theorem nth_tab {k : IntKind} {xs : List Int} {i : Int} (h0 : 0 ≤ i) (h1 : i < xs.length) : nth (xs.map (Value.int k)) (0 + i.toNat * 1) = some (.int k (xs.getD i.toNat 0)) := by
 have h : i.toNat < xs.length := by omega
 rw [nth_spec, show 0 + i.toNat * 1 = i.toNat by omega]
 simp [h]
def tab10 : List Int := [128, 128, 64, 56, 48, 32, 0, 127, 3, 60]
theorem tab10_bd (i : Nat) : 0 ≤ tab10.getD i 0 ∧ tab10.getD i 0 ≤ 128 := by
 rcases Nat.lt_or_ge i 10 with h | h
 ·have : ∀ i : Fin 10, 0 ≤ tab10.getD i.val 0 ∧ tab10.getD i.val 0 ≤ 128 := by decide
  exact this ⟨i, h⟩
 ·rw [List.getD_eq_getElem?_getD, List.getElem?_eq_none (by simpa [tab10] using h)]
  simp
def wpN (xs : List Int) (k : Nat) : Int := if boolV xs (nxK xs k) 7 then nxV xs (nxK xs (nxK xs k)) 129 else tab10.getD (nxV xs k 10).toNat 0
def wpK0 (xs : List Int) (k : Nat) : Nat := if boolV xs (nxK xs k) 7 then nxK xs (nxK xs (nxK xs k)) else nxK xs (nxK xs k)
def wpA (xs : List Int) (k : Nat) : List Int := wipV xs (wpK0 xs k)
def wpK (xs : List Int) (k : Nat) : Nat := wipK xs (wpK0 xs k)
theorem wpN_bd (xs : List Int) (k : Nat) : 0 ≤ wpN xs k ∧ wpN xs k ≤ 128 := by
 have h1 := nxV_bd xs (nxK xs (nxK xs k)) (n := 129) (by omega)
 unfold wpN
 split
 ·omega
 ·exact tab10_bd _
theorem wprefix_c {bt : Nat} {p : Option Addr} {len cap k : Nat} {xs : List Int} (W : World) (hT : TapeS W bt p len xs) (hb : W.heap[bt]? = some (tobj p len cap k)) :
  Cal Tryz.prog 83 [.pointer (some ⟨bt, 0, none⟩)].toArray W fun v w' => v = .agg (pfC (maskI (wpA xs k) (wpN xs k)) (wpN xs k)).toArray ∧ Mem [bt] W w' [(bt, tobj p len cap (wpK xs k))] := by
 have v1 := nxV_bd xs k (n := 10) (by omega)
 have v3 := nxV_bd xs (nxK xs (nxK xs k)) (n := 129) (by omega)
 have n1 := nth_tab (k := .i64) (xs := tab10) v1.1 (by simpa [tab10] using v1.2)
 have hbd := wpN_bd xs k
 have hcl : clampB (wpN xs k) = wpN xs k := clamp_in hbd.1 hbd.2
 have s3 := seg_pf (maskI_len (wpA xs k) (wpN xs k)) (wpN xs k)
 refine fn_ofM (n := 17) [bt] Tryz.func83 rfl rfl rfl ?_
 intro a w F M hwW
 replace M := M.came hwW hb (by simp) (by simp)
 refine c_seq (c_region ?_)
 (refine sD F (o_alloc M ?_);clear F M;intro b2 w M a F)
 with_reducible refine l_nil (q_then (c_seq (c_region ?_)))
 (refine sD F (o_buildSlice F M rfl rfl rfl rfl ?_);clear F M;intro b4 w M a F)
 refine sD F (o_move (F.e rfl) ?_);clear F a;intro a F
 (refine sD F (o_call (F.e rfl) (F.evs rfl) (Cal.mono (next_c 10 (by omega) (by omega) _ (hT.later M.ext) (M.heap (.there (.there .here))) ) ?_));clear F;clear a;have M0 := M;clear M;rintro _ w ⟨rfl, N⟩ a F)
 replace M := M0.turn1 N (.there (.there .here))
 (refine sD F (o_indexSl (F.e rfl) (F.e rfl) (by omega) (by omega) ?_);clear F a;intro a F)
 (refine sD F (o_load1 M (F.e rfl) (by repeat constructor) (n1) ?_);clear F a;intro a F)
 refine sD F (o_assign (F.e rfl) ?_);clear F a;intro a F
 with_reducible refine l_nil (q_then (c_seq (c_seq (c_region ?_))))
 refine sD F (o_move (F.e rfl) ?_);clear F a;intro a F
 (refine sD F (o_call (F.e rfl) (F.evs rfl) (Cal.mono (bool_c 7 (by omega) (by omega) _ (hT.later M.ext) (M.heap (.there (.there .here))) ) ?_));clear F;clear a;have M0 := M;clear M;rintro _ w ⟨rfl, N⟩ a F)
 replace M := M0.turn1 N (.there (.there .here))
 cases hc : boolV xs (nxK xs k) 7
 ·rw [hc] at F
  have hN : wpN xs k = tab10.getD (nxV xs k 10).toNat 0 := by unfold wpN;rw [hc];rfl
  have hK : wpK0 xs k = nxK xs (nxK xs k) := by unfold wpK0;rw [hc];rfl
  rw [← hK] at M
  rw [← hN] at F
  with_reducible refine l_nil (q_then ?_)
  refine c_false F rfl rfl ?_
  with_reducible refine c_skip (q_then (c_seq (c_region ?_)))
  refine sD F (o_move (F.e rfl) ?_);clear F a;intro a F
  (refine sD F (o_call (F.e rfl) (F.evs rfl) (Cal.mono (wipD_c _ (hT.later M.ext) (M.heap (.there (.there .here))) ) ?_));clear F;clear a;have M0 := M;clear M;rintro _ w ⟨rfl, N⟩ a F)
  replace M := M0.turn1 N (.there (.there .here))
  refine sD F (o_move (F.e rfl) ?_);clear F a;intro a F
  (refine sD F (o_call (F.e rfl) (F.evs rfl) (Cal.mono (Cal.to (rmask_c (wpA xs k) (wipV_is _ _) (wpN xs k) _) (by rw [hcl])) ?_));clear F;clear a;rintro _ w ⟨rfl, hE⟩ a F;replace M := M.later hE;clear hE)
  (refine stepN rfl F (o_storeA M (F.e rfl) (F.e rfl) (pfC_len (maskI_len _ _) _) (one_pf _ _)  (by repeat constructor)  (put_all (by rw [pfC_len (maskI_len (wpA xs k) (wpN xs k)) (wpN xs k)];rfl)) (by repeat constructor) ?_);clear F M;intro w M a F)
  with_reducible refine l_nil (q_then (c_ret ?_))
  refine p_ret F rfl (.cons (.cell (F.e rfl) (run_loadVar_agg TAgg.h (M.heap (by repeat constructor)) s3)) .nil) ⟨rfl, M.sub (by repeat (first | exact List.Sublist.refl _ | apply sC1))⟩
 ·rw [hc] at F
  have hN : wpN xs k = nxV xs (nxK xs (nxK xs k)) 129 := by unfold wpN;rw [hc];rfl
  have hK : wpK0 xs k = nxK xs (nxK xs (nxK xs k)) := by unfold wpK0;rw [hc];rfl
  with_reducible refine l_nil (q_then ?_)
  refine c_true F rfl rfl (c_region ?_)
  refine sD F (o_move (F.e rfl) ?_);clear F a;intro a F
  (refine sD F (o_call (F.e rfl) (F.evs rfl) (Cal.mono (next_c 129 (by omega) (by omega) _ (hT.later M.ext) (M.heap (.there (.there .here))) ) ?_));clear F;clear a;have M0 := M;clear M;rintro _ w ⟨rfl, N⟩ a F)
  replace M := M0.turn1 N (.there (.there .here))
  rw [← hK] at M
  rw [← hN] at F
  refine sD F (o_assign (F.e rfl) ?_);clear F a;intro a F
  with_reducible refine l_nil (q_then (c_seq (c_region ?_)))
  refine sD F (o_move (F.e rfl) ?_);clear F a;intro a F
  (refine sD F (o_call (F.e rfl) (F.evs rfl) (Cal.mono (wipD_c _ (hT.later M.ext) (M.heap (.there (.there .here))) ) ?_));clear F;clear a;have M0 := M;clear M;rintro _ w ⟨rfl, N⟩ a F)
  replace M := M0.turn1 N (.there (.there .here))
  refine sD F (o_move (F.e rfl) ?_);clear F a;intro a F
  (refine sD F (o_call (F.e rfl) (F.evs rfl) (Cal.mono (Cal.to (rmask_c (wpA xs k) (wipV_is _ _) (wpN xs k) _) (by rw [hcl])) ?_));clear F;clear a;rintro _ w ⟨rfl, hE⟩ a F;replace M := M.later hE;clear hE)
  (refine stepN rfl F (o_storeA M (F.e rfl) (F.e rfl) (pfC_len (maskI_len _ _) _) (one_pf _ _)  (by repeat constructor)  (put_all (by rw [pfC_len (maskI_len (wpA xs k) (wpN xs k)) (wpN xs k)];rfl)) (by repeat constructor) ?_);clear F M;intro w M a F)
  with_reducible refine l_nil (q_then (c_ret ?_))
  refine p_ret F rfl (.cons (.cell (F.e rfl) (run_loadVar_agg TAgg.h (M.heap (by repeat constructor)) s3)) .nil) ⟨rfl, M.sub (by repeat (first | exact List.Sublist.refl _ | apply sC1))⟩
end
section
open Go.RowKit
attribute [local irreducible] OpTo wpListIn Code.wpIn MW Cal
def OffNew (n0 : Nat) (W : World) (x : OV) : Prop := OffAt W x ∧ NewV n0 x.u ∧ NewV n0 x.v
end
section
open Go.RowKit
attribute [local irreducible] OpTo wpListIn Code.wpIn MW Cal
theorem NewV.mono {n0 n1 : Nat} {v : Value} (h : NewV n1 v) (hle : n0 ≤ n1) : NewV n0 v := fun b o s n c e => Nat.le_trans hle (h b o s n c e)
theorem NewV.notIn {n0 bt : Nat} {v : Value} (h : NewV n0 v) (hbt : bt < n0) : ∀ b o s k c, v = .slice (some ⟨b, o, s⟩) k c → b ∉ [bt] := fun b o s k c e hb => by
 have := h b o s k c e
 simp only [List.mem_singleton] at hb
 omega
theorem OffNew.mono {n0 n1 : Nat} {W : World} {x : OV} (h : OffNew n1 W x) (hle : n0 ≤ n1) : OffNew n0 W x := ⟨h.1, h.2.1.mono hle, h.2.2.mono hle⟩
theorem OffNew.laterB {n0 bt : Nat} {W w : World} {x : OV} (h : OffNew n0 W x) (hbt : bt < n0) (E : Ext [bt] W w) : OffNew n0 w x :=
 ⟨⟨h.1.1.laterB (h.2.1.notIn hbt) E, h.1.2.laterB (h.2.2.notIn hbt) E⟩, h.2⟩
theorem OffsN.mono {n0 n1 : Nat} {W : World} {v : Value} {os : List Off} (h : OffsN n1 W v os) (hle : n0 ≤ n1) : OffsN n0 W v os := by
 obtain ⟨zs, h1, h2, h3, h4, h5⟩ := h
 exact ⟨zs, h1, h2, h3, h4.mono hle, fun z hz => ⟨(h5 z hz).1.mono hle, (h5 z hz).2.mono hle⟩⟩
theorem OffsN.laterB {n0 bt : Nat} {W w : World} {v : Value} {os : List Off} (h : OffsN n0 W v os) (hbt : bt < n0) (E : Ext [bt] W w) : OffsN n0 w v os := by
 obtain ⟨zs, h1, h2, h3, h4, h5⟩ := h
 exact ⟨zs, h1, h2.laterB (h4.notIn hbt) E, fun z hz => (OffNew.laterB ⟨h3 z hz, h5 z hz⟩ hbt E).1, h4, h5⟩
structure OffsO (n0 : Nat) (W : World) (v : Value) (os : List Off) : Prop where
 at_ : OffsN n0 W v os
 is : ∀ o ∈ os, IsOff o
 len : os.length ≤ 8
 small : ∀ o ∈ os, o.ps.length ≤ 16 ∧ o.cs.length ≤ 16
theorem OffsO.laterB {n0 bt : Nat} {W w : World} {v : Value} {os : List Off} (h : OffsO n0 W v os) (hbt : bt < n0) (E : Ext [bt] W w) : OffsO n0 w v os := ⟨h.at_.laterB hbt E, h.is, h.len, h.small⟩
theorem Mem.re {S : List Nat} {W w : World} {l : List (Nat × Obj)} (M : Mem S W w l) (h : ∀ p ∈ l, p.1 ∈ S) : Mem S w w l := ⟨Ext.refl _ _, M.at_, M.nd, fun p hp => .inl (h p hp)⟩
def OffNb (bt : Nat) (x : OV) : Prop := (∀ b o s k c, x.u = .slice (some ⟨b, o, s⟩) k c → b ∉ [bt]) ∧ ∀ b o s k c, x.v = .slice (some ⟨b, o, s⟩) k c → b ∉ [bt]
theorem OffAt.laterB {bt : Nat} {W w : World} {x : OV} (h : OffAt W x) (hn : OffNb bt x) (E : Ext [bt] W w) : OffAt w x := ⟨h.1.laterB hn.1 E, h.2.laterB hn.2 E⟩
end
section
open Go.RowKit
attribute [local irreducible] OpTo wpListIn Code.wpIn MW Cal
theorem OffsO.mono {n0 n1 : Nat} {W : World} {v : Value} {os : List Off} (h : OffsO n1 W v os) (hle : n0 ≤ n1) : OffsO n0 W v os := ⟨h.at_.mono hle, h.is, h.len, h.small⟩
end
section
open Go.RowKit
structure Msg where
 ty : Int
 hops : Int
 life : Int
 tgt : List Int
 sm : Int
 ss : Int
 se : Int
 oe : Int
 os : Int
 ost : Int
 ol : Int
 ho : Bool
 bv : Int
 bl : Int
 br : List Int
 hb : Bool
 deriving DecidableEq
structure MV where
 m : Msg
 ps : List PInf
 cs : List CInf
 u : Value
 v : Value
def MsAt (W : World) (x : MV) : Prop := SlAt W 20 x.u x.ps.length (pisC x.ps) ∧ SlAt W 20 x.v x.cs.length (cisC x.cs)
theorem MsAt.later {W w : World} {x : MV} (h : MsAt W x) (E : Ext [] W w) : MsAt w x := ⟨h.1.later E, h.2.later E⟩
end
section
open Go.RowKit
attribute [local irreducible] OpTo wpListIn Code.wpIn MW Cal
def LSt (W : World) (v : Value) (zs : List OV) : Prop := SlAt W 20 v zs.length (encL ovC zs) ∧ ∀ z ∈ zs, OffAt W z
theorem LSt.later {W w : World} {v : Value} {zs : List OV} (h : LSt W v zs) (E : Ext [] W w) : LSt w v zs := ⟨h.1.later E, fun z hz => (h.2 z hz).later E⟩
end
end Go.Proofs.YtfhkmgcalcfibaaGreat
namespace Go.Proofs.YtfhkmgcalcfibaaGreat
open Go.ChangeShapes Go.WideShapes Go.ChangeAt Go.RowKit
def loK : IntKind → Int
 | .i64 => -9223372036854775808 | .u64 => 0 | .u32 => 0 | .u16 => 0 | .u8 => 0 | .i32 => -2147483648 | k => k.min
def hiK : IntKind → Int
 | .i64 => 9223372036854775807 | .u64 => 18446744073709551615 | .u32 => 4294967295 | .u16 => 65535 | .u8 => 255 | .i32 => 2147483647 | k => k.max
theorem int_bd {k : IntKind} {n : Int} (h : (Lit.int k n).wf = true) : loK k ≤ n ∧ n ≤ hiK k := by
 have := wf_bd h
 cases k <;> simp [IntKind.min, IntKind.max, IntKind.signed, IntKind.bits, loK, hiK] at this ⊢ <;> omega
theorem wfV_int {k : IntKind} {v : Value} (h : wfV (.i k) v = true) : ∃ n, v = .int k n ∧ loK k ≤ n ∧ n ≤ hiK k := by
 cases v <;> simp [wfV] at h
 rename_i k' n
 obtain ⟨rfl, hw⟩ := h
 exact ⟨n, rfl, int_bd hw⟩
theorem wfK_cons {k : LK} {ks : List LK} {xs : List Value} (h : wfK (k :: ks) xs = true) : ∃ x ys, xs = x :: ys ∧ wfV k x = true ∧ wfK ks ys = true := by
 cases xs with
 | nil => cases h
 | cons x ys => simp only [wfK, Bool.and_eq_true] at h;exact ⟨x, ys, rfl, h.1, h.2⟩
theorem wfK_nil {xs : List Value} (h : wfK [] xs = true) : xs = [] := by
 cases xs with
 | nil => rfl
 | cons x ys => cases h
theorem ip_wf : ∀ (xs : List Value) (n : Nat), wfK (List.replicate n (.i .u8)) xs = true → ∃ a : List Int, xs = ipC a ∧ a.length = n ∧ ∀ x ∈ a, 0 ≤ x ∧ x < 256
 | [], 0, _ => ⟨[], rfl, rfl, by simp⟩
 | [], n + 1, h => by simp [List.replicate_succ, wfK] at h
 | _ :: _, 0, h => by simp [wfK] at h
 | x :: xs, n + 1, h => by
  simp only [List.replicate_succ, wfK, Bool.and_eq_true] at h
  obtain ⟨a, rfl, hl, hb⟩ := ip_wf xs n h.2
  obtain ⟨m, rfl, h0, h1⟩ := wfV_int h.1
  refine ⟨m :: a, rfl, by simp [hl], fun y hy => ?_⟩
  rcases List.mem_cons.1 hy with rfl | hy
  ·simp only [loK, hiK] at h0 h1;omega
  ·exact hb y hy
section
variable {H : Type} {enc : TypeId × Value → H} {w : World} {r : Reach} {b0 base : Nat} {sp : Nat → Bool} {held : Bool} {v : Value} {d : DataW H} {p : List MemPlace}
theorem wfK_split : ∀ {ks ks' : List LK} {xs : List Value}, wfK (ks ++ ks') xs = true → ∃ ys zs, xs = ys ++ zs ∧ wfK ks ys = true ∧ wfK ks' zs = true
 | [], ks', xs, h => ⟨[], xs, rfl, rfl, h⟩
 | k :: ks, ks', [], h => by cases h
 | k :: ks, ks', x :: xs, h => by
  simp only [List.cons_append, wfK, Bool.and_eq_true] at h
  obtain ⟨ys, zs, rfl, h1, h2⟩ := wfK_split h.2
  exact ⟨x :: ys, zs, rfl, by simp [wfK, h.1, h1], h2⟩
end
set_option maxRecDepth 100000 in
theorem open_il {H : Type} {enc : TypeId × Value → H} {w : World} {r : Reach} {b0 base : Nat} {held : Bool} {v : Value} {d : DataW H} {p : List MemPlace} (hval : Value.okWide Tryz.prog w r b0 22 v) (h : DataW.Trod enc Tryz.prog w base (fun _ => true) held 22 v d p) :
  ∃ xs q cap, v = .slice q xs.length cap ∧ xs.length ≤ cap ∧ IntsAt w v xs := by
 obtain ⟨a, len, cap, rfl⟩ := okWide_slice Tryz.underlying22 hval
 obtain ⟨fuel, hf⟩ := h
 have hone : (Value.slice a len cap).cells.toList = [Value.slice a len cap] := rfl
 rw [hone] at hf
 rcases open_ints Tryz.underlying22 Tryz.underlying3 (by kernel_rfl) hf with ⟨h1, _⟩ | ⟨a', len', cap', zs, h1, _, hlc, hcm, hzl, _, hat, hwf⟩
 ·cases h1
  exact ⟨[], none, 0, rfl, by simp, ⟨⟨none, 0, rfl, by simp, fun h => absurd h (by simp)⟩, by simp, by simp⟩⟩
 ·cases h1
  simp only [if_true] at hzl
  have hml : maxLen = 9223372036854775807 := rfl
  have htl : (zs.take len).length = len := by rw [List.length_take];omega
  refine ⟨zs.take len, some a', cap, by rw [htl], by omega, ⟨⟨some a', cap, by rw [htl], by omega, fun hl => ?_⟩, fun x hx => ?_, by omega⟩⟩
  ·rw [htl] at hl
   have h0 := hat 0 (by omega)
   have hsp : a'.spot = none := by
    cases hs : a'.spot with
    | none => rfl
    | some q =>
     have e0 : a'.add 0 = a' := by simp [Addr.add]
     rw [e0] at h0
     simp only [World.cell?, hs] at h0
     split at h0 <;> simp at h0
   obtain ⟨b, o, sp⟩ := a'
   simp only at hsp
   subst hsp
   have hadd : ∀ i, (⟨b, o, none⟩ : Addr).add i = ⟨b, o + i, none⟩ := fun i => addr_add b o i
   rw [hadd] at h0
   cases hb : w.heap[b]? with
   | none => simp [World.cell?, hb] at h0
   | some ob =>
    cases ob with
    | cells cs t fz =>
     refine ⟨b, o, cs, t, fz, rfl, hb, ?_⟩
     have hcell : ∀ i, i < zs.length → cs[o + i]? = some (.int .i64 (zs.getD i 0)) := fun i hi => by
      have := hat i hi
      rw [hadd] at this
      simpa [World.cell?, hb] using this
     have hle : o + len ≤ cs.toList.length := by
      have := hcell (len - 1) (by omega)
      have := (Array.getElem?_eq_some_iff.1 this).1
      simp only [Array.length_toList]
      omega
     rw [htl, seg_eq, if_pos hle]
     congr 1
     apply List.ext_getElem
     ·simp only [List.length_take, List.length_drop, i64C, List.length_map]
      omega
     ·intro i h1 h2
      have hi : i < len := by simp only [List.length_take] at h1;omega
      have := hcell i (by omega)
      have h3 := Array.getElem?_eq_some_iff.1 this
      obtain ⟨h4, h5⟩ := h3
      simp only [List.getElem_take, List.getElem_drop, Array.getElem_toList, h5, i64C, List.getElem_map]
      rw [List.getD_eq_getElem?_getD, List.getElem?_eq_getElem (by omega)]
      rfl
    | _ => simp [World.cell?, hb] at h0
  ·have := int_bd (hwf x (List.mem_of_mem_take hx))
   exact this
end Go.Proofs.YtfhkmgcalcfibaaGreat
namespace Go.Proofs.YtfhkmgcalcfibaaGreat
open Go.RowKit
theorem add_add (a : Addr) (m r : Nat) : (a.add m).add r = a.add (m + r) := by
 obtain ⟨b, o, sp⟩ := a
 unfold Addr.add
 by_cases hm : m = 0
 ·subst hm
  simp
 ·by_cases hr : r = 0
  ·subst hr;simp [hm]
  ·simp [hm, hr, show ¬ m + r = 0 by omega];omega
section
variable {H : Type} {enc : TypeId × Value → H} {P : Program} {w : World} {base : Nat} {sp : Nat → Bool} {held : Bool}
theorem open_slG {α : Type} {encE : α → List Value} {Is : α → Prop} {t e : TypeId} {sz : Nat} (ht : P.underlying t = some (.slice e)) (hsz : P.cellsOf e = sz) (h0 : 0 < sz)
  (hdec : ∀ n cs y, DataW.trod enc P w base sp held n e cs = some y → ∃ x : α, Is x ∧ cs = encE x) {fuel : Nat} {cs : List Value} {x : DataW H × List MemPlace} (h : DataW.trod enc P w base sp held fuel t cs = some x) :
  ∃ (v : Value) (ls : List α), cs = [v] ∧ (∀ x ∈ ls, Is x) ∧ SlAt w sz v ls.length (encL encE ls) ∧ ls.length ≤ 9223372036854775807 := by
 rcases DataW.trod_slice ht h with ⟨rfl, _⟩ | ⟨a, len, cap, elems, rest, n, _, rfl, _, _, hlc, hcm, hel, hat, _, _⟩
 ·exact ⟨_, [], rfl, by simp, SlAt.nil _ _, by simp⟩
 have hml : maxLen = 9223372036854775807 := rfl
 rw [hsz] at hat
 have key : ∀ k, k ≤ len → ∃ ls : List α, ls.length = k ∧ (∀ x ∈ ls, Is x) ∧ (encL encE ls).length = k * sz ∧ ∀ j, j < k * sz → w.cell? (a.add j) = (encL encE ls)[j]? := by
  intro k
  induction k with
  | zero => exact fun _ => ⟨[], rfl, by simp, by simp [encL_nil], by simp⟩
  | succ k ih =>
   intro hk
   obtain ⟨ls, h1, h2, h3, h4⟩ := ih (by omega)
   have hb := hat k (by omega)
   rw [List.getElem?_eq_getElem (by omega), Option.bind_eq_some_iff] at hb
   obtain ⟨ck, hc, hy⟩ := hb
   obtain ⟨x, hx, rfl⟩ := hdec _ _ _ hy
   obtain ⟨_, hcl, hca⟩ := World.cells?_some hc
   refine ⟨ls ++ [x], by simp [h1], fun z hz => ?_, ?_, fun j hj => ?_⟩
   ·rcases List.mem_append.1 hz with h | h
    ·exact h2 z h
    ·simp only [List.mem_singleton] at h
     rw [h];exact hx
   ·rw [encL_app, encL_one, List.length_append, h3, hcl, Nat.add_mul];omega
   ·rw [encL_app, encL_one]
    rcases Nat.lt_or_ge j (k * sz) with h | h
    ·rw [List.getElem?_append_left (by omega)]
     exact h4 j h
    ·rw [List.getElem?_append_right (by omega), h3, ← hca (j - k * sz) (by rw [Nat.add_mul] at hj;omega), add_add]
     congr 2
     omega
 obtain ⟨ls, h1, h2, h3, h4⟩ := key len (Nat.le_refl _)
 refine ⟨_, ls, rfl, h2, ⟨some a, cap, by rw [h1], by omega, fun _ _ => trivial, by rw [h3, h1], fun hl => ?_⟩, by omega⟩
 have hpos : 0 < len * sz := Nat.mul_pos (by omega) h0
 have hc0 := h4 0 hpos
 have hsp : a.spot = none := by
  cases hs : a.spot with
  | none => rfl
  | some q =>
   have e0 : a.add 0 = a := by simp [Addr.add]
   rw [e0, List.getElem?_eq_getElem (by omega)] at hc0
   simp only [World.cell?, hs] at hc0
   split at hc0 <;> simp at hc0
 obtain ⟨b, o, spt⟩ := a
 simp only at hsp
 subst hsp
 have hadd : ∀ i, (⟨b, o, none⟩ : Addr).add i = ⟨b, o + i, none⟩ := fun i => addr_add b o i
 rw [hadd, List.getElem?_eq_getElem (by omega)] at hc0
 cases hb : w.heap[b]? with
 | none => simp [World.cell?, hb] at hc0
 | some ob =>
  cases ob with
  | cells cs t fz =>
   refine ⟨b, o, cs.toList, t, fz, rfl, by simpa using hb, ?_⟩
   have hcell : ∀ i, i < len * sz → cs[o + i]? = (encL encE ls)[i]? := fun i hi => by
    have := h4 i hi
    rw [hadd] at this
    simpa [World.cell?, hb] using this
   have hle : o + len * sz ≤ cs.toList.length := by
    have := hcell (len * sz - 1) (by omega)
    rw [List.getElem?_eq_getElem (by omega)] at this
    have := (Array.getElem?_eq_some_iff.1 this).1
    simp only [Array.length_toList]
    omega
   rw [h1, sg_eq, if_pos hle]
   congr 1
   apply List.ext_getElem?
   intro i
   rcases Nat.lt_or_ge i (len * sz) with hi | hi
   ·rw [List.getElem?_take_of_lt hi, List.getElem?_drop, Array.getElem?_toList, hcell i hi]
   ·rw [List.getElem?_eq_none (by simp;omega), List.getElem?_eq_none (by omega)]
  | _ => simp [World.cell?, hb] at hc0
end
structure DstV where
 dip : List Int
 dbits : Int
 sip : List Int
 sbits : Int
 rt : Int
 deriving DecidableEq
def dvC (o : DstV) : List Value := pfC o.dip o.dbits ++ (pfC o.sip o.sbits ++ ([.int .u64 o.rt]))
def IsDv (o : DstV) : Prop := IsIP o.dip ∧ IsIP o.sip
theorem dv_len {o : DstV} (h : IsDv o) : (dvC o).length = 35 := by
 obtain ⟨f_dip, f_dbits, f_sip, f_sbits, f_rt⟩ := o
 obtain ⟨x0_0, x0_1, x0_2, x0_3, x0_4, x0_5, x0_6, x0_7, x0_8, x0_9, x0_10, x0_11, x0_12, x0_13, x0_14, x0_15, e0⟩ := len16 (show f_dip.length = 16 from (h.1).len)
 obtain ⟨x1_0, x1_1, x1_2, x1_3, x1_4, x1_5, x1_6, x1_7, x1_8, x1_9, x1_10, x1_11, x1_12, x1_13, x1_14, x1_15, e1⟩ := len16 (show f_sip.length = 16 from (h.2).len)
 subst e0
 subst e1
 rfl
theorem dv_all {o : DstV} (h : IsDv o) : seg (dvC o) 0 35 = some (dvC o) := sg_all (dv_len h)
theorem dv_dst {o : DstV} (h : IsDv o) : seg (dvC o) 0 17 = some (pfC o.dip o.dbits) := by
 obtain ⟨f_dip, f_dbits, f_sip, f_sbits, f_rt⟩ := o
 obtain ⟨x0_0, x0_1, x0_2, x0_3, x0_4, x0_5, x0_6, x0_7, x0_8, x0_9, x0_10, x0_11, x0_12, x0_13, x0_14, x0_15, e0⟩ := len16 (show f_dip.length = 16 from (h.1).len)
 obtain ⟨x1_0, x1_1, x1_2, x1_3, x1_4, x1_5, x1_6, x1_7, x1_8, x1_9, x1_10, x1_11, x1_12, x1_13, x1_14, x1_15, e1⟩ := len16 (show f_sip.length = 16 from (h.2).len)
 subst e0
 subst e1
 rfl
theorem dv_dip {o : DstV} (h : IsDv o) : seg (dvC o) 0 16 = some (ipC o.dip) := by
 obtain ⟨f_dip, f_dbits, f_sip, f_sbits, f_rt⟩ := o
 obtain ⟨x0_0, x0_1, x0_2, x0_3, x0_4, x0_5, x0_6, x0_7, x0_8, x0_9, x0_10, x0_11, x0_12, x0_13, x0_14, x0_15, e0⟩ := len16 (show f_dip.length = 16 from (h.1).len)
 obtain ⟨x1_0, x1_1, x1_2, x1_3, x1_4, x1_5, x1_6, x1_7, x1_8, x1_9, x1_10, x1_11, x1_12, x1_13, x1_14, x1_15, e1⟩ := len16 (show f_sip.length = 16 from (h.2).len)
 subst e0
 subst e1
 rfl
theorem dv_dbits {o : DstV} (h : IsDv o) : nth (dvC o) 16 = some (.int .i64 o.dbits) := by
 obtain ⟨f_dip, f_dbits, f_sip, f_sbits, f_rt⟩ := o
 obtain ⟨x0_0, x0_1, x0_2, x0_3, x0_4, x0_5, x0_6, x0_7, x0_8, x0_9, x0_10, x0_11, x0_12, x0_13, x0_14, x0_15, e0⟩ := len16 (show f_dip.length = 16 from (h.1).len)
 obtain ⟨x1_0, x1_1, x1_2, x1_3, x1_4, x1_5, x1_6, x1_7, x1_8, x1_9, x1_10, x1_11, x1_12, x1_13, x1_14, x1_15, e1⟩ := len16 (show f_sip.length = 16 from (h.2).len)
 subst e0
 subst e1
 rfl
theorem dv_src {o : DstV} (h : IsDv o) : seg (dvC o) 17 17 = some (pfC o.sip o.sbits) := by
 obtain ⟨f_dip, f_dbits, f_sip, f_sbits, f_rt⟩ := o
 obtain ⟨x0_0, x0_1, x0_2, x0_3, x0_4, x0_5, x0_6, x0_7, x0_8, x0_9, x0_10, x0_11, x0_12, x0_13, x0_14, x0_15, e0⟩ := len16 (show f_dip.length = 16 from (h.1).len)
 obtain ⟨x1_0, x1_1, x1_2, x1_3, x1_4, x1_5, x1_6, x1_7, x1_8, x1_9, x1_10, x1_11, x1_12, x1_13, x1_14, x1_15, e1⟩ := len16 (show f_sip.length = 16 from (h.2).len)
 subst e0
 subst e1
 rfl
theorem dv_sip {o : DstV} (h : IsDv o) : seg (dvC o) 17 16 = some (ipC o.sip) := by
 obtain ⟨f_dip, f_dbits, f_sip, f_sbits, f_rt⟩ := o
 obtain ⟨x0_0, x0_1, x0_2, x0_3, x0_4, x0_5, x0_6, x0_7, x0_8, x0_9, x0_10, x0_11, x0_12, x0_13, x0_14, x0_15, e0⟩ := len16 (show f_dip.length = 16 from (h.1).len)
 obtain ⟨x1_0, x1_1, x1_2, x1_3, x1_4, x1_5, x1_6, x1_7, x1_8, x1_9, x1_10, x1_11, x1_12, x1_13, x1_14, x1_15, e1⟩ := len16 (show f_sip.length = 16 from (h.2).len)
 subst e0
 subst e1
 rfl
theorem dv_sbits {o : DstV} (h : IsDv o) : nth (dvC o) 33 = some (.int .i64 o.sbits) := by
 obtain ⟨f_dip, f_dbits, f_sip, f_sbits, f_rt⟩ := o
 obtain ⟨x0_0, x0_1, x0_2, x0_3, x0_4, x0_5, x0_6, x0_7, x0_8, x0_9, x0_10, x0_11, x0_12, x0_13, x0_14, x0_15, e0⟩ := len16 (show f_dip.length = 16 from (h.1).len)
 obtain ⟨x1_0, x1_1, x1_2, x1_3, x1_4, x1_5, x1_6, x1_7, x1_8, x1_9, x1_10, x1_11, x1_12, x1_13, x1_14, x1_15, e1⟩ := len16 (show f_sip.length = 16 from (h.2).len)
 subst e0
 subst e1
 rfl
theorem dv_put_src {o : DstV} (h : IsDv o) {z : List Int} (hz : IsIP z) (y : Int) : put (dvC o) 17 (pfC z y) = some (dvC { o with sip := z, sbits := y }) := by
 obtain ⟨f_dip, f_dbits, f_sip, f_sbits, f_rt⟩ := o
 obtain ⟨x0_0, x0_1, x0_2, x0_3, x0_4, x0_5, x0_6, x0_7, x0_8, x0_9, x0_10, x0_11, x0_12, x0_13, x0_14, x0_15, e0⟩ := len16 (show f_dip.length = 16 from (h.1).len)
 obtain ⟨x1_0, x1_1, x1_2, x1_3, x1_4, x1_5, x1_6, x1_7, x1_8, x1_9, x1_10, x1_11, x1_12, x1_13, x1_14, x1_15, e1⟩ := len16 (show f_sip.length = 16 from (h.2).len)
 subst e0
 subst e1
 obtain ⟨z0, z1, z2, z3, z4, z5, z6, z7, z8, z9, z10, z11, z12, z13, z14, z15, ez⟩ := len16 hz.len
 subst ez
 rfl
theorem dv_rt {o : DstV} (h : IsDv o) : nth (dvC o) 34 = some (.int .u64 o.rt) := by
 obtain ⟨f_dip, f_dbits, f_sip, f_sbits, f_rt⟩ := o
 obtain ⟨x0_0, x0_1, x0_2, x0_3, x0_4, x0_5, x0_6, x0_7, x0_8, x0_9, x0_10, x0_11, x0_12, x0_13, x0_14, x0_15, e0⟩ := len16 (show f_dip.length = 16 from (h.1).len)
 obtain ⟨x1_0, x1_1, x1_2, x1_3, x1_4, x1_5, x1_6, x1_7, x1_8, x1_9, x1_10, x1_11, x1_12, x1_13, x1_14, x1_15, e1⟩ := len16 (show f_sip.length = 16 from (h.2).len)
 subst e0
 subst e1
 rfl
theorem dv_one (o : DstV) : (dvC o).all (·.oneCell') = true := by
 simp [pfC, ipC, dvC, Value.oneCell']
def dvZ : List Value := [.int .u8 0, .int .u8 0, .int .u8 0, .int .u8 0, .int .u8 0, .int .u8 0, .int .u8 0, .int .u8 0, .int .u8 0, .int .u8 0, .int .u8 0, .int .u8 0, .int .u8 0, .int .u8 0, .int .u8 0, .int .u8 0, .int .i64 0, .int .u8 0, .int .u8 0, .int .u8 0, .int .u8 0, .int .u8 0, .int .u8 0, .int .u8 0, .int .u8 0, .int .u8 0, .int .u8 0, .int .u8 0, .int .u8 0, .int .u8 0, .int .u8 0, .int .u8 0, .int .u8 0, .int .i64 0, .int .u64 0]
theorem dv_build {o : DstV} (h : IsDv o) : putAll [(0, 17), (17, 17), (34, 1)] dvZ [(0, pfC o.dip o.dbits), (1, pfC o.sip o.sbits), (2, [.int .u64 o.rt])] = some (dvC o) := by
 obtain ⟨f_dip, f_dbits, f_sip, f_sbits, f_rt⟩ := o
 obtain ⟨x0_0, x0_1, x0_2, x0_3, x0_4, x0_5, x0_6, x0_7, x0_8, x0_9, x0_10, x0_11, x0_12, x0_13, x0_14, x0_15, e0⟩ := len16 (show f_dip.length = 16 from (h.1).len)
 obtain ⟨x1_0, x1_1, x1_2, x1_3, x1_4, x1_5, x1_6, x1_7, x1_8, x1_9, x1_10, x1_11, x1_12, x1_13, x1_14, x1_15, e1⟩ := len16 (show f_sip.length = 16 from (h.2).len)
 subst e0
 subst e1
 rfl
abbrev dvK : List LK := [.i .u8, .i .u8, .i .u8, .i .u8, .i .u8, .i .u8, .i .u8, .i .u8, .i .u8, .i .u8, .i .u8, .i .u8, .i .u8, .i .u8, .i .u8, .i .u8, .i .i64, .i .u8, .i .u8, .i .u8, .i .u8, .i .u8, .i .u8, .i .u8, .i .u8, .i .u8, .i .u8, .i .u8, .i .u8, .i .u8, .i .u8, .i .u8, .i .u8, .i .i64, .i .u64]
theorem dv_fits {o : DstV} (h : IsDv o) : fitsK dvK (dvC o) = true := by
 obtain ⟨f_dip, f_dbits, f_sip, f_sbits, f_rt⟩ := o
 obtain ⟨x0_0, x0_1, x0_2, x0_3, x0_4, x0_5, x0_6, x0_7, x0_8, x0_9, x0_10, x0_11, x0_12, x0_13, x0_14, x0_15, e0⟩ := len16 (show f_dip.length = 16 from (h.1).len)
 obtain ⟨x1_0, x1_1, x1_2, x1_3, x1_4, x1_5, x1_6, x1_7, x1_8, x1_9, x1_10, x1_11, x1_12, x1_13, x1_14, x1_15, e1⟩ := len16 (show f_sip.length = 16 from (h.2).len)
 subst e0
 subst e1
 rfl
theorem dv_eq {a b : DstV} (ha : IsDv a) (hb : IsDv b) : eqVs (dvC a) (dvC b) = decide (a = b) := by
 have l0 : a.dip.length = b.dip.length := by rw [(ha.1).len, (hb.1).len]
 have l1 : a.sip.length = b.sip.length := by rw [(ha.2).len, (hb.2).len]
 rw [Bool.eq_iff_iff, decide_eq_true_eq]
 obtain ⟨a_dip, a_dbits, a_sip, a_sbits, a_rt⟩ := a
 obtain ⟨b_dip, b_dbits, b_sip, b_sbits, b_rt⟩ := b
 dsimp only at l0 l1
 simp only [dvC, DstV.mk.injEq]
 rw [eqVs_append _ _ _ _ (by (simp [pfC, ipC];assumption))]
 rw [eqVs_append _ _ _ _ (by (simp [pfC, ipC];assumption))]
 rw [eqVs_pf l0]
 rw [eqVs_pf l1]
 simp [eqVs, eqV, Bool.and_eq_true, beq_iff_eq, Bool.and_true, and_assoc, decide_eq_true_eq, List.cons_append, List.nil_append]
structure DisV where
 seq : Int
 met : Int
 deriving DecidableEq
def diC (o : DisV) : List Value := [.int .u16 o.seq, .int .i64 o.met]
def IsDi (o : DisV) : Prop := True
theorem di_len {o : DisV} (h : IsDi o) : (diC o).length = 2 := by
 obtain ⟨f_seq, f_met⟩ := o
 rfl
theorem di_all {o : DisV} (h : IsDi o) : seg (diC o) 0 2 = some (diC o) := sg_all (di_len h)
theorem di_seq {o : DisV} (h : IsDi o) : nth (diC o) 0 = some (.int .u16 o.seq) := by
 obtain ⟨f_seq, f_met⟩ := o
 rfl
theorem di_met {o : DisV} (h : IsDi o) : nth (diC o) 1 = some (.int .i64 o.met) := by
 obtain ⟨f_seq, f_met⟩ := o
 rfl
theorem di_one (o : DisV) : (diC o).all (·.oneCell') = true := by
 simp [pfC, ipC, diC, Value.oneCell']
def diZ : List Value := [.int .u16 0, .int .i64 0]
abbrev diK : List LK := [.i .u16, .i .i64]
theorem di_fits {o : DisV} (h : IsDi o) : fitsK diK (diC o) = true := by
 obtain ⟨f_seq, f_met⟩ := o
 rfl
theorem di_eq {a b : DisV} (ha : IsDi a) (hb : IsDi b) : eqVs (diC a) (diC b) = decide (a = b) := by
 rw [Bool.eq_iff_iff, decide_eq_true_eq]
 obtain ⟨a_seq, a_met⟩ := a
 obtain ⟨b_seq, b_met⟩ := b
 simp only [diC, DisV.mk.injEq]
 simp [eqVs, eqV, Bool.and_eq_true, beq_iff_eq, Bool.and_true, and_assoc, decide_eq_true_eq, List.cons_append, List.nil_append]
structure AdvV where
 to : DstV
 own : DisV
 deriving DecidableEq
def avC (o : AdvV) : List Value := dvC o.to ++ (diC o.own)
def IsAv (o : AdvV) : Prop := IsDv o.to ∧ IsDi o.own
theorem av_len {o : AdvV} (h : IsAv o) : (avC o).length = 37 := by
 obtain ⟨⟨f_to_dip, f_to_dbits, f_to_sip, f_to_sbits, f_to_rt⟩, ⟨f_own_seq, f_own_met⟩⟩ := o
 obtain ⟨x0_0, x0_1, x0_2, x0_3, x0_4, x0_5, x0_6, x0_7, x0_8, x0_9, x0_10, x0_11, x0_12, x0_13, x0_14, x0_15, e0⟩ := len16 (show f_to_dip.length = 16 from (h.1.1).len)
 obtain ⟨x1_0, x1_1, x1_2, x1_3, x1_4, x1_5, x1_6, x1_7, x1_8, x1_9, x1_10, x1_11, x1_12, x1_13, x1_14, x1_15, e1⟩ := len16 (show f_to_sip.length = 16 from (h.1.2).len)
 subst e0
 subst e1
 rfl
theorem av_all {o : AdvV} (h : IsAv o) : seg (avC o) 0 37 = some (avC o) := sg_all (av_len h)
theorem av_to {o : AdvV} (h : IsAv o) : seg (avC o) 0 35 = some (dvC o.to) := by
 obtain ⟨⟨f_to_dip, f_to_dbits, f_to_sip, f_to_sbits, f_to_rt⟩, ⟨f_own_seq, f_own_met⟩⟩ := o
 obtain ⟨x0_0, x0_1, x0_2, x0_3, x0_4, x0_5, x0_6, x0_7, x0_8, x0_9, x0_10, x0_11, x0_12, x0_13, x0_14, x0_15, e0⟩ := len16 (show f_to_dip.length = 16 from (h.1.1).len)
 obtain ⟨x1_0, x1_1, x1_2, x1_3, x1_4, x1_5, x1_6, x1_7, x1_8, x1_9, x1_10, x1_11, x1_12, x1_13, x1_14, x1_15, e1⟩ := len16 (show f_to_sip.length = 16 from (h.1.2).len)
 subst e0
 subst e1
 rfl
theorem av_own {o : AdvV} (h : IsAv o) : seg (avC o) 35 2 = some (diC o.own) := by
 obtain ⟨⟨f_to_dip, f_to_dbits, f_to_sip, f_to_sbits, f_to_rt⟩, ⟨f_own_seq, f_own_met⟩⟩ := o
 obtain ⟨x0_0, x0_1, x0_2, x0_3, x0_4, x0_5, x0_6, x0_7, x0_8, x0_9, x0_10, x0_11, x0_12, x0_13, x0_14, x0_15, e0⟩ := len16 (show f_to_dip.length = 16 from (h.1.1).len)
 obtain ⟨x1_0, x1_1, x1_2, x1_3, x1_4, x1_5, x1_6, x1_7, x1_8, x1_9, x1_10, x1_11, x1_12, x1_13, x1_14, x1_15, e1⟩ := len16 (show f_to_sip.length = 16 from (h.1.2).len)
 subst e0
 subst e1
 rfl
theorem av_own_met {o : AdvV} (h : IsAv o) : nth (avC o) 36 = some (.int .i64 o.own.met) := by
 obtain ⟨⟨f_to_dip, f_to_dbits, f_to_sip, f_to_sbits, f_to_rt⟩, ⟨f_own_seq, f_own_met⟩⟩ := o
 obtain ⟨x0_0, x0_1, x0_2, x0_3, x0_4, x0_5, x0_6, x0_7, x0_8, x0_9, x0_10, x0_11, x0_12, x0_13, x0_14, x0_15, e0⟩ := len16 (show f_to_dip.length = 16 from (h.1.1).len)
 obtain ⟨x1_0, x1_1, x1_2, x1_3, x1_4, x1_5, x1_6, x1_7, x1_8, x1_9, x1_10, x1_11, x1_12, x1_13, x1_14, x1_15, e1⟩ := len16 (show f_to_sip.length = 16 from (h.1.2).len)
 subst e0
 subst e1
 rfl
theorem av_put_own {o : AdvV} (h : IsAv o) {z : DisV} (hz : IsDi z) : put (avC o) 35 (diC z) = some (avC { o with own := z }) := by
 obtain ⟨⟨f_to_dip, f_to_dbits, f_to_sip, f_to_sbits, f_to_rt⟩, ⟨f_own_seq, f_own_met⟩⟩ := o
 obtain ⟨x0_0, x0_1, x0_2, x0_3, x0_4, x0_5, x0_6, x0_7, x0_8, x0_9, x0_10, x0_11, x0_12, x0_13, x0_14, x0_15, e0⟩ := len16 (show f_to_dip.length = 16 from (h.1.1).len)
 obtain ⟨x1_0, x1_1, x1_2, x1_3, x1_4, x1_5, x1_6, x1_7, x1_8, x1_9, x1_10, x1_11, x1_12, x1_13, x1_14, x1_15, e1⟩ := len16 (show f_to_sip.length = 16 from (h.1.2).len)
 subst e0
 subst e1
 obtain ⟨z_seq, z_met⟩ := z
 rfl
theorem av_put_own_met {o : AdvV} (h : IsAv o) (z : Int) : put (avC o) 36 [.int .i64 z] = some (avC { o with own := { o.own with met := z } }) := by
 obtain ⟨⟨f_to_dip, f_to_dbits, f_to_sip, f_to_sbits, f_to_rt⟩, ⟨f_own_seq, f_own_met⟩⟩ := o
 obtain ⟨x0_0, x0_1, x0_2, x0_3, x0_4, x0_5, x0_6, x0_7, x0_8, x0_9, x0_10, x0_11, x0_12, x0_13, x0_14, x0_15, e0⟩ := len16 (show f_to_dip.length = 16 from (h.1.1).len)
 obtain ⟨x1_0, x1_1, x1_2, x1_3, x1_4, x1_5, x1_6, x1_7, x1_8, x1_9, x1_10, x1_11, x1_12, x1_13, x1_14, x1_15, e1⟩ := len16 (show f_to_sip.length = 16 from (h.1.2).len)
 subst e0
 subst e1
 rfl
theorem av_one (o : AdvV) : (avC o).all (·.oneCell') = true := by
 simp [pfC, ipC, avC, dvC, diC, Value.oneCell']
def avZ : List Value := [.int .u8 0, .int .u8 0, .int .u8 0, .int .u8 0, .int .u8 0, .int .u8 0, .int .u8 0, .int .u8 0, .int .u8 0, .int .u8 0, .int .u8 0, .int .u8 0, .int .u8 0, .int .u8 0, .int .u8 0, .int .u8 0, .int .i64 0, .int .u8 0, .int .u8 0, .int .u8 0, .int .u8 0, .int .u8 0, .int .u8 0, .int .u8 0, .int .u8 0, .int .u8 0, .int .u8 0, .int .u8 0, .int .u8 0, .int .u8 0, .int .u8 0, .int .u8 0, .int .u8 0, .int .i64 0, .int .u64 0, .int .u16 0, .int .i64 0]
theorem av_build {o : AdvV} (h : IsAv o) : putAll [(0, 35), (35, 2)] avZ [(0, dvC o.to), (1, diC o.own)] = some (avC o) := by
 obtain ⟨⟨f_to_dip, f_to_dbits, f_to_sip, f_to_sbits, f_to_rt⟩, ⟨f_own_seq, f_own_met⟩⟩ := o
 obtain ⟨x0_0, x0_1, x0_2, x0_3, x0_4, x0_5, x0_6, x0_7, x0_8, x0_9, x0_10, x0_11, x0_12, x0_13, x0_14, x0_15, e0⟩ := len16 (show f_to_dip.length = 16 from (h.1.1).len)
 obtain ⟨x1_0, x1_1, x1_2, x1_3, x1_4, x1_5, x1_6, x1_7, x1_8, x1_9, x1_10, x1_11, x1_12, x1_13, x1_14, x1_15, e1⟩ := len16 (show f_to_sip.length = 16 from (h.1.2).len)
 subst e0
 subst e1
 rfl
theorem av_build1 {o : AdvV} (h : IsAv o) : putAll (placesL 1 37) (zerosL avZ (1 * 37)) [(0, avC o)] = some (avC o) := by
 obtain ⟨⟨f_to_dip, f_to_dbits, f_to_sip, f_to_sbits, f_to_rt⟩, ⟨f_own_seq, f_own_met⟩⟩ := o
 obtain ⟨x0_0, x0_1, x0_2, x0_3, x0_4, x0_5, x0_6, x0_7, x0_8, x0_9, x0_10, x0_11, x0_12, x0_13, x0_14, x0_15, e0⟩ := len16 (show f_to_dip.length = 16 from (h.1.1).len)
 obtain ⟨x1_0, x1_1, x1_2, x1_3, x1_4, x1_5, x1_6, x1_7, x1_8, x1_9, x1_10, x1_11, x1_12, x1_13, x1_14, x1_15, e1⟩ := len16 (show f_to_sip.length = 16 from (h.1.2).len)
 subst e0
 subst e1
 rfl
abbrev avK : List LK := [.i .u8, .i .u8, .i .u8, .i .u8, .i .u8, .i .u8, .i .u8, .i .u8, .i .u8, .i .u8, .i .u8, .i .u8, .i .u8, .i .u8, .i .u8, .i .u8, .i .i64, .i .u8, .i .u8, .i .u8, .i .u8, .i .u8, .i .u8, .i .u8, .i .u8, .i .u8, .i .u8, .i .u8, .i .u8, .i .u8, .i .u8, .i .u8, .i .u8, .i .i64, .i .u64, .i .u16, .i .i64]
theorem av_fits {o : AdvV} (h : IsAv o) : fitsK avK (avC o) = true := by
 obtain ⟨⟨f_to_dip, f_to_dbits, f_to_sip, f_to_sbits, f_to_rt⟩, ⟨f_own_seq, f_own_met⟩⟩ := o
 obtain ⟨x0_0, x0_1, x0_2, x0_3, x0_4, x0_5, x0_6, x0_7, x0_8, x0_9, x0_10, x0_11, x0_12, x0_13, x0_14, x0_15, e0⟩ := len16 (show f_to_dip.length = 16 from (h.1.1).len)
 obtain ⟨x1_0, x1_1, x1_2, x1_3, x1_4, x1_5, x1_6, x1_7, x1_8, x1_9, x1_10, x1_11, x1_12, x1_13, x1_14, x1_15, e1⟩ := len16 (show f_to_sip.length = 16 from (h.1.2).len)
 subst e0
 subst e1
 rfl
theorem av_eq {a b : AdvV} (ha : IsAv a) (hb : IsAv b) : eqVs (avC a) (avC b) = decide (a = b) := by
 have l0 := dv_eq (ha.1) (hb.1)
 have m0 : (dvC a.to).length = (dvC b.to).length := by rw [dv_len (ha.1), dv_len (hb.1)]
 have l1 := di_eq (ha.2) (hb.2)
 have m1 : (diC a.own).length = (diC b.own).length := by rw [di_len (ha.2), di_len (hb.2)]
 rw [Bool.eq_iff_iff, decide_eq_true_eq]
 obtain ⟨a_to, a_own⟩ := a
 obtain ⟨b_to, b_own⟩ := b
 dsimp only at l0 l1 m0 m1
 simp only [avC, AdvV.mk.injEq]
 rw [eqVs_append _ _ _ _ ‹_›]
 rw [l0]
 rw [l1]
 simp [eqVs, eqV, Bool.and_eq_true, beq_iff_eq, Bool.and_true, and_assoc, decide_eq_true_eq, List.cons_append, List.nil_append]
abbrev avsC (l : List AdvV) : List Value := encL avC l
theorem avs_len {l : List AdvV} (h : ∀ x ∈ l, IsAv x) : ∀ x ∈ l, (avC x).length = 37 := fun x hx => av_len (h x hx)
theorem avs_one {l : List AdvV} : (avsC l).all (·.oneCell') = true := encL_all fun x _ => av_one x
structure InsV where
 to : DstV
 nb : Int
 own : DisV
 btn : Int
 til : Int
 deriving DecidableEq
def inC (o : InsV) : List Value := dvC o.to ++ ([.int .u64 o.nb] ++ (diC o.own ++ ([.int .i64 o.btn, .int .i64 o.til])))
def IsIn (o : InsV) : Prop := IsDv o.to ∧ IsDi o.own
theorem in_len {o : InsV} (h : IsIn o) : (inC o).length = 40 := by
 obtain ⟨⟨f_to_dip, f_to_dbits, f_to_sip, f_to_sbits, f_to_rt⟩, f_nb, ⟨f_own_seq, f_own_met⟩, f_btn, f_til⟩ := o
 obtain ⟨x0_0, x0_1, x0_2, x0_3, x0_4, x0_5, x0_6, x0_7, x0_8, x0_9, x0_10, x0_11, x0_12, x0_13, x0_14, x0_15, e0⟩ := len16 (show f_to_dip.length = 16 from (h.1.1).len)
 obtain ⟨x1_0, x1_1, x1_2, x1_3, x1_4, x1_5, x1_6, x1_7, x1_8, x1_9, x1_10, x1_11, x1_12, x1_13, x1_14, x1_15, e1⟩ := len16 (show f_to_sip.length = 16 from (h.1.2).len)
 subst e0
 subst e1
 rfl
theorem in_all {o : InsV} (h : IsIn o) : seg (inC o) 0 40 = some (inC o) := sg_all (in_len h)
theorem in_to {o : InsV} (h : IsIn o) : seg (inC o) 0 35 = some (dvC o.to) := by
 obtain ⟨⟨f_to_dip, f_to_dbits, f_to_sip, f_to_sbits, f_to_rt⟩, f_nb, ⟨f_own_seq, f_own_met⟩, f_btn, f_til⟩ := o
 obtain ⟨x0_0, x0_1, x0_2, x0_3, x0_4, x0_5, x0_6, x0_7, x0_8, x0_9, x0_10, x0_11, x0_12, x0_13, x0_14, x0_15, e0⟩ := len16 (show f_to_dip.length = 16 from (h.1.1).len)
 obtain ⟨x1_0, x1_1, x1_2, x1_3, x1_4, x1_5, x1_6, x1_7, x1_8, x1_9, x1_10, x1_11, x1_12, x1_13, x1_14, x1_15, e1⟩ := len16 (show f_to_sip.length = 16 from (h.1.2).len)
 subst e0
 subst e1
 rfl
theorem in_to_rt {o : InsV} (h : IsIn o) : nth (inC o) 34 = some (.int .u64 o.to.rt) := by
 obtain ⟨⟨f_to_dip, f_to_dbits, f_to_sip, f_to_sbits, f_to_rt⟩, f_nb, ⟨f_own_seq, f_own_met⟩, f_btn, f_til⟩ := o
 obtain ⟨x0_0, x0_1, x0_2, x0_3, x0_4, x0_5, x0_6, x0_7, x0_8, x0_9, x0_10, x0_11, x0_12, x0_13, x0_14, x0_15, e0⟩ := len16 (show f_to_dip.length = 16 from (h.1.1).len)
 obtain ⟨x1_0, x1_1, x1_2, x1_3, x1_4, x1_5, x1_6, x1_7, x1_8, x1_9, x1_10, x1_11, x1_12, x1_13, x1_14, x1_15, e1⟩ := len16 (show f_to_sip.length = 16 from (h.1.2).len)
 subst e0
 subst e1
 rfl
theorem in_put_to {o : InsV} (h : IsIn o) {z : DstV} (hz : IsDv z) : put (inC o) 0 (dvC z) = some (inC { o with to := z }) := by
 obtain ⟨⟨f_to_dip, f_to_dbits, f_to_sip, f_to_sbits, f_to_rt⟩, f_nb, ⟨f_own_seq, f_own_met⟩, f_btn, f_til⟩ := o
 obtain ⟨x0_0, x0_1, x0_2, x0_3, x0_4, x0_5, x0_6, x0_7, x0_8, x0_9, x0_10, x0_11, x0_12, x0_13, x0_14, x0_15, e0⟩ := len16 (show f_to_dip.length = 16 from (h.1.1).len)
 obtain ⟨x1_0, x1_1, x1_2, x1_3, x1_4, x1_5, x1_6, x1_7, x1_8, x1_9, x1_10, x1_11, x1_12, x1_13, x1_14, x1_15, e1⟩ := len16 (show f_to_sip.length = 16 from (h.1.2).len)
 subst e0
 subst e1
 obtain ⟨z_dip, z_dbits, z_sip, z_sbits, z_rt⟩ := z
 obtain ⟨y0_0, y0_1, y0_2, y0_3, y0_4, y0_5, y0_6, y0_7, y0_8, y0_9, y0_10, y0_11, y0_12, y0_13, y0_14, y0_15, g0⟩ := len16 (show z_dip.length = 16 from (hz.1).len)
 obtain ⟨y1_0, y1_1, y1_2, y1_3, y1_4, y1_5, y1_6, y1_7, y1_8, y1_9, y1_10, y1_11, y1_12, y1_13, y1_14, y1_15, g1⟩ := len16 (show z_sip.length = 16 from (hz.2).len)
 subst g0
 subst g1
 rfl
theorem in_nb {o : InsV} (h : IsIn o) : nth (inC o) 35 = some (.int .u64 o.nb) := by
 obtain ⟨⟨f_to_dip, f_to_dbits, f_to_sip, f_to_sbits, f_to_rt⟩, f_nb, ⟨f_own_seq, f_own_met⟩, f_btn, f_til⟩ := o
 obtain ⟨x0_0, x0_1, x0_2, x0_3, x0_4, x0_5, x0_6, x0_7, x0_8, x0_9, x0_10, x0_11, x0_12, x0_13, x0_14, x0_15, e0⟩ := len16 (show f_to_dip.length = 16 from (h.1.1).len)
 obtain ⟨x1_0, x1_1, x1_2, x1_3, x1_4, x1_5, x1_6, x1_7, x1_8, x1_9, x1_10, x1_11, x1_12, x1_13, x1_14, x1_15, e1⟩ := len16 (show f_to_sip.length = 16 from (h.1.2).len)
 subst e0
 subst e1
 rfl
theorem in_put_nb {o : InsV} (h : IsIn o) (z : Int) : put (inC o) 35 [.int .u64 z] = some (inC { o with nb := z }) := by
 obtain ⟨⟨f_to_dip, f_to_dbits, f_to_sip, f_to_sbits, f_to_rt⟩, f_nb, ⟨f_own_seq, f_own_met⟩, f_btn, f_til⟩ := o
 obtain ⟨x0_0, x0_1, x0_2, x0_3, x0_4, x0_5, x0_6, x0_7, x0_8, x0_9, x0_10, x0_11, x0_12, x0_13, x0_14, x0_15, e0⟩ := len16 (show f_to_dip.length = 16 from (h.1.1).len)
 obtain ⟨x1_0, x1_1, x1_2, x1_3, x1_4, x1_5, x1_6, x1_7, x1_8, x1_9, x1_10, x1_11, x1_12, x1_13, x1_14, x1_15, e1⟩ := len16 (show f_to_sip.length = 16 from (h.1.2).len)
 subst e0
 subst e1
 rfl
theorem in_own {o : InsV} (h : IsIn o) : seg (inC o) 36 2 = some (diC o.own) := by
 obtain ⟨⟨f_to_dip, f_to_dbits, f_to_sip, f_to_sbits, f_to_rt⟩, f_nb, ⟨f_own_seq, f_own_met⟩, f_btn, f_til⟩ := o
 obtain ⟨x0_0, x0_1, x0_2, x0_3, x0_4, x0_5, x0_6, x0_7, x0_8, x0_9, x0_10, x0_11, x0_12, x0_13, x0_14, x0_15, e0⟩ := len16 (show f_to_dip.length = 16 from (h.1.1).len)
 obtain ⟨x1_0, x1_1, x1_2, x1_3, x1_4, x1_5, x1_6, x1_7, x1_8, x1_9, x1_10, x1_11, x1_12, x1_13, x1_14, x1_15, e1⟩ := len16 (show f_to_sip.length = 16 from (h.1.2).len)
 subst e0
 subst e1
 rfl
theorem in_own_met {o : InsV} (h : IsIn o) : nth (inC o) 37 = some (.int .i64 o.own.met) := by
 obtain ⟨⟨f_to_dip, f_to_dbits, f_to_sip, f_to_sbits, f_to_rt⟩, f_nb, ⟨f_own_seq, f_own_met⟩, f_btn, f_til⟩ := o
 obtain ⟨x0_0, x0_1, x0_2, x0_3, x0_4, x0_5, x0_6, x0_7, x0_8, x0_9, x0_10, x0_11, x0_12, x0_13, x0_14, x0_15, e0⟩ := len16 (show f_to_dip.length = 16 from (h.1.1).len)
 obtain ⟨x1_0, x1_1, x1_2, x1_3, x1_4, x1_5, x1_6, x1_7, x1_8, x1_9, x1_10, x1_11, x1_12, x1_13, x1_14, x1_15, e1⟩ := len16 (show f_to_sip.length = 16 from (h.1.2).len)
 subst e0
 subst e1
 rfl
theorem in_put_own_met {o : InsV} (h : IsIn o) (z : Int) : put (inC o) 37 [.int .i64 z] = some (inC { o with own := { o.own with met := z } }) := by
 obtain ⟨⟨f_to_dip, f_to_dbits, f_to_sip, f_to_sbits, f_to_rt⟩, f_nb, ⟨f_own_seq, f_own_met⟩, f_btn, f_til⟩ := o
 obtain ⟨x0_0, x0_1, x0_2, x0_3, x0_4, x0_5, x0_6, x0_7, x0_8, x0_9, x0_10, x0_11, x0_12, x0_13, x0_14, x0_15, e0⟩ := len16 (show f_to_dip.length = 16 from (h.1.1).len)
 obtain ⟨x1_0, x1_1, x1_2, x1_3, x1_4, x1_5, x1_6, x1_7, x1_8, x1_9, x1_10, x1_11, x1_12, x1_13, x1_14, x1_15, e1⟩ := len16 (show f_to_sip.length = 16 from (h.1.2).len)
 subst e0
 subst e1
 rfl
theorem in_btn {o : InsV} (h : IsIn o) : nth (inC o) 38 = some (.int .i64 o.btn) := by
 obtain ⟨⟨f_to_dip, f_to_dbits, f_to_sip, f_to_sbits, f_to_rt⟩, f_nb, ⟨f_own_seq, f_own_met⟩, f_btn, f_til⟩ := o
 obtain ⟨x0_0, x0_1, x0_2, x0_3, x0_4, x0_5, x0_6, x0_7, x0_8, x0_9, x0_10, x0_11, x0_12, x0_13, x0_14, x0_15, e0⟩ := len16 (show f_to_dip.length = 16 from (h.1.1).len)
 obtain ⟨x1_0, x1_1, x1_2, x1_3, x1_4, x1_5, x1_6, x1_7, x1_8, x1_9, x1_10, x1_11, x1_12, x1_13, x1_14, x1_15, e1⟩ := len16 (show f_to_sip.length = 16 from (h.1.2).len)
 subst e0
 subst e1
 rfl
theorem in_put_btn {o : InsV} (h : IsIn o) (z : Int) : put (inC o) 38 [.int .i64 z] = some (inC { o with btn := z }) := by
 obtain ⟨⟨f_to_dip, f_to_dbits, f_to_sip, f_to_sbits, f_to_rt⟩, f_nb, ⟨f_own_seq, f_own_met⟩, f_btn, f_til⟩ := o
 obtain ⟨x0_0, x0_1, x0_2, x0_3, x0_4, x0_5, x0_6, x0_7, x0_8, x0_9, x0_10, x0_11, x0_12, x0_13, x0_14, x0_15, e0⟩ := len16 (show f_to_dip.length = 16 from (h.1.1).len)
 obtain ⟨x1_0, x1_1, x1_2, x1_3, x1_4, x1_5, x1_6, x1_7, x1_8, x1_9, x1_10, x1_11, x1_12, x1_13, x1_14, x1_15, e1⟩ := len16 (show f_to_sip.length = 16 from (h.1.2).len)
 subst e0
 subst e1
 rfl
theorem in_til {o : InsV} (h : IsIn o) : nth (inC o) 39 = some (.int .i64 o.til) := by
 obtain ⟨⟨f_to_dip, f_to_dbits, f_to_sip, f_to_sbits, f_to_rt⟩, f_nb, ⟨f_own_seq, f_own_met⟩, f_btn, f_til⟩ := o
 obtain ⟨x0_0, x0_1, x0_2, x0_3, x0_4, x0_5, x0_6, x0_7, x0_8, x0_9, x0_10, x0_11, x0_12, x0_13, x0_14, x0_15, e0⟩ := len16 (show f_to_dip.length = 16 from (h.1.1).len)
 obtain ⟨x1_0, x1_1, x1_2, x1_3, x1_4, x1_5, x1_6, x1_7, x1_8, x1_9, x1_10, x1_11, x1_12, x1_13, x1_14, x1_15, e1⟩ := len16 (show f_to_sip.length = 16 from (h.1.2).len)
 subst e0
 subst e1
 rfl
theorem in_put_til {o : InsV} (h : IsIn o) (z : Int) : put (inC o) 39 [.int .i64 z] = some (inC { o with til := z }) := by
 obtain ⟨⟨f_to_dip, f_to_dbits, f_to_sip, f_to_sbits, f_to_rt⟩, f_nb, ⟨f_own_seq, f_own_met⟩, f_btn, f_til⟩ := o
 obtain ⟨x0_0, x0_1, x0_2, x0_3, x0_4, x0_5, x0_6, x0_7, x0_8, x0_9, x0_10, x0_11, x0_12, x0_13, x0_14, x0_15, e0⟩ := len16 (show f_to_dip.length = 16 from (h.1.1).len)
 obtain ⟨x1_0, x1_1, x1_2, x1_3, x1_4, x1_5, x1_6, x1_7, x1_8, x1_9, x1_10, x1_11, x1_12, x1_13, x1_14, x1_15, e1⟩ := len16 (show f_to_sip.length = 16 from (h.1.2).len)
 subst e0
 subst e1
 rfl
theorem in_one (o : InsV) : (inC o).all (·.oneCell') = true := by
 simp [pfC, ipC, inC, dvC, diC, Value.oneCell']
def inZ : List Value := [.int .u8 0, .int .u8 0, .int .u8 0, .int .u8 0, .int .u8 0, .int .u8 0, .int .u8 0, .int .u8 0, .int .u8 0, .int .u8 0, .int .u8 0, .int .u8 0, .int .u8 0, .int .u8 0, .int .u8 0, .int .u8 0, .int .i64 0, .int .u8 0, .int .u8 0, .int .u8 0, .int .u8 0, .int .u8 0, .int .u8 0, .int .u8 0, .int .u8 0, .int .u8 0, .int .u8 0, .int .u8 0, .int .u8 0, .int .u8 0, .int .u8 0, .int .u8 0, .int .u8 0, .int .i64 0, .int .u64 0, .int .u64 0, .int .u16 0, .int .i64 0, .int .i64 0, .int .i64 0]
theorem in_build {o : InsV} (h : IsIn o) : putAll [(0, 35), (35, 1), (36, 2), (38, 1), (39, 1)] inZ [(0, dvC o.to), (1, [.int .u64 o.nb]), (2, diC o.own), (3, [.int .i64 o.btn]), (4, [.int .i64 o.til])] = some (inC o) := by
 obtain ⟨⟨f_to_dip, f_to_dbits, f_to_sip, f_to_sbits, f_to_rt⟩, f_nb, ⟨f_own_seq, f_own_met⟩, f_btn, f_til⟩ := o
 obtain ⟨x0_0, x0_1, x0_2, x0_3, x0_4, x0_5, x0_6, x0_7, x0_8, x0_9, x0_10, x0_11, x0_12, x0_13, x0_14, x0_15, e0⟩ := len16 (show f_to_dip.length = 16 from (h.1.1).len)
 obtain ⟨x1_0, x1_1, x1_2, x1_3, x1_4, x1_5, x1_6, x1_7, x1_8, x1_9, x1_10, x1_11, x1_12, x1_13, x1_14, x1_15, e1⟩ := len16 (show f_to_sip.length = 16 from (h.1.2).len)
 subst e0
 subst e1
 rfl
theorem in_build1 {o : InsV} (h : IsIn o) : putAll (placesL 1 40) (zerosL inZ (1 * 40)) [(0, inC o)] = some (inC o) := by
 obtain ⟨⟨f_to_dip, f_to_dbits, f_to_sip, f_to_sbits, f_to_rt⟩, f_nb, ⟨f_own_seq, f_own_met⟩, f_btn, f_til⟩ := o
 obtain ⟨x0_0, x0_1, x0_2, x0_3, x0_4, x0_5, x0_6, x0_7, x0_8, x0_9, x0_10, x0_11, x0_12, x0_13, x0_14, x0_15, e0⟩ := len16 (show f_to_dip.length = 16 from (h.1.1).len)
 obtain ⟨x1_0, x1_1, x1_2, x1_3, x1_4, x1_5, x1_6, x1_7, x1_8, x1_9, x1_10, x1_11, x1_12, x1_13, x1_14, x1_15, e1⟩ := len16 (show f_to_sip.length = 16 from (h.1.2).len)
 subst e0
 subst e1
 rfl
abbrev insC (l : List InsV) : List Value := encL inC l
theorem ins_len {l : List InsV} (h : ∀ x ∈ l, IsIn x) : ∀ x ∈ l, (inC x).length = 40 := fun x hx => in_len (h x hx)
theorem ins_one {l : List InsV} : (insC l).all (·.oneCell') = true := encL_all fun x _ => in_one x
end Go.Proofs.YtfhkmgcalcfibaaGreat
namespace Go.Proofs.YtfhkmgcalcfibaaGreat
def keyD (d : DstV) : List Int := d.dip ++ (d.dbits :: (d.sip ++ [d.sbits, d.rt]))
def cmpD (a b : DstV) : Int := cmpL (keyD a) (keyD b)
theorem cmpD_self (a : DstV) : cmpD a a = 0 := cmpL_self _
theorem cmpD_anti (a b : DstV) : cmpD b a = - cmpD a b := cmpL_anti _ _
theorem cmpD_trans {a b c : DstV} (h : cmpD a b < 0) (k : cmpD b c < 0) : cmpD a c < 0 := cmpL_lt_trans h k
theorem cmpD_zero {a b : DstV} (ha : IsDv a) (hb : IsDv b) (h : cmpD a b = 0) : a = b := by
 have h1 := cmpL_zero h
 obtain ⟨d1, d2, s1, s2, r⟩ := a
 obtain ⟨e1, e2, t1, t2, q⟩ := b
 simp only [keyD] at h1
 obtain ⟨h2, h3⟩ := List.append_inj h1 (by rw [(show IsIP d1 from ha.1).len, (show IsIP e1 from hb.1).len])
 simp only [List.cons.injEq] at h3
 obtain ⟨h4, h5⟩ := List.append_inj h3.2 (by rw [(show IsIP s1 from ha.2).len, (show IsIP t1 from hb.2).len])
 simp only [List.cons.injEq, and_true] at h5
 rw [h2, h3.1, h4, h5.1, h5.2]
def cmpI (a b : Int) : Int := if a < b then -1 else if b < a then 1 else 0
def orI (a b : Int) : Int := if a = 0 then b else a
theorem cmpL_cons (x y : Int) (xs ys : List Int) : cmpL (x :: xs) (y :: ys) = orI (cmpI x y) (cmpL xs ys) := by
 simp only [cmpL, orI, cmpI]
 split
 ·rfl
 ·split <;> rfl
theorem cmpL_two : ∀ (xs ys us vs : List Int), xs.length = ys.length → cmpL (xs ++ us) (ys ++ vs) = orI (cmpL xs ys) (cmpL us vs)
 | [], [], _, _, _ => rfl
 | x :: xs, y :: ys, us, vs, h => by
  rw [List.cons_append, List.cons_append, cmpL_cons, cmpL_cons, cmpL_two xs ys us vs (by simpa using h)]
  simp only [orI]
  split <;> simp_all
 | [], _ :: _, _, _, h => by cases h
 | _ :: _, [], _, _, h => by cases h
theorem cmpD_or {a b : DstV} (ha : IsDv a) (hb : IsDv b) : cmpD a b = orI (cmpL a.dip b.dip) (orI (cmpI a.dbits b.dbits) (orI (cmpL a.sip b.sip) (orI (cmpI a.sbits b.sbits) (cmpI a.rt b.rt)))) := by
 unfold cmpD keyD
 rw [cmpL_two _ _ _ _ (by rw [ha.1.len, hb.1.len]), cmpL_cons, cmpL_two _ _ _ _ (by rw [ha.2.len, hb.2.len]), cmpL_cons, cmpL_cons]
 congr 4
 simp only [cmpL, orI, cmpI]
 split <;> simp_all
section asc
variable {α : Type} (key : α → DstV)
def AscK (l : List α) : Prop := l.Pairwise fun a b => cmpD (key a) (key b) < 0
theorem ascK_unique : ∀ (az bs : List α), AscK key az → AscK key bs → (∀ x, x ∈ az ↔ x ∈ bs) → az = bs
 | [], bs, _, _, h => by
  cases bs with
  | nil => rfl
  | cons b bs => have := (h b).2 (by simp);cases this
 | a :: az, [], _, _, h => by have := (h a).1 (by simp);cases this
 | a :: az, b :: bs, ha, hb, h => by
  obtain ⟨ha1, ha2⟩ := List.pairwise_cons.1 ha
  obtain ⟨hb1, hb2⟩ := List.pairwise_cons.1 hb
  have hab : a = b := by
   rcases List.mem_cons.1 ((h a).1 (by simp)) with h1 | h1
   ·exact h1
   ·rcases List.mem_cons.1 ((h b).2 (by simp)) with h2 | h2
    ·exact h2.symm
    ·have h3 := hb1 a h1
     have h4 := ha1 b h2
     have := cmpD_anti (key a) (key b)
     omega
  subst hab
  have hne : ∀ x, cmpD (key a) (key x) < 0 → x ≠ a := fun x hx e => by rw [e, cmpD_self] at hx;omega
  rw [ascK_unique az bs ha2 hb2 fun x => ⟨fun hx => by
   rcases List.mem_cons.1 ((h x).1 (by simp [hx])) with h1 | h1
   ·exact absurd h1 (hne x (ha1 x hx))
   ·exact h1, fun hx => by
   rcases List.mem_cons.1 ((h x).2 (by simp [hx])) with h1 | h1
   ·exact absurd h1 (hne x (hb1 x hx))
   ·exact h1⟩]
variable {key}
theorem AscK.sub {l m : List α} (h : AscK key l) (hs : m.Sublist l) : AscK key m := List.Pairwise.sublist hs h
theorem AscK.filter {l : List α} (h : AscK key l) (f : α → Bool) : AscK key (l.filter f) := h.sub List.filter_sublist
end asc
def inf : Int := 65535
def getO (l : List AdvV) (t : DstV) : Option DisV := (l.find? fun a => decide (a.to = t)).map (·.own)
abbrev AscA (l : List AdvV) : Prop := AscK AdvV.to l
def Lo (d : DstV) (l : List AdvV) : Prop := ∀ x ∈ l, cmpD d x.to < 0
theorem Lo.trans {d e : DstV} {l : List AdvV} (h : Lo e l) (k : cmpD d e < 0) : Lo d l := fun x hx => cmpD_trans k (h x hx)
theorem getO_cons (a : AdvV) (l : List AdvV) (t : DstV) : getO (a :: l) t = if a.to = t then some a.own else getO l t := by
 unfold getO
 rw [List.find?_cons]
 by_cases h : a.to = t
 ·simp [h]
 ·simp [h]
def validT (d : DstV) : Bool := validP d.dip d.dbits && validP d.sip d.sbits && !decide (d.rt = 0)
def validM (m : Int) : Bool := decide (0 ≤ m) && decide (m ≤ 65535)
def adv1 (l : List AdvV) (i : Nat) : Bool := match l[i]? with
 | none => true
 | some a => validT a.to && validM a.own.met && (decide (i = 0) || match l[i - 1]? with
  | none => true
  | some b => decide (cmpD b.to a.to < 0))
def validAs (l : List AdvV) : Bool := decide (l.length ≤ 520) && (List.range l.length).all (adv1 l)
theorem validAs_iff {l : List AdvV} : validAs l = true ↔ l.length ≤ 520 ∧ (∀ a ∈ l, validT a.to = true ∧ validM a.own.met = true) ∧ AscA l := by
 unfold validAs
 rw [Bool.and_eq_true, decide_eq_true_eq, List.all_eq_true]
 constructor
 ·rintro ⟨h1, h2⟩
  have hat : ∀ i (hi : i < l.length), (validT l[i].to = true ∧ validM l[i].own.met = true) ∧ (0 < i → ∀ h : i - 1 < l.length, cmpD l[i - 1].to l[i].to < 0) := by
   intro i hi
   have := h2 i (List.mem_range.2 hi)
   simp only [adv1, List.getElem?_eq_getElem hi, Bool.and_eq_true, Bool.or_eq_true, decide_eq_true_eq] at this
   refine ⟨this.1, fun h0 h => ?_⟩
   rcases this.2 with h3 | h3
   ·omega
   ·rw [List.getElem?_eq_getElem h] at h3
    simpa using h3
  refine ⟨h1, fun a ha => ?_, ?_⟩
  ·obtain ⟨i, hi, rfl⟩ := List.mem_iff_getElem.1 ha
   exact (hat i hi).1
  ·refine List.pairwise_iff_getElem.2 ?_
   intro i j hi hj hij
   have key : ∀ n, ∀ (hn : i + 1 + n < l.length), cmpD l[i].to (l[i + 1 + n]'hn).to < 0 := by
    intro n
    induction n with
    | zero => intro hn;exact (hat (i + 1) hn).2 (by omega) (by omega)
    | succ n ih =>
     intro hn
     have h3 := (hat (i + 1 + (n + 1)) hn).2 (by omega) (by omega)
     exact cmpD_trans (ih (by omega)) h3
   have := key (j - i - 1) (by omega)
   simpa [show i + 1 + (j - i - 1) = j by omega] using this
 ·rintro ⟨h1, h2, h3⟩
  refine ⟨h1, fun i hi => ?_⟩
  have hi' := List.mem_range.1 hi
  replace h3 := List.pairwise_iff_getElem.1 h3
  have h4 := h2 l[i] (List.getElem_mem hi')
  simp only [adv1, List.getElem?_eq_getElem hi', h4.1, h4.2, Bool.and_self, Bool.true_and, Bool.or_eq_true, decide_eq_true_eq]
  by_cases h0 : i = 0
  ·exact .inl h0
  ·right
   rw [List.getElem?_eq_getElem (show i - 1 < l.length by omega)]
   simpa using h3 (i - 1) i (by omega) hi' (by omega)
end Go.Proofs.YtfhkmgcalcfibaaGreat
namespace Go.Proofs.YtfhkmgcalcfibaaGreat
open Go.RowKit
attribute [local irreducible] OpTo wpListIn Code.wpIn MW Cal
theorem uisTime_c (t : Int) (W : World) : Cal Tryz.prog 196 [.int .i64 t].toArray W fun v w' => v = .bool (isTime t) ∧ Ext [] W w' := by
 unfold isTime
 by_cases h : 0 ≤ t
 ·rw [dqT h, Bool.true_and]
  refine fn_ofM (n := 9) [] Tryz.func196 rfl rfl rfl ?_
  intro a w F M hwW
  refine c_seq (c_region ?_)
  refine sD F (o_assign (F.e rfl) ?_);clear F a;intro a F
  with_reducible refine l_nil (q_then (c_seq (c_region ?_)))
  refine sD F (o_move (F.e rfl) fun a F => sD F (o_geqT (F.e rfl) (F.e rfl) (by omega) fun a F => sD F (o_move (F.e rfl) fun a F => sG F (o_move (F.e rfl) fun a F => sG F (o_leq (F.e rfl) (F.e rfl) fun a F => sD F (o_pickT (F.e rfl) (F.e rfl) fun a F => sD F (o_assign (F.e rfl) ?_)))))));iterate 7 clear F a
  intro a F
  with_reducible refine l_nil (q_then (c_ret ?_))
  exact p_ret F rfl (.cons (.tmp (F.e rfl)) .nil) (⟨rfl, M.ext⟩)
 ·rw [dqF h, Bool.false_and]
  refine fn_ofM (n := 9) [] Tryz.func196 rfl rfl rfl ?_
  intro a w F M hwW
  refine c_seq (c_region ?_)
  refine sD F (o_assign (F.e rfl) ?_);clear F a;intro a F
  with_reducible refine l_nil (q_then (c_seq (c_region ?_)))
  refine sD F (o_move (F.e rfl) fun a F => sD F (o_geqF (F.e rfl) (F.e rfl) (by omega) fun a F => sD F (o_move (F.e rfl) fun a F => sO F fun a F => sO F fun a F => sD F (o_pickF (F.e rfl) (F.e rfl) fun a F => sD F (o_assign (F.e rfl) ?_)))));iterate 7 clear F a
  intro a F
  with_reducible refine l_nil (q_then (c_ret ?_))
  exact p_ret F rfl (.cons (.tmp (F.e rfl)) .nil) (⟨rfl, M.ext⟩)
theorem mvalid_c (t : Int) (W : World) : Cal Tryz.prog 170 [.int .i64 t].toArray W fun v w' => v = .bool (validM t) ∧ Ext [] W w' := by
 unfold validM
 by_cases h : 0 ≤ t
 ·rw [dqT h, Bool.true_and]
  refine fn_ofM (n := 9) [] Tryz.func170 rfl rfl rfl ?_
  intro a w F M hwW
  refine c_seq (c_region ?_)
  refine sD F (o_assign (F.e rfl) ?_);clear F a;intro a F
  with_reducible refine l_nil (q_then (c_seq (c_region ?_)))
  refine sD F (o_move (F.e rfl) fun a F => sD F (o_geqT (F.e rfl) (F.e rfl) (by omega) fun a F => sD F (o_move (F.e rfl) fun a F => sG F (o_move (F.e rfl) fun a F => sG F (o_leq (F.e rfl) (F.e rfl) fun a F => sD F (o_pickT (F.e rfl) (F.e rfl) fun a F => sD F (o_assign (F.e rfl) ?_)))))));iterate 7 clear F a
  intro a F
  with_reducible refine l_nil (q_then (c_ret ?_))
  exact p_ret F rfl (.cons (.tmp (F.e rfl)) .nil) (⟨rfl, M.ext⟩)
 ·rw [dqF h, Bool.false_and]
  refine fn_ofM (n := 9) [] Tryz.func170 rfl rfl rfl ?_
  intro a w F M hwW
  refine c_seq (c_region ?_)
  refine sD F (o_assign (F.e rfl) ?_);clear F a;intro a F
  with_reducible refine l_nil (q_then (c_seq (c_region ?_)))
  refine sD F (o_move (F.e rfl) fun a F => sD F (o_geqF (F.e rfl) (F.e rfl) (by omega) fun a F => sD F (o_move (F.e rfl) fun a F => sO F fun a F => sO F fun a F => sD F (o_pickF (F.e rfl) (F.e rfl) fun a F => sD F (o_assign (F.e rfl) ?_)))));iterate 7 clear F a
  intro a F
  with_reducible refine l_nil (q_then (c_ret ?_))
  exact p_ret F rfl (.cons (.tmp (F.e rfl)) .nil) (⟨rfl, M.ext⟩)
theorem rmvalid_c (t : Int) (W : World) : Cal Tryz.prog 225 [.int .i64 t].toArray W fun v w' => v = .bool (validM t) ∧ Ext [] W w' := by
 unfold validM
 by_cases h : 0 ≤ t
 ·rw [dqT h, Bool.true_and]
  refine fn_ofM (n := 9) [] Tryz.func225 rfl rfl rfl ?_
  intro a w F M hwW
  refine c_seq (c_region ?_)
  refine sD F (o_assign (F.e rfl) ?_);clear F a;intro a F
  with_reducible refine l_nil (q_then (c_seq (c_region ?_)))
  refine sD F (o_move (F.e rfl) fun a F => sD F (o_geqT (F.e rfl) (F.e rfl) (by omega) fun a F => sD F (o_move (F.e rfl) fun a F => sG F (o_move (F.e rfl) fun a F => sG F (o_leq (F.e rfl) (F.e rfl) fun a F => sD F (o_pickT (F.e rfl) (F.e rfl) fun a F => sD F (o_assign (F.e rfl) ?_)))))));iterate 7 clear F a
  intro a F
  with_reducible refine l_nil (q_then (c_ret ?_))
  exact p_ret F rfl (.cons (.tmp (F.e rfl)) .nil) (⟨rfl, M.ext⟩)
 ·rw [dqF h, Bool.false_and]
  refine fn_ofM (n := 9) [] Tryz.func225 rfl rfl rfl ?_
  intro a w F M hwW
  refine c_seq (c_region ?_)
  refine sD F (o_assign (F.e rfl) ?_);clear F a;intro a F
  with_reducible refine l_nil (q_then (c_seq (c_region ?_)))
  refine sD F (o_move (F.e rfl) fun a F => sD F (o_geqF (F.e rfl) (F.e rfl) (by omega) fun a F => sD F (o_move (F.e rfl) fun a F => sO F fun a F => sO F fun a F => sD F (o_pickF (F.e rfl) (F.e rfl) fun a F => sD F (o_assign (F.e rfl) ?_)))));iterate 7 clear F a
  intro a F
  with_reducible refine l_nil (q_then (c_ret ?_))
  exact p_ret F rfl (.cons (.tmp (F.e rfl)) .nil) (⟨rfl, M.ext⟩)
theorem rdvalid_c (d : DisV) (W : World) : Cal Tryz.prog 167 [.agg (diC d).toArray].toArray W fun v w' => v = .bool (validM d.met) ∧ Ext [] W w' := by
 have e1 := di_met (o := d) trivial
 refine fn_ofM (n := 6) [] Tryz.func167 rfl rfl rfl ?_
 intro a w F M hwW
 refine c_seq (c_region ?_)
 (refine sD F (o_box M (F.e rfl) rfl ?_);clear F M;intro b1 w M a F)
 refine sD F (o_assign (F.e rfl) ?_);clear F a;intro a F
 with_reducible refine l_nil (q_then (c_seq (c_region ?_)))
 refine sD F (o_fieldAddr (F.e rfl) fun a F => sD F (o_load1 M (F.e rfl) (by repeat constructor) ‹_› ?_));iterate 2 clear F a
 intro a F
 (refine sD F (o_call (F.e rfl) (F.evs rfl) (Cal.mono (rmvalid_c d.met _) ?_));clear F;clear a;rintro _ w ⟨rfl, hE⟩ a F;replace M := M.later hE;clear hE)
 refine sD F (o_assign (F.e rfl) ?_);clear F a;intro a F
 with_reducible refine l_nil (q_then (c_ret ?_))
 exact p_ret F rfl (.cons (.tmp (F.e rfl)) .nil) (⟨rfl, M.ext⟩)
theorem validTo_c (d : DstV) (hd : IsDv d) (W : World) : Cal Tryz.prog 125 [.agg (dvC d).toArray].toArray W fun v w' => v = .bool (validT d) ∧ Ext [] W w' := by
 have e1 := dv_dst hd
 have e2 := dv_src hd
 have e3 := dv_rt hd
 unfold validT
 refine fn_ofM (n := 16) [] Tryz.func125 rfl rfl rfl ?_
 intro a w F M hwW
 refine c_seq (c_region ?_)
 (refine sD F (o_box M (F.e rfl) rfl ?_);clear F M;intro b1 w M a F)
 refine sD F (o_assign (F.e rfl) ?_);clear F a;intro a F
 with_reducible refine l_nil (q_then (c_seq (c_region ?_)))
 refine sD F (o_fieldAddr (F.e rfl) fun a F => sD F (o_loadA M (F.e rfl) (by repeat constructor) ‹_› ?_));iterate 2 clear F a
 intro a F
 (refine sD F (o_call (F.e rfl) (F.evs rfl) (Cal.mono (validPrefix_c d.dip d.dbits hd.1.len _) ?_));clear F;clear a;rintro _ w ⟨rfl, hE⟩ a F;replace M := M.later hE;clear hE)
 cases h1 : validP d.dip d.dbits
 ·rw [h1] at F
  refine sD F (o_move (F.e rfl) fun a F => sO F fun a F => sO F fun a F => sO F fun a F => sD F (o_pickF (F.e rfl) (F.e rfl) fun a F => sD F (o_move (F.e rfl) fun a F => sO F fun a F => sO F fun a F => sO F fun a F => sD F (o_pickF (F.e rfl) (F.e rfl) fun a F => sD F (o_assign (F.e rfl) ?_)))));iterate 11 clear F a
  intro a F
  with_reducible refine l_nil (q_then (c_ret ?_))
  exact p_ret F rfl (.cons (.tmp (F.e rfl)) .nil) (⟨rfl, M.ext⟩)
 ·rw [h1] at F
  refine sD F (o_move (F.e rfl) fun a F => sG F (o_fieldAddr (F.e rfl) fun a F => sG F (o_loadA M (F.e rfl) (by repeat constructor) ‹_› ?_)));iterate 3 clear F a
  intro a F
  (refine sG F (o_call (F.e rfl) (F.evs rfl) (Cal.mono (validPrefix_c d.sip d.sbits hd.2.len _) ?_));clear F;clear a;rintro _ w ⟨rfl, hE⟩ a F;replace M := M.later hE;clear hE)
  cases h2 : validP d.sip d.sbits
  ·rw [h2] at F
   refine sD F (o_pickT (F.e rfl) (F.e rfl) fun a F => sD F (o_move (F.e rfl) fun a F => sO F fun a F => sO F fun a F => sO F fun a F => sD F (o_pickF (F.e rfl) (F.e rfl) fun a F => sD F (o_assign (F.e rfl) ?_))));iterate 7 clear F a
   intro a F
   with_reducible refine l_nil (q_then (c_ret ?_))
   exact p_ret F rfl (.cons (.tmp (F.e rfl)) .nil) (⟨rfl, M.ext⟩)
  ·rw [h2] at F
   by_cases h3 : d.rt = 0
   ·rw [dqT h3]
    refine sD F (o_pickT (F.e rfl) (F.e rfl) fun a F => sD F (o_move (F.e rfl) fun a F => sG F (o_fieldAddr (F.e rfl) fun a F => sG F (o_load1 M (F.e rfl) (by repeat constructor) ‹_› ?_))));iterate 4 clear F a
    intro a F
    refine sG F (o_neqF (F.e rfl) (F.e rfl) (by omega) fun a F => sD F (o_pickT (F.e rfl) (F.e rfl) fun a F => sD F (o_assign (F.e rfl) ?_)));iterate 3 clear F a
    intro a F
    with_reducible refine l_nil (q_then (c_ret ?_))
    exact p_ret F rfl (.cons (.tmp (F.e rfl)) .nil) (⟨rfl, M.ext⟩)
   ·rw [dqF h3]
    refine sD F (o_pickT (F.e rfl) (F.e rfl) fun a F => sD F (o_move (F.e rfl) fun a F => sG F (o_fieldAddr (F.e rfl) fun a F => sG F (o_load1 M (F.e rfl) (by repeat constructor) ‹_› ?_))));iterate 4 clear F a
    intro a F
    refine sG F (o_neqT (F.e rfl) (F.e rfl) (by omega) fun a F => sD F (o_pickT (F.e rfl) (F.e rfl) fun a F => sD F (o_assign (F.e rfl) ?_)));iterate 3 clear F a
    intro a F
    with_reducible refine l_nil (q_then (c_ret ?_))
    exact p_ret F rfl (.cons (.tmp (F.e rfl)) .nil) (⟨rfl, M.ext⟩)
theorem rvalidTo_c (d : DstV) (hd : IsDv d) (W : World) : Cal Tryz.prog 73 [.agg (dvC d).toArray].toArray W fun v w' => v = .bool (validT d) ∧ Ext [] W w' := by
 have e1 := dv_dst hd
 have e2 := dv_src hd
 have e3 := dv_rt hd
 unfold validT
 refine fn_ofM (n := 16) [] Tryz.func73 rfl rfl rfl ?_
 intro a w F M hwW
 refine c_seq (c_region ?_)
 (refine sD F (o_box M (F.e rfl) rfl ?_);clear F M;intro b1 w M a F)
 refine sD F (o_assign (F.e rfl) ?_);clear F a;intro a F
 with_reducible refine l_nil (q_then (c_seq (c_region ?_)))
 refine sD F (o_fieldAddr (F.e rfl) fun a F => sD F (o_loadA M (F.e rfl) (by repeat constructor) ‹_› ?_));iterate 2 clear F a
 intro a F
 (refine sD F (o_call (F.e rfl) (F.evs rfl) (Cal.mono (rvalidPrefix_c d.dip d.dbits hd.1 _) ?_));clear F;clear a;rintro _ w ⟨rfl, hE⟩ a F;replace M := M.later hE;clear hE)
 cases h1 : validP d.dip d.dbits
 ·rw [h1] at F
  refine sD F (o_move (F.e rfl) fun a F => sO F fun a F => sO F fun a F => sO F fun a F => sD F (o_pickF (F.e rfl) (F.e rfl) fun a F => sD F (o_move (F.e rfl) fun a F => sO F fun a F => sO F fun a F => sO F fun a F => sD F (o_pickF (F.e rfl) (F.e rfl) fun a F => sD F (o_assign (F.e rfl) ?_)))));iterate 11 clear F a
  intro a F
  with_reducible refine l_nil (q_then (c_ret ?_))
  exact p_ret F rfl (.cons (.tmp (F.e rfl)) .nil) (⟨rfl, M.ext⟩)
 ·rw [h1] at F
  refine sD F (o_move (F.e rfl) fun a F => sG F (o_fieldAddr (F.e rfl) fun a F => sG F (o_loadA M (F.e rfl) (by repeat constructor) ‹_› ?_)));iterate 3 clear F a
  intro a F
  (refine sG F (o_call (F.e rfl) (F.evs rfl) (Cal.mono (rvalidPrefix_c d.sip d.sbits hd.2 _) ?_));clear F;clear a;rintro _ w ⟨rfl, hE⟩ a F;replace M := M.later hE;clear hE)
  cases h2 : validP d.sip d.sbits
  ·rw [h2] at F
   refine sD F (o_pickT (F.e rfl) (F.e rfl) fun a F => sD F (o_move (F.e rfl) fun a F => sO F fun a F => sO F fun a F => sO F fun a F => sD F (o_pickF (F.e rfl) (F.e rfl) fun a F => sD F (o_assign (F.e rfl) ?_))));iterate 7 clear F a
   intro a F
   with_reducible refine l_nil (q_then (c_ret ?_))
   exact p_ret F rfl (.cons (.tmp (F.e rfl)) .nil) (⟨rfl, M.ext⟩)
  ·rw [h2] at F
   by_cases h3 : d.rt = 0
   ·rw [dqT h3]
    refine sD F (o_pickT (F.e rfl) (F.e rfl) fun a F => sD F (o_move (F.e rfl) fun a F => sG F (o_fieldAddr (F.e rfl) fun a F => sG F (o_load1 M (F.e rfl) (by repeat constructor) ‹_› ?_))));iterate 4 clear F a
    intro a F
    refine sG F (o_neqF (F.e rfl) (F.e rfl) (by omega) fun a F => sD F (o_pickT (F.e rfl) (F.e rfl) fun a F => sD F (o_assign (F.e rfl) ?_)));iterate 3 clear F a
    intro a F
    with_reducible refine l_nil (q_then (c_ret ?_))
    exact p_ret F rfl (.cons (.tmp (F.e rfl)) .nil) (⟨rfl, M.ext⟩)
   ·rw [dqF h3]
    refine sD F (o_pickT (F.e rfl) (F.e rfl) fun a F => sD F (o_move (F.e rfl) fun a F => sG F (o_fieldAddr (F.e rfl) fun a F => sG F (o_load1 M (F.e rfl) (by repeat constructor) ‹_› ?_))));iterate 4 clear F a
    intro a F
    refine sG F (o_neqT (F.e rfl) (F.e rfl) (by omega) fun a F => sD F (o_pickT (F.e rfl) (F.e rfl) fun a F => sD F (o_assign (F.e rfl) ?_)));iterate 3 clear F a
    intro a F
    with_reducible refine l_nil (q_then (c_ret ?_))
    exact p_ret F rfl (.cons (.tmp (F.e rfl)) .nil) (⟨rfl, M.ext⟩)
theorem scompare_c (x y : DstV) (ha : IsDv x) (hb : IsDv y) (W : World) : Cal Tryz.prog 87 [.agg (dvC x).toArray, .agg (dvC y).toArray].toArray W fun v w' => v = .int .i64 (cmpD x y) ∧ Ext [] W w' := by
 have a1 := dv_dip ha
 have a2 := dv_dbits ha
 have a3 := dv_sip ha
 have a4 := dv_sbits ha
 have a5 := dv_rt ha
 have c1 := dv_dip hb
 have c2 := dv_dbits hb
 have c3 := dv_sip hb
 have c4 := dv_sbits hb
 have c5 := dv_rt hb
 have hr : cmpD x y = orV [cmpL x.dip y.dip, cmpV x.dbits y.dbits, cmpL x.sip y.sip, cmpV x.sbits y.sbits, cmpV x.rt y.rt] := by
  rw [cmpD_or ha hb]
  simp only [orV, orI]
  repeat' split
  all_goals first | rfl | (rename_i h;exact h) | (rename_i h;exact h.symm) | simp_all [cmpI, cmpV]
 rw [hr]
 refine fn_ofM (n := 40) [] Tryz.func87 rfl rfl rfl ?_
 intro a w F M hwW
 refine c_seq (c_region ?_)
 (refine sD F (o_box M (F.e rfl) rfl ?_);clear F M;intro b2 w M a F)
 (refine sD F (o_box M (F.e rfl) rfl ?_);clear F M;intro b3 w M a F)
 refine sD F (o_assign (F.e rfl) ?_);clear F a;intro a F
 with_reducible refine l_nil (q_then (c_seq ?_))
 replace F := F.only [2, 3] rfl
 refine c_draw 33 F (by kernel_rfl) ?_
 intro w1 hE hok
 have M1 := M.later hE
 refine mK hok rfl rfl (fun a' w' F' E' => o_fieldAddr (F'.e rfl) ⟨Ext.refl _ _, rfl⟩) (mK hok rfl rfl (fun a' w' F' E' => o_fieldAddr (F'.e rfl) ⟨Ext.refl _ _, rfl⟩) ?_)
 (refine mK hok rfl rfl (fun a' w' F' E' => o_arrAll (F'.e rfl) ⟨Ext.refl _ _, rfl⟩) ?_)
 refine mK hok rfl rfl (fun a' w' F' E' => o_fieldAddr (F'.e rfl) ⟨Ext.refl _ _, rfl⟩) (mK hok rfl rfl (fun a' w' F' E' => o_fieldAddr (F'.e rfl) ⟨Ext.refl _ _, rfl⟩) ?_)
 (refine mK hok rfl rfl (fun a' w' F' E' => o_arrAll (F'.e rfl) ⟨Ext.refl _ _, rfl⟩) ?_)
 skip
 (refine mK hok rfl rfl (fun a' w' F' E' => o_call (F'.e rfl) (F'.evs rfl) (Cal.mono (bytesCompare_c _ (n := 16) (m := 16) ⟨_, _, rfl, by omega, by simp, (ipC_len ha.1.len), fun _ => ⟨b2, 0, dvC x, _, _, rfl, (M1.later E').heap (.there .here), a1⟩⟩ ⟨_, _, rfl, by omega, by simp, (ipC_len hb.1.len), fun _ => ⟨b3, 0, dvC y, _, _, rfl, (M1.later E').heap .here, c1⟩⟩ ha.1.bd hb.1.bd) fun _ _ hh => ⟨hh.2, hh.1⟩)) ?_)
 refine mK hok rfl rfl (fun a' w' F' E' => o_fieldAddr (F'.e rfl) ⟨Ext.refl _ _, rfl⟩) (mK hok rfl rfl (fun a' w' F' E' => o_fieldAddr (F'.e rfl) ⟨Ext.refl _ _, rfl⟩) (mK hok rfl rfl (fun a' w' F' E' => o_load1 (M1.later E') (F'.e rfl) (by repeat constructor) ‹_› ⟨Ext.refl _ _, rfl⟩) ?_))
 refine mK hok rfl rfl (fun a' w' F' E' => o_fieldAddr (F'.e rfl) ⟨Ext.refl _ _, rfl⟩) (mK hok rfl rfl (fun a' w' F' E' => o_fieldAddr (F'.e rfl) ⟨Ext.refl _ _, rfl⟩) (mK hok rfl rfl (fun a' w' F' E' => o_load1 (M1.later E') (F'.e rfl) (by repeat constructor) ‹_› ⟨Ext.refl _ _, rfl⟩) ?_))
 (refine mK hok rfl rfl (fun a' w' F' E' => o_call (F'.e rfl) (F'.evs rfl) (Cal.mono (cmp_int x.dbits y.dbits _) fun _ _ hh => ⟨hh.2, hh.1⟩)) ?_)
 refine mK hok rfl rfl (fun a' w' F' E' => o_fieldAddr (F'.e rfl) ⟨Ext.refl _ _, rfl⟩) (mK hok rfl rfl (fun a' w' F' E' => o_fieldAddr (F'.e rfl) ⟨Ext.refl _ _, rfl⟩) ?_)
 (refine mK hok rfl rfl (fun a' w' F' E' => o_arrAll (F'.e rfl) ⟨Ext.refl _ _, rfl⟩) ?_)
 refine mK hok rfl rfl (fun a' w' F' E' => o_fieldAddr (F'.e rfl) ⟨Ext.refl _ _, rfl⟩) (mK hok rfl rfl (fun a' w' F' E' => o_fieldAddr (F'.e rfl) ⟨Ext.refl _ _, rfl⟩) ?_)
 (refine mK hok rfl rfl (fun a' w' F' E' => o_arrAll (F'.e rfl) ⟨Ext.refl _ _, rfl⟩) ?_)
 skip
 (refine mK hok rfl rfl (fun a' w' F' E' => o_call (F'.e rfl) (F'.evs rfl) (Cal.mono (bytesCompare_c _ (n := 16) (m := 16) ⟨_, _, rfl, by omega, by simp, (ipC_len ha.2.len), fun _ => ⟨b2, 17, dvC x, _, _, rfl, (M1.later E').heap (.there .here), a3⟩⟩ ⟨_, _, rfl, by omega, by simp, (ipC_len hb.2.len), fun _ => ⟨b3, 17, dvC y, _, _, rfl, (M1.later E').heap .here, c3⟩⟩ ha.2.bd hb.2.bd) fun _ _ hh => ⟨hh.2, hh.1⟩)) ?_)
 refine mK hok rfl rfl (fun a' w' F' E' => o_fieldAddr (F'.e rfl) ⟨Ext.refl _ _, rfl⟩) (mK hok rfl rfl (fun a' w' F' E' => o_fieldAddr (F'.e rfl) ⟨Ext.refl _ _, rfl⟩) (mK hok rfl rfl (fun a' w' F' E' => o_load1 (M1.later E') (F'.e rfl) (by repeat constructor) ‹_› ⟨Ext.refl _ _, rfl⟩) ?_))
 refine mK hok rfl rfl (fun a' w' F' E' => o_fieldAddr (F'.e rfl) ⟨Ext.refl _ _, rfl⟩) (mK hok rfl rfl (fun a' w' F' E' => o_fieldAddr (F'.e rfl) ⟨Ext.refl _ _, rfl⟩) (mK hok rfl rfl (fun a' w' F' E' => o_load1 (M1.later E') (F'.e rfl) (by repeat constructor) ‹_› ⟨Ext.refl _ _, rfl⟩) ?_))
 (refine mK hok rfl rfl (fun a' w' F' E' => o_call (F'.e rfl) (F'.evs rfl) (Cal.mono (cmp_int x.sbits y.sbits _) fun _ _ hh => ⟨hh.2, hh.1⟩)) ?_)
 refine mK hok rfl rfl (fun a' w' F' E' => o_fieldAddr (F'.e rfl) ⟨Ext.refl _ _, rfl⟩) (mK hok rfl rfl (fun a' w' F' E' => o_load1 (M1.later E') (F'.e rfl) (by repeat constructor) ‹_› ⟨Ext.refl _ _, rfl⟩) ?_)
 refine mK hok rfl rfl (fun a' w' F' E' => o_fieldAddr (F'.e rfl) ⟨Ext.refl _ _, rfl⟩) (mK hok rfl rfl (fun a' w' F' E' => o_load1 (M1.later E') (F'.e rfl) (by repeat constructor) ‹_› ⟨Ext.refl _ _, rfl⟩) ?_)
 (refine mK hok rfl rfl (fun a' w' F' E' => o_call (F'.e rfl) (F'.evs rfl) (Cal.mono (cmp_eui x.rt y.rt _) fun _ _ hh => ⟨hh.2, hh.1⟩)) ?_)
 skip
 (refine mDone rfl rfl ?_;clear F M;intro a w F hE2 hX hTT hDD hPP;have M := M1.later hE2;clear M1;clear hX;clear hE2;clear hok;clear hE;clear hTT;clear hDD;clear hPP;(try dsimp only at F))
 (refine sD F (o_buildSlice F M rfl rfl rfl rfl ?_);clear F M;intro b38 w M a F)
 (refine sD F (o_call (F.e rfl) (F.evs rfl) (Cal.mono (or_c (b := b38) [cmpL x.dip y.dip, cmpV x.dbits y.dbits, cmpL x.sip y.sip, cmpV x.sbits y.sbits, cmpV x.rt y.rt] 5 rfl (by omega) _ (M.heap .here)) ?_));clear F;clear a;rintro _ w ⟨rfl, hE⟩ a F;replace M := M.later hE;clear hE)
 refine sD F (o_assign (F.e rfl) ?_);clear F a;intro a F
 with_reducible refine l_nil (q_then (c_ret ?_))
 exact p_ret F rfl (.cons (.tmp (F.e rfl)) .nil) (⟨rfl, M.ext⟩)
theorem rcmpPf_c (p : List Int) (n : Int) (q : List Int) (m : Int) (hp : IsIP p) (hq : IsIP q) (W : World) : Cal Tryz.prog 186 [.agg (pfC p n).toArray, .agg (pfC q m).toArray].toArray W fun v w' => v = .int .i64 (orI (cmpL p q) (cmpI n m)) ∧ Ext [] W w' := by
 have e1 : seg (pfC p n) 0 16 = some (ipC p) := seg_pf0 hp.len n
 have e2 : seg (pfC q m) 0 16 = some (ipC q) := seg_pf0 hq.len m
 have e3 : nth (pfC p n) 16 = some (.int .i64 n) := nth_pf hp.len n
 have e4 : nth (pfC q m) 16 = some (.int .i64 m) := nth_pf hq.len m
 unfold orI cmpI
 refine fn_ofM (n := 24) [] Tryz.func186 rfl rfl rfl ?_
 intro a w F M hwW
 refine c_seq (c_region ?_)
 (refine sD F (o_box M (F.e rfl) rfl ?_);clear F M;intro b2 w M a F)
 (refine sD F (o_box M (F.e rfl) rfl ?_);clear F M;intro b3 w M a F)
 refine sD F (o_assign (F.e rfl) ?_);clear F a;intro a F
 with_reducible refine l_nil (q_then (c_seq (c_seq (c_region ?_))))
 refine sD F (o_fieldAddr (F.e rfl) fun a F => sD F (o_loadA M (F.e rfl) (by repeat constructor) ‹_› ?_));iterate 2 clear F a
 intro a F
 refine sD F (o_fieldAddr (F.e rfl) fun a F => sD F (o_loadA M (F.e rfl) (by repeat constructor) ‹_› ?_));iterate 2 clear F a
 intro a F
 (refine sD F (o_call (F.e rfl) (F.evs rfl) (Cal.mono (rcompareIP_c p q hp hq _) ?_));clear F;clear a;rintro _ w ⟨rfl, hE⟩ a F;replace M := M.later hE;clear hE)
 by_cases h0 : cmpL p q = 0
 ·rw [if_pos h0]
  by_cases h1 : n < m
  ·rw [if_pos h1]
   refine sD F (o_assign (F.e rfl) ?_);clear F a;intro a F
   with_reducible refine l_nil (q_then (c_seq (c_region ?_)))
   refine sD F (o_move (F.e rfl) fun a F => sD F (o_neqF (F.e rfl) (F.e rfl) (by omega) ?_));iterate 2 clear F a
   intro a F
   with_reducible refine l_nil (q_then ?_)
   refine c_false F rfl rfl ?_
   with_reducible refine c_skip (q_then (c_seq (c_seq (c_region ?_))))
   refine sD F (o_fieldAddr (F.e rfl) fun a F => sD F (o_load1 M (F.e rfl) (by repeat constructor) ‹_› ?_));iterate 2 clear F a
   intro a F
   refine sD F (o_fieldAddr (F.e rfl) fun a F => sD F (o_load1 M (F.e rfl) (by repeat constructor) ‹_› ?_));iterate 2 clear F a
   intro a F
   refine sD F (o_lssT (F.e rfl) (F.e rfl) (by omega) ?_);clear F a;intro a F
   with_reducible refine l_nil (q_then ?_)
   refine c_true F rfl rfl (c_seq (c_region ?_))
   refine sD F (o_assign (F.e rfl) ?_);clear F a;intro a F
   with_reducible refine l_nil (q_then (c_ret (q_thenR ?_)))
   exact p_ret F rfl (.cons (.tmp (F.e rfl)) .nil) (⟨rfl, M.ext⟩)
  ·rw [if_neg h1]
   by_cases h2 : m < n
   ·rw [if_pos h2]
    refine sD F (o_assign (F.e rfl) ?_);clear F a;intro a F
    with_reducible refine l_nil (q_then (c_seq (c_region ?_)))
    refine sD F (o_move (F.e rfl) fun a F => sD F (o_neqF (F.e rfl) (F.e rfl) (by omega) ?_));iterate 2 clear F a
    intro a F
    with_reducible refine l_nil (q_then ?_)
    refine c_false F rfl rfl ?_
    with_reducible refine c_skip (q_then (c_seq (c_seq (c_region ?_))))
    refine sD F (o_fieldAddr (F.e rfl) fun a F => sD F (o_load1 M (F.e rfl) (by repeat constructor) ‹_› ?_));iterate 2 clear F a
    intro a F
    refine sD F (o_fieldAddr (F.e rfl) fun a F => sD F (o_load1 M (F.e rfl) (by repeat constructor) ‹_› ?_));iterate 2 clear F a
    intro a F
    refine sD F (o_lssF (F.e rfl) (F.e rfl) (by omega) ?_);clear F a;intro a F
    with_reducible refine l_nil (q_then ?_)
    refine c_false F rfl rfl ?_
    with_reducible refine c_skip (q_then (c_seq (c_seq (c_region ?_))))
    refine sD F (o_fieldAddr (F.e rfl) fun a F => sD F (o_load1 M (F.e rfl) (by repeat constructor) ‹_› ?_));iterate 2 clear F a
    intro a F
    refine sD F (o_fieldAddr (F.e rfl) fun a F => sD F (o_load1 M (F.e rfl) (by repeat constructor) ‹_› ?_));iterate 2 clear F a
    intro a F
    refine sD F (o_gtrT (F.e rfl) (F.e rfl) (by omega) ?_);clear F a;intro a F
    with_reducible refine l_nil (q_then ?_)
    refine c_true F rfl rfl (c_seq (c_region ?_))
    refine sD F (o_assign (F.e rfl) ?_);clear F a;intro a F
    with_reducible refine l_nil (q_then (c_ret (q_thenR ?_)))
    exact p_ret F rfl (.cons (.tmp (F.e rfl)) .nil) (⟨rfl, M.ext⟩)
   ·rw [if_neg h2]
    refine sD F (o_assign (F.e rfl) ?_);clear F a;intro a F
    with_reducible refine l_nil (q_then (c_seq (c_region ?_)))
    refine sD F (o_move (F.e rfl) fun a F => sD F (o_neqF (F.e rfl) (F.e rfl) (by omega) ?_));iterate 2 clear F a
    intro a F
    with_reducible refine l_nil (q_then ?_)
    refine c_false F rfl rfl ?_
    with_reducible refine c_skip (q_then (c_seq (c_seq (c_region ?_))))
    refine sD F (o_fieldAddr (F.e rfl) fun a F => sD F (o_load1 M (F.e rfl) (by repeat constructor) ‹_› ?_));iterate 2 clear F a
    intro a F
    refine sD F (o_fieldAddr (F.e rfl) fun a F => sD F (o_load1 M (F.e rfl) (by repeat constructor) ‹_› ?_));iterate 2 clear F a
    intro a F
    refine sD F (o_lssF (F.e rfl) (F.e rfl) (by omega) ?_);clear F a;intro a F
    with_reducible refine l_nil (q_then ?_)
    refine c_false F rfl rfl ?_
    with_reducible refine c_skip (q_then (c_seq (c_seq (c_region ?_))))
    refine sD F (o_fieldAddr (F.e rfl) fun a F => sD F (o_load1 M (F.e rfl) (by repeat constructor) ‹_› ?_));iterate 2 clear F a
    intro a F
    refine sD F (o_fieldAddr (F.e rfl) fun a F => sD F (o_load1 M (F.e rfl) (by repeat constructor) ‹_› ?_));iterate 2 clear F a
    intro a F
    refine sD F (o_gtrF (F.e rfl) (F.e rfl) (by omega) ?_);clear F a;intro a F
    with_reducible refine l_nil (q_then ?_)
    refine c_false F rfl rfl ?_
    with_reducible refine c_skip (q_then (c_seq (c_region ?_)))
    refine sD F (o_assign (F.e rfl) ?_);clear F a;intro a F
    with_reducible refine l_nil (q_then (c_ret ?_))
    exact p_ret F rfl (.cons (.tmp (F.e rfl)) .nil) (⟨rfl, M.ext⟩)
 ·rw [if_neg h0]
  refine sD F (o_assign (F.e rfl) ?_);clear F a;intro a F
  with_reducible refine l_nil (q_then (c_seq (c_region ?_)))
  refine sD F (o_move (F.e rfl) fun a F => sD F (o_neqT (F.e rfl) (F.e rfl) (by omega) ?_));iterate 2 clear F a
  intro a F
  with_reducible refine l_nil (q_then ?_)
  refine c_true F rfl rfl (c_seq (c_region ?_))
  refine sD F (o_move (F.e rfl) fun a F => sD F (o_assign (F.e rfl) ?_));iterate 2 clear F a
  intro a F
  with_reducible refine l_nil (q_then (c_ret (q_thenR ?_)))
  exact p_ret F rfl (.cons (.tmp (F.e rfl)) .nil) (⟨rfl, M.ext⟩)
theorem orI_assoc (a b c : Int) : orI (orI a b) c = orI a (orI b c) := by
 unfold orI
 repeat' split
 all_goals simp_all
theorem rcompare_c (x y : DstV) (ha : IsDv x) (hb : IsDv y) (W : World) : Cal Tryz.prog 92 [.agg (dvC x).toArray, .agg (dvC y).toArray].toArray W fun v w' => v = .int .i64 (cmpD x y) ∧ Ext [] W w' := by
 have a1 := dv_dst ha
 have a3 := dv_src ha
 have a5 := dv_rt ha
 have c1 := dv_dst hb
 have c3 := dv_src hb
 have c5 := dv_rt hb
 have hr : cmpD x y = orI (orI (cmpL x.dip y.dip) (cmpI x.dbits y.dbits)) (orI (orI (cmpL x.sip y.sip) (cmpI x.sbits y.sbits)) (cmpI x.rt y.rt)) := by
  rw [cmpD_or ha hb, orI_assoc, orI_assoc]
 rw [hr]
 obtain ⟨p, hp⟩ : ∃ p, p = orI (cmpL x.dip y.dip) (cmpI x.dbits y.dbits) := ⟨_, rfl⟩
 obtain ⟨q, hq⟩ : ∃ q, q = orI (cmpL x.sip y.sip) (cmpI x.sbits y.sbits) := ⟨_, rfl⟩
 rw [← hp, ← hq]
 have k1 := rcmpPf_c x.dip x.dbits y.dip y.dbits ha.1 hb.1
 have k2 := rcmpPf_c x.sip x.sbits y.sip y.sbits ha.2 hb.2
 rw [← hp] at k1
 rw [← hq] at k2
 unfold orI cmpI
 refine fn_ofM (n := 33) [] Tryz.func92 rfl rfl rfl ?_
 intro a w F M hwW
 refine c_seq (c_region ?_)
 (refine sD F (o_box M (F.e rfl) rfl ?_);clear F M;intro b2 w M a F)
 (refine sD F (o_box M (F.e rfl) rfl ?_);clear F M;intro b3 w M a F)
 refine sD F (o_assign (F.e rfl) ?_);clear F a;intro a F
 with_reducible refine l_nil (q_then (c_seq (c_seq (c_region ?_))))
 refine sD F (o_fieldAddr (F.e rfl) fun a F => sD F (o_loadA M (F.e rfl) (by repeat constructor) ‹_› ?_));iterate 2 clear F a
 intro a F
 refine sD F (o_fieldAddr (F.e rfl) fun a F => sD F (o_loadA M (F.e rfl) (by repeat constructor) ‹_› ?_));iterate 2 clear F a
 intro a F
 (refine sD F (o_call (F.e rfl) (F.evs rfl) (Cal.mono (k1 _) ?_));clear F;clear a;rintro _ w ⟨rfl, hE⟩ a F;replace M := M.later hE;clear hE)
 by_cases h0 : p = 0
 ·rw [if_pos h0]
  refine sD F (o_assign (F.e rfl) ?_);clear F a;intro a F
  with_reducible refine l_nil (q_then (c_seq (c_region ?_)))
  refine sD F (o_move (F.e rfl) fun a F => sD F (o_neqF (F.e rfl) (F.e rfl) (by omega) ?_));iterate 2 clear F a
  intro a F
  with_reducible refine l_nil (q_then ?_)
  refine c_false F rfl rfl ?_
  with_reducible refine c_skip (q_then (c_seq (c_seq (c_region ?_))))
  refine sD F (o_fieldAddr (F.e rfl) fun a F => sD F (o_loadA M (F.e rfl) (by repeat constructor) ‹_› ?_));iterate 2 clear F a
  intro a F
  refine sD F (o_fieldAddr (F.e rfl) fun a F => sD F (o_loadA M (F.e rfl) (by repeat constructor) ‹_› ?_));iterate 2 clear F a
  intro a F
  (refine sD F (o_call (F.e rfl) (F.evs rfl) (Cal.mono (k2 _) ?_));clear F;clear a;rintro _ w ⟨rfl, hE⟩ a F;replace M := M.later hE;clear hE)
  by_cases h1 : q = 0
  ·rw [if_pos h1]
   by_cases h2 : x.rt < y.rt
   ·rw [if_pos h2]
    refine sD F (o_assign (F.e rfl) ?_);clear F a;intro a F
    with_reducible refine l_nil (q_then (c_seq (c_region ?_)))
    refine sD F (o_move (F.e rfl) fun a F => sD F (o_neqF (F.e rfl) (F.e rfl) (by omega) ?_));iterate 2 clear F a
    intro a F
    with_reducible refine l_nil (q_then ?_)
    refine c_false F rfl rfl ?_
    with_reducible refine c_skip (q_then (c_seq (c_seq (c_region ?_))))
    refine sD F (o_fieldAddr (F.e rfl) fun a F => sD F (o_load1 M (F.e rfl) (by repeat constructor) ‹_› ?_));iterate 2 clear F a
    intro a F
    refine sD F (o_fieldAddr (F.e rfl) fun a F => sD F (o_load1 M (F.e rfl) (by repeat constructor) ‹_› ?_));iterate 2 clear F a
    intro a F
    refine sD F (o_lssT (F.e rfl) (F.e rfl) (by omega) ?_);clear F a;intro a F
    with_reducible refine l_nil (q_then ?_)
    refine c_true F rfl rfl (c_seq (c_region ?_))
    refine sD F (o_assign (F.e rfl) ?_);clear F a;intro a F
    with_reducible refine l_nil (q_then (c_ret (q_thenR ?_)))
    exact p_ret F rfl (.cons (.tmp (F.e rfl)) .nil) (⟨rfl, M.ext⟩)
   ·rw [if_neg h2]
    by_cases h3 : y.rt < x.rt
    ·rw [if_pos h3]
     refine sD F (o_assign (F.e rfl) ?_);clear F a;intro a F
     with_reducible refine l_nil (q_then (c_seq (c_region ?_)))
     refine sD F (o_move (F.e rfl) fun a F => sD F (o_neqF (F.e rfl) (F.e rfl) (by omega) ?_));iterate 2 clear F a
     intro a F
     with_reducible refine l_nil (q_then ?_)
     refine c_false F rfl rfl ?_
     with_reducible refine c_skip (q_then (c_seq (c_seq (c_region ?_))))
     refine sD F (o_fieldAddr (F.e rfl) fun a F => sD F (o_load1 M (F.e rfl) (by repeat constructor) ‹_› ?_));iterate 2 clear F a
     intro a F
     refine sD F (o_fieldAddr (F.e rfl) fun a F => sD F (o_load1 M (F.e rfl) (by repeat constructor) ‹_› ?_));iterate 2 clear F a
     intro a F
     refine sD F (o_lssF (F.e rfl) (F.e rfl) (by omega) ?_);clear F a;intro a F
     with_reducible refine l_nil (q_then ?_)
     refine c_false F rfl rfl ?_
     with_reducible refine c_skip (q_then (c_seq (c_seq (c_region ?_))))
     refine sD F (o_fieldAddr (F.e rfl) fun a F => sD F (o_load1 M (F.e rfl) (by repeat constructor) ‹_› ?_));iterate 2 clear F a
     intro a F
     refine sD F (o_fieldAddr (F.e rfl) fun a F => sD F (o_load1 M (F.e rfl) (by repeat constructor) ‹_› ?_));iterate 2 clear F a
     intro a F
     refine sD F (o_gtrT (F.e rfl) (F.e rfl) (by omega) ?_);clear F a;intro a F
     with_reducible refine l_nil (q_then ?_)
     refine c_true F rfl rfl (c_seq (c_region ?_))
     refine sD F (o_assign (F.e rfl) ?_);clear F a;intro a F
     with_reducible refine l_nil (q_then (c_ret (q_thenR ?_)))
     exact p_ret F rfl (.cons (.tmp (F.e rfl)) .nil) (⟨rfl, M.ext⟩)
    ·rw [if_neg h3]
     refine sD F (o_assign (F.e rfl) ?_);clear F a;intro a F
     with_reducible refine l_nil (q_then (c_seq (c_region ?_)))
     refine sD F (o_move (F.e rfl) fun a F => sD F (o_neqF (F.e rfl) (F.e rfl) (by omega) ?_));iterate 2 clear F a
     intro a F
     with_reducible refine l_nil (q_then ?_)
     refine c_false F rfl rfl ?_
     with_reducible refine c_skip (q_then (c_seq (c_seq (c_region ?_))))
     refine sD F (o_fieldAddr (F.e rfl) fun a F => sD F (o_load1 M (F.e rfl) (by repeat constructor) ‹_› ?_));iterate 2 clear F a
     intro a F
     refine sD F (o_fieldAddr (F.e rfl) fun a F => sD F (o_load1 M (F.e rfl) (by repeat constructor) ‹_› ?_));iterate 2 clear F a
     intro a F
     refine sD F (o_lssF (F.e rfl) (F.e rfl) (by omega) ?_);clear F a;intro a F
     with_reducible refine l_nil (q_then ?_)
     refine c_false F rfl rfl ?_
     with_reducible refine c_skip (q_then (c_seq (c_seq (c_region ?_))))
     refine sD F (o_fieldAddr (F.e rfl) fun a F => sD F (o_load1 M (F.e rfl) (by repeat constructor) ‹_› ?_));iterate 2 clear F a
     intro a F
     refine sD F (o_fieldAddr (F.e rfl) fun a F => sD F (o_load1 M (F.e rfl) (by repeat constructor) ‹_› ?_));iterate 2 clear F a
     intro a F
     refine sD F (o_gtrF (F.e rfl) (F.e rfl) (by omega) ?_);clear F a;intro a F
     with_reducible refine l_nil (q_then ?_)
     refine c_false F rfl rfl ?_
     with_reducible refine c_skip (q_then (c_seq (c_region ?_)))
     refine sD F (o_assign (F.e rfl) ?_);clear F a;intro a F
     with_reducible refine l_nil (q_then (c_ret ?_))
     exact p_ret F rfl (.cons (.tmp (F.e rfl)) .nil) (⟨rfl, M.ext⟩)
  ·rw [if_neg h1]
   refine sD F (o_assign (F.e rfl) ?_);clear F a;intro a F
   with_reducible refine l_nil (q_then (c_seq (c_region ?_)))
   refine sD F (o_move (F.e rfl) fun a F => sD F (o_neqT (F.e rfl) (F.e rfl) (by omega) ?_));iterate 2 clear F a
   intro a F
   with_reducible refine l_nil (q_then ?_)
   refine c_true F rfl rfl (c_seq (c_region ?_))
   refine sD F (o_move (F.e rfl) fun a F => sD F (o_assign (F.e rfl) ?_));iterate 2 clear F a
   intro a F
   with_reducible refine l_nil (q_then (c_ret (q_thenR ?_)))
   exact p_ret F rfl (.cons (.tmp (F.e rfl)) .nil) (⟨rfl, M.ext⟩)
 ·rw [if_neg h0]
  refine sD F (o_assign (F.e rfl) ?_);clear F a;intro a F
  with_reducible refine l_nil (q_then (c_seq (c_region ?_)))
  refine sD F (o_move (F.e rfl) fun a F => sD F (o_neqT (F.e rfl) (F.e rfl) (by omega) ?_));iterate 2 clear F a
  intro a F
  with_reducible refine l_nil (q_then ?_)
  refine c_true F rfl rfl (c_seq (c_region ?_))
  refine sD F (o_move (F.e rfl) fun a F => sD F (o_assign (F.e rfl) ?_));iterate 2 clear F a
  intro a F
  with_reducible refine l_nil (q_then (c_ret (q_thenR ?_)))
  exact p_ret F rfl (.cons (.tmp (F.e rfl)) .nil) (⟨rfl, M.ext⟩)
end Go.Proofs.YtfhkmgcalcfibaaGreat
namespace Go.Proofs.YtfhkmgcalcfibaaGreat
open Go.RowKit
structure RouV where
 to : DstV
 nb : Int
 said : DisV
 til : Int
 deriving DecidableEq
def roC (o : RouV) : List Value := dvC o.to ++ ([.int .u64 o.nb] ++ (diC o.said ++ ([.int .i64 o.til])))
def IsRo (o : RouV) : Prop := IsDv o.to ∧ IsDi o.said
theorem ro_len {o : RouV} (h : IsRo o) : (roC o).length = 39 := by
 obtain ⟨⟨f_to_dip, f_to_dbits, f_to_sip, f_to_sbits, f_to_rt⟩, f_nb, ⟨f_said_seq, f_said_met⟩, f_til⟩ := o
 obtain ⟨x0_0, x0_1, x0_2, x0_3, x0_4, x0_5, x0_6, x0_7, x0_8, x0_9, x0_10, x0_11, x0_12, x0_13, x0_14, x0_15, e0⟩ := len16 (show f_to_dip.length = 16 from (h.1.1).len)
 obtain ⟨x1_0, x1_1, x1_2, x1_3, x1_4, x1_5, x1_6, x1_7, x1_8, x1_9, x1_10, x1_11, x1_12, x1_13, x1_14, x1_15, e1⟩ := len16 (show f_to_sip.length = 16 from (h.1.2).len)
 subst e0
 subst e1
 rfl
theorem ro_all {o : RouV} (h : IsRo o) : seg (roC o) 0 39 = some (roC o) := sg_all (ro_len h)
theorem ro_to {o : RouV} (h : IsRo o) : seg (roC o) 0 35 = some (dvC o.to) := by
 obtain ⟨⟨f_to_dip, f_to_dbits, f_to_sip, f_to_sbits, f_to_rt⟩, f_nb, ⟨f_said_seq, f_said_met⟩, f_til⟩ := o
 obtain ⟨x0_0, x0_1, x0_2, x0_3, x0_4, x0_5, x0_6, x0_7, x0_8, x0_9, x0_10, x0_11, x0_12, x0_13, x0_14, x0_15, e0⟩ := len16 (show f_to_dip.length = 16 from (h.1.1).len)
 obtain ⟨x1_0, x1_1, x1_2, x1_3, x1_4, x1_5, x1_6, x1_7, x1_8, x1_9, x1_10, x1_11, x1_12, x1_13, x1_14, x1_15, e1⟩ := len16 (show f_to_sip.length = 16 from (h.1.2).len)
 subst e0
 subst e1
 rfl
theorem ro_to_rt {o : RouV} (h : IsRo o) : nth (roC o) 34 = some (.int .u64 o.to.rt) := by
 obtain ⟨⟨f_to_dip, f_to_dbits, f_to_sip, f_to_sbits, f_to_rt⟩, f_nb, ⟨f_said_seq, f_said_met⟩, f_til⟩ := o
 obtain ⟨x0_0, x0_1, x0_2, x0_3, x0_4, x0_5, x0_6, x0_7, x0_8, x0_9, x0_10, x0_11, x0_12, x0_13, x0_14, x0_15, e0⟩ := len16 (show f_to_dip.length = 16 from (h.1.1).len)
 obtain ⟨x1_0, x1_1, x1_2, x1_3, x1_4, x1_5, x1_6, x1_7, x1_8, x1_9, x1_10, x1_11, x1_12, x1_13, x1_14, x1_15, e1⟩ := len16 (show f_to_sip.length = 16 from (h.1.2).len)
 subst e0
 subst e1
 rfl
theorem ro_nb {o : RouV} (h : IsRo o) : nth (roC o) 35 = some (.int .u64 o.nb) := by
 obtain ⟨⟨f_to_dip, f_to_dbits, f_to_sip, f_to_sbits, f_to_rt⟩, f_nb, ⟨f_said_seq, f_said_met⟩, f_til⟩ := o
 obtain ⟨x0_0, x0_1, x0_2, x0_3, x0_4, x0_5, x0_6, x0_7, x0_8, x0_9, x0_10, x0_11, x0_12, x0_13, x0_14, x0_15, e0⟩ := len16 (show f_to_dip.length = 16 from (h.1.1).len)
 obtain ⟨x1_0, x1_1, x1_2, x1_3, x1_4, x1_5, x1_6, x1_7, x1_8, x1_9, x1_10, x1_11, x1_12, x1_13, x1_14, x1_15, e1⟩ := len16 (show f_to_sip.length = 16 from (h.1.2).len)
 subst e0
 subst e1
 rfl
theorem ro_said {o : RouV} (h : IsRo o) : seg (roC o) 36 2 = some (diC o.said) := by
 obtain ⟨⟨f_to_dip, f_to_dbits, f_to_sip, f_to_sbits, f_to_rt⟩, f_nb, ⟨f_said_seq, f_said_met⟩, f_til⟩ := o
 obtain ⟨x0_0, x0_1, x0_2, x0_3, x0_4, x0_5, x0_6, x0_7, x0_8, x0_9, x0_10, x0_11, x0_12, x0_13, x0_14, x0_15, e0⟩ := len16 (show f_to_dip.length = 16 from (h.1.1).len)
 obtain ⟨x1_0, x1_1, x1_2, x1_3, x1_4, x1_5, x1_6, x1_7, x1_8, x1_9, x1_10, x1_11, x1_12, x1_13, x1_14, x1_15, e1⟩ := len16 (show f_to_sip.length = 16 from (h.1.2).len)
 subst e0
 subst e1
 rfl
theorem ro_said_met {o : RouV} (h : IsRo o) : nth (roC o) 37 = some (.int .i64 o.said.met) := by
 obtain ⟨⟨f_to_dip, f_to_dbits, f_to_sip, f_to_sbits, f_to_rt⟩, f_nb, ⟨f_said_seq, f_said_met⟩, f_til⟩ := o
 obtain ⟨x0_0, x0_1, x0_2, x0_3, x0_4, x0_5, x0_6, x0_7, x0_8, x0_9, x0_10, x0_11, x0_12, x0_13, x0_14, x0_15, e0⟩ := len16 (show f_to_dip.length = 16 from (h.1.1).len)
 obtain ⟨x1_0, x1_1, x1_2, x1_3, x1_4, x1_5, x1_6, x1_7, x1_8, x1_9, x1_10, x1_11, x1_12, x1_13, x1_14, x1_15, e1⟩ := len16 (show f_to_sip.length = 16 from (h.1.2).len)
 subst e0
 subst e1
 rfl
theorem ro_til {o : RouV} (h : IsRo o) : nth (roC o) 38 = some (.int .i64 o.til) := by
 obtain ⟨⟨f_to_dip, f_to_dbits, f_to_sip, f_to_sbits, f_to_rt⟩, f_nb, ⟨f_said_seq, f_said_met⟩, f_til⟩ := o
 obtain ⟨x0_0, x0_1, x0_2, x0_3, x0_4, x0_5, x0_6, x0_7, x0_8, x0_9, x0_10, x0_11, x0_12, x0_13, x0_14, x0_15, e0⟩ := len16 (show f_to_dip.length = 16 from (h.1.1).len)
 obtain ⟨x1_0, x1_1, x1_2, x1_3, x1_4, x1_5, x1_6, x1_7, x1_8, x1_9, x1_10, x1_11, x1_12, x1_13, x1_14, x1_15, e1⟩ := len16 (show f_to_sip.length = 16 from (h.1.2).len)
 subst e0
 subst e1
 rfl
theorem ro_one (o : RouV) : (roC o).all (·.oneCell') = true := by
 simp [pfC, ipC, roC, dvC, diC, Value.oneCell']
def roZ : List Value := [.int .u8 0, .int .u8 0, .int .u8 0, .int .u8 0, .int .u8 0, .int .u8 0, .int .u8 0, .int .u8 0, .int .u8 0, .int .u8 0, .int .u8 0, .int .u8 0, .int .u8 0, .int .u8 0, .int .u8 0, .int .u8 0, .int .i64 0, .int .u8 0, .int .u8 0, .int .u8 0, .int .u8 0, .int .u8 0, .int .u8 0, .int .u8 0, .int .u8 0, .int .u8 0, .int .u8 0, .int .u8 0, .int .u8 0, .int .u8 0, .int .u8 0, .int .u8 0, .int .u8 0, .int .i64 0, .int .u64 0, .int .u64 0, .int .u16 0, .int .i64 0, .int .i64 0]
theorem ro_build {o : RouV} (h : IsRo o) : putAll [(0, 35), (35, 1), (36, 2), (38, 1)] roZ [(0, dvC o.to), (1, [.int .u64 o.nb]), (2, diC o.said), (3, [.int .i64 o.til])] = some (roC o) := by
 obtain ⟨⟨f_to_dip, f_to_dbits, f_to_sip, f_to_sbits, f_to_rt⟩, f_nb, ⟨f_said_seq, f_said_met⟩, f_til⟩ := o
 obtain ⟨x0_0, x0_1, x0_2, x0_3, x0_4, x0_5, x0_6, x0_7, x0_8, x0_9, x0_10, x0_11, x0_12, x0_13, x0_14, x0_15, e0⟩ := len16 (show f_to_dip.length = 16 from (h.1.1).len)
 obtain ⟨x1_0, x1_1, x1_2, x1_3, x1_4, x1_5, x1_6, x1_7, x1_8, x1_9, x1_10, x1_11, x1_12, x1_13, x1_14, x1_15, e1⟩ := len16 (show f_to_sip.length = 16 from (h.1.2).len)
 subst e0
 subst e1
 rfl
theorem ro_build1 {o : RouV} (h : IsRo o) : putAll (placesL 1 39) (zerosL roZ (1 * 39)) [(0, roC o)] = some (roC o) := by
 obtain ⟨⟨f_to_dip, f_to_dbits, f_to_sip, f_to_sbits, f_to_rt⟩, f_nb, ⟨f_said_seq, f_said_met⟩, f_til⟩ := o
 obtain ⟨x0_0, x0_1, x0_2, x0_3, x0_4, x0_5, x0_6, x0_7, x0_8, x0_9, x0_10, x0_11, x0_12, x0_13, x0_14, x0_15, e0⟩ := len16 (show f_to_dip.length = 16 from (h.1.1).len)
 obtain ⟨x1_0, x1_1, x1_2, x1_3, x1_4, x1_5, x1_6, x1_7, x1_8, x1_9, x1_10, x1_11, x1_12, x1_13, x1_14, x1_15, e1⟩ := len16 (show f_to_sip.length = 16 from (h.1.2).len)
 subst e0
 subst e1
 rfl
abbrev rosC (l : List RouV) : List Value := encL roC l
theorem ros_len {l : List RouV} (h : ∀ x ∈ l, IsRo x) : ∀ x ∈ l, (roC x).length = 39 := fun x hx => ro_len (h x hx)
theorem ros_one {l : List RouV} : (rosC l).all (·.oneCell') = true := encL_all fun x _ => ro_one x
structure SrcV where
 to : DstV
 bst : DisV
 til : Int
 deriving DecidableEq
def srC (o : SrcV) : List Value := dvC o.to ++ (diC o.bst ++ ([.int .i64 o.til]))
def IsSr (o : SrcV) : Prop := IsDv o.to ∧ IsDi o.bst
theorem sr_len {o : SrcV} (h : IsSr o) : (srC o).length = 38 := by
 obtain ⟨⟨f_to_dip, f_to_dbits, f_to_sip, f_to_sbits, f_to_rt⟩, ⟨f_bst_seq, f_bst_met⟩, f_til⟩ := o
 obtain ⟨x0_0, x0_1, x0_2, x0_3, x0_4, x0_5, x0_6, x0_7, x0_8, x0_9, x0_10, x0_11, x0_12, x0_13, x0_14, x0_15, e0⟩ := len16 (show f_to_dip.length = 16 from (h.1.1).len)
 obtain ⟨x1_0, x1_1, x1_2, x1_3, x1_4, x1_5, x1_6, x1_7, x1_8, x1_9, x1_10, x1_11, x1_12, x1_13, x1_14, x1_15, e1⟩ := len16 (show f_to_sip.length = 16 from (h.1.2).len)
 subst e0
 subst e1
 rfl
theorem sr_all {o : SrcV} (h : IsSr o) : seg (srC o) 0 38 = some (srC o) := sg_all (sr_len h)
theorem sr_to {o : SrcV} (h : IsSr o) : seg (srC o) 0 35 = some (dvC o.to) := by
 obtain ⟨⟨f_to_dip, f_to_dbits, f_to_sip, f_to_sbits, f_to_rt⟩, ⟨f_bst_seq, f_bst_met⟩, f_til⟩ := o
 obtain ⟨x0_0, x0_1, x0_2, x0_3, x0_4, x0_5, x0_6, x0_7, x0_8, x0_9, x0_10, x0_11, x0_12, x0_13, x0_14, x0_15, e0⟩ := len16 (show f_to_dip.length = 16 from (h.1.1).len)
 obtain ⟨x1_0, x1_1, x1_2, x1_3, x1_4, x1_5, x1_6, x1_7, x1_8, x1_9, x1_10, x1_11, x1_12, x1_13, x1_14, x1_15, e1⟩ := len16 (show f_to_sip.length = 16 from (h.1.2).len)
 subst e0
 subst e1
 rfl
theorem sr_bst {o : SrcV} (h : IsSr o) : seg (srC o) 35 2 = some (diC o.bst) := by
 obtain ⟨⟨f_to_dip, f_to_dbits, f_to_sip, f_to_sbits, f_to_rt⟩, ⟨f_bst_seq, f_bst_met⟩, f_til⟩ := o
 obtain ⟨x0_0, x0_1, x0_2, x0_3, x0_4, x0_5, x0_6, x0_7, x0_8, x0_9, x0_10, x0_11, x0_12, x0_13, x0_14, x0_15, e0⟩ := len16 (show f_to_dip.length = 16 from (h.1.1).len)
 obtain ⟨x1_0, x1_1, x1_2, x1_3, x1_4, x1_5, x1_6, x1_7, x1_8, x1_9, x1_10, x1_11, x1_12, x1_13, x1_14, x1_15, e1⟩ := len16 (show f_to_sip.length = 16 from (h.1.2).len)
 subst e0
 subst e1
 rfl
theorem sr_bst_met {o : SrcV} (h : IsSr o) : nth (srC o) 36 = some (.int .i64 o.bst.met) := by
 obtain ⟨⟨f_to_dip, f_to_dbits, f_to_sip, f_to_sbits, f_to_rt⟩, ⟨f_bst_seq, f_bst_met⟩, f_til⟩ := o
 obtain ⟨x0_0, x0_1, x0_2, x0_3, x0_4, x0_5, x0_6, x0_7, x0_8, x0_9, x0_10, x0_11, x0_12, x0_13, x0_14, x0_15, e0⟩ := len16 (show f_to_dip.length = 16 from (h.1.1).len)
 obtain ⟨x1_0, x1_1, x1_2, x1_3, x1_4, x1_5, x1_6, x1_7, x1_8, x1_9, x1_10, x1_11, x1_12, x1_13, x1_14, x1_15, e1⟩ := len16 (show f_to_sip.length = 16 from (h.1.2).len)
 subst e0
 subst e1
 rfl
theorem sr_til {o : SrcV} (h : IsSr o) : nth (srC o) 37 = some (.int .i64 o.til) := by
 obtain ⟨⟨f_to_dip, f_to_dbits, f_to_sip, f_to_sbits, f_to_rt⟩, ⟨f_bst_seq, f_bst_met⟩, f_til⟩ := o
 obtain ⟨x0_0, x0_1, x0_2, x0_3, x0_4, x0_5, x0_6, x0_7, x0_8, x0_9, x0_10, x0_11, x0_12, x0_13, x0_14, x0_15, e0⟩ := len16 (show f_to_dip.length = 16 from (h.1.1).len)
 obtain ⟨x1_0, x1_1, x1_2, x1_3, x1_4, x1_5, x1_6, x1_7, x1_8, x1_9, x1_10, x1_11, x1_12, x1_13, x1_14, x1_15, e1⟩ := len16 (show f_to_sip.length = 16 from (h.1.2).len)
 subst e0
 subst e1
 rfl
theorem sr_one (o : SrcV) : (srC o).all (·.oneCell') = true := by
 simp [pfC, ipC, srC, dvC, diC, Value.oneCell']
def srZ : List Value := [.int .u8 0, .int .u8 0, .int .u8 0, .int .u8 0, .int .u8 0, .int .u8 0, .int .u8 0, .int .u8 0, .int .u8 0, .int .u8 0, .int .u8 0, .int .u8 0, .int .u8 0, .int .u8 0, .int .u8 0, .int .u8 0, .int .i64 0, .int .u8 0, .int .u8 0, .int .u8 0, .int .u8 0, .int .u8 0, .int .u8 0, .int .u8 0, .int .u8 0, .int .u8 0, .int .u8 0, .int .u8 0, .int .u8 0, .int .u8 0, .int .u8 0, .int .u8 0, .int .u8 0, .int .i64 0, .int .u64 0, .int .u16 0, .int .i64 0, .int .i64 0]
theorem sr_build {o : SrcV} (h : IsSr o) : putAll [(0, 35), (35, 2), (37, 1)] srZ [(0, dvC o.to), (1, diC o.bst), (2, [.int .i64 o.til])] = some (srC o) := by
 obtain ⟨⟨f_to_dip, f_to_dbits, f_to_sip, f_to_sbits, f_to_rt⟩, ⟨f_bst_seq, f_bst_met⟩, f_til⟩ := o
 obtain ⟨x0_0, x0_1, x0_2, x0_3, x0_4, x0_5, x0_6, x0_7, x0_8, x0_9, x0_10, x0_11, x0_12, x0_13, x0_14, x0_15, e0⟩ := len16 (show f_to_dip.length = 16 from (h.1.1).len)
 obtain ⟨x1_0, x1_1, x1_2, x1_3, x1_4, x1_5, x1_6, x1_7, x1_8, x1_9, x1_10, x1_11, x1_12, x1_13, x1_14, x1_15, e1⟩ := len16 (show f_to_sip.length = 16 from (h.1.2).len)
 subst e0
 subst e1
 rfl
theorem sr_build1 {o : SrcV} (h : IsSr o) : putAll (placesL 1 38) (zerosL srZ (1 * 38)) [(0, srC o)] = some (srC o) := by
 obtain ⟨⟨f_to_dip, f_to_dbits, f_to_sip, f_to_sbits, f_to_rt⟩, ⟨f_bst_seq, f_bst_met⟩, f_til⟩ := o
 obtain ⟨x0_0, x0_1, x0_2, x0_3, x0_4, x0_5, x0_6, x0_7, x0_8, x0_9, x0_10, x0_11, x0_12, x0_13, x0_14, x0_15, e0⟩ := len16 (show f_to_dip.length = 16 from (h.1.1).len)
 obtain ⟨x1_0, x1_1, x1_2, x1_3, x1_4, x1_5, x1_6, x1_7, x1_8, x1_9, x1_10, x1_11, x1_12, x1_13, x1_14, x1_15, e1⟩ := len16 (show f_to_sip.length = 16 from (h.1.2).len)
 subst e0
 subst e1
 rfl
abbrev srsC (l : List SrcV) : List Value := encL srC l
theorem srs_len {l : List SrcV} (h : ∀ x ∈ l, IsSr x) : ∀ x ∈ l, (srC x).length = 38 := fun x hx => sr_len (h x hx)
theorem srs_one {l : List SrcV} : (srsC l).all (·.oneCell') = true := encL_all fun x _ => sr_one x
structure OptV where
 nb : Int
 cost : Int
 deriving DecidableEq
def opC (o : OptV) : List Value := [.int .u64 o.nb, .int .i64 o.cost]
def IsOp (o : OptV) : Prop := True
theorem op_len {o : OptV} (h : IsOp o) : (opC o).length = 2 := by
 obtain ⟨f_nb, f_cost⟩ := o
 rfl
theorem op_one (o : OptV) : (opC o).all (·.oneCell') = true := by
 simp [pfC, ipC, opC, Value.oneCell']
def opZ : List Value := [.int .u64 0, .int .i64 0]
theorem op_build1 {o : OptV} (h : IsOp o) : putAll (placesL 1 2) (zerosL opZ (1 * 2)) [(0, opC o)] = some (opC o) := by
 obtain ⟨f_nb, f_cost⟩ := o
 rfl
abbrev opK : List LK := [.i .u64, .i .i64]
theorem op_fits {o : OptV} (h : IsOp o) : fitsK opK (opC o) = true := by
 obtain ⟨f_nb, f_cost⟩ := o
 rfl
theorem op_eq {a b : OptV} (ha : IsOp a) (hb : IsOp b) : eqVs (opC a) (opC b) = decide (a = b) := by
 rw [Bool.eq_iff_iff, decide_eq_true_eq]
 obtain ⟨a_nb, a_cost⟩ := a
 obtain ⟨b_nb, b_cost⟩ := b
 simp only [opC, OptV.mk.injEq]
 simp [eqVs, eqV, Bool.and_eq_true, beq_iff_eq, Bool.and_true, and_assoc, decide_eq_true_eq, List.cons_append, List.nil_append]
abbrev opsC (l : List OptV) : List Value := encL opC l
theorem ops_len {l : List OptV} (h : ∀ x ∈ l, IsOp x) : ∀ x ∈ l, (opC x).length = 2 := fun x hx => op_len (h x hx)
section
variable {α : Type}
def vld1 (e1 : α → Bool) (cm : α → α → Int) (l : List α) (i : Nat) : Bool := match l[i]? with
 | none => true
 | some a => e1 a && (decide (i = 0) || match l[i - 1]? with
  | none => true
  | some b => decide (cm b a < 0))
def vldL (n : Nat) (e1 : α → Bool) (cm : α → α → Int) (l : List α) : Bool := decide (l.length ≤ n) && (List.range l.length).all (vld1 e1 cm l)
variable {n : Nat} {e1 : α → Bool} {cm : α → α → Int} {l : List α}
theorem vld1_0 {i : Nat} (h : i < l.length) (h0 : i = 0) : vld1 e1 cm l i = e1 l[i] := by
 subst h0
 simp [vld1, List.getElem?_eq_getElem h]
theorem vld1_s {i : Nat} (h : i < l.length) (h0 : 0 < i) : vld1 e1 cm l i = (e1 l[i] && decide (cm (l[i - 1]'(by omega)) l[i] < 0)) := by
 have : ¬ i = 0 := by omega
 simp [vld1, List.getElem?_eq_getElem h, List.getElem?_eq_getElem (show i - 1 < l.length by omega), this]
theorem vld1_f {i : Nat} (h : i < l.length) (hv : e1 l[i] = false) : vld1 e1 cm l i = false := by
 simp [vld1, List.getElem?_eq_getElem h, hv]
abbrev AscC (cm : α → α → Int) (l : List α) : Prop := l.Pairwise fun a b => cm a b < 0
theorem vldL_iff (tr : ∀ a b c, cm a b < 0 → cm b c < 0 → cm a c < 0) : vldL n e1 cm l = true ↔ l.length ≤ n ∧ (∀ a ∈ l, e1 a = true) ∧ AscC cm l := by
 unfold vldL
 rw [Bool.and_eq_true, decide_eq_true_eq, List.all_eq_true]
 constructor
 ·rintro ⟨h1, h2⟩
  have hat : ∀ i (hi : i < l.length), e1 l[i] = true ∧ (0 < i → ∀ h : i - 1 < l.length, cm l[i - 1] l[i] < 0) := by
   intro i hi
   have := h2 i (List.mem_range.2 hi)
   simp only [vld1, List.getElem?_eq_getElem hi, Bool.and_eq_true, Bool.or_eq_true, decide_eq_true_eq] at this
   refine ⟨this.1, fun h0 h => ?_⟩
   rcases this.2 with h3 | h3
   ·omega
   ·rw [List.getElem?_eq_getElem h] at h3
    simpa using h3
  refine ⟨h1, fun a ha => ?_, ?_⟩
  ·obtain ⟨i, hi, rfl⟩ := List.mem_iff_getElem.1 ha
   exact (hat i hi).1
  ·refine List.pairwise_iff_getElem.2 ?_
   intro i j hi hj hij
   have key : ∀ n, ∀ (hn : i + 1 + n < l.length), cm l[i] (l[i + 1 + n]'hn) < 0 := by
    intro n
    induction n with
    | zero => intro hn;exact (hat (i + 1) hn).2 (by omega) (by omega)
    | succ n ih =>
     intro hn
     have h3 := (hat (i + 1 + (n + 1)) hn).2 (by omega) (by omega)
     exact tr _ _ _ (ih (by omega)) h3
   have := key (j - i - 1) (by omega)
   simpa [show i + 1 + (j - i - 1) = j by omega] using this
 ·rintro ⟨h1, h2, h3⟩
  refine ⟨h1, fun i hi => ?_⟩
  have hi' := List.mem_range.1 hi
  replace h3 := List.pairwise_iff_getElem.1 h3
  have h4 := h2 l[i] (List.getElem_mem hi')
  simp only [vld1, List.getElem?_eq_getElem hi', h4, Bool.true_and, Bool.or_eq_true, decide_eq_true_eq]
  by_cases h0 : i = 0
  ·exact .inl h0
  ·right
   rw [List.getElem?_eq_getElem (show i - 1 < l.length by omega)]
   simpa using h3 (i - 1) i (by omega) hi' (by omega)
end
theorem cmpI_lt {a b : Int} : cmpI a b < 0 ↔ a < b := by
 unfold cmpI
 repeat' split
 all_goals omega
def keyR (r : RouV) : List Int := keyD r.to ++ [r.nb]
def cmpR (a b : RouV) : Int := cmpL (keyR a) (keyR b)
theorem keyD_len {d : DstV} (h : IsDv d) : (keyD d).length = 35 := by
 simp [keyD, h.1.len, h.2.len]
theorem cmpR_or {a b : RouV} (ha : IsDv a.to) (hb : IsDv b.to) : cmpR a b = orI (cmpD a.to b.to) (cmpI a.nb b.nb) := by
 unfold cmpR keyR
 rw [cmpL_two _ _ _ _ (by rw [keyD_len ha, keyD_len hb]), cmpL_cons]
 have : cmpL ([] : List Int) [] = 0 := cmpL_self _
 rw [this]
 show orI (cmpD a.to b.to) (orI (cmpI a.nb b.nb) 0) = _
 congr 1
 unfold orI
 split <;> simp_all
theorem cmpR_trans {a b c : RouV} (h : cmpR a b < 0) (k : cmpR b c < 0) : cmpR a c < 0 := cmpL_lt_trans h k
def finD (d : DisV) : Bool := validM d.met && !decide (d.met = inf)
def rou1 (r : RouV) : Bool := validT r.to && !decide (r.nb = 0) && finD r.said && isTime r.til
def validRs (l : List RouV) : Bool := vldL 512 rou1 cmpR l
theorem validRs_iff {l : List RouV} : validRs l = true ↔ l.length ≤ 512 ∧ (∀ a ∈ l, rou1 a = true) ∧ AscC cmpR l := vldL_iff (fun _ _ _ h k => cmpR_trans h k)
structure PlR (ys : List RouV) (x : RouV) (i : Nat) : Prop where
 le : i ≤ ys.length
 lo : ∀ j (hj : j < i) (hl : j < ys.length), cmpR ys[j] x < 0
 hi : ∀ j (hj : i ≤ j) (hl : j < ys.length), 0 ≤ cmpR ys[j] x
section
variable {ys : List RouV} {x : RouV} {i : Nat} (hP : PlR ys x i)
include hP
end
section
variable {α : Type} {n : Nat} {e1 : α → Bool} {cm : α → α → Int} {l : List α} {i : Nat}
theorem vl_at {b : Bool} (h : i < l.length) (hv : vld1 e1 cm l i = false) (hb : vldL n e1 cm l = b) : b = false := by
 rw [← hb]
 unfold vldL
 rw [List.all_eq_false.2 ⟨i, List.mem_range.2 h, by rw [hv];simp⟩, Bool.and_false]
theorem vl_F {x : α} {b : Bool} {W w : World} (hb : vldL n e1 cm l = b) (h : i < l.length) (hx : x = l[i]) (hv : e1 x = false) (E : Ext [] W w) : Value.bool false = .bool b ∧ Ext [] W w := ⟨by rw [vl_at h (vld1_f h (by rw [← hx];exact hv)) hb], E⟩
theorem vl_S {x y : α} {b : Bool} {W w : World} (hb : vldL n e1 cm l = b) (h : i < l.length) (h0 : 0 < i) (hx : x = l[i]) (hy : y = l[i - 1]'(by omega)) (hv : ¬ cm y x < 0) (E : Ext [] W w) : Value.bool false = .bool b ∧ Ext [] W w := ⟨by rw [vl_at h (by rw [vld1_s h h0, ← hx, ← hy, dqF hv, Bool.and_false]) hb], E⟩
theorem vl_N {x : α} (h : i < l.length) (hx : x = l[i]) (ha : ∀ j, j < i → vld1 e1 cm l j = true) (h1 : e1 x = true) (h2 : ∀ h0 : 0 < i, cm (l[i - 1]'(by omega)) x < 0) : ∀ j, j < i + 1 → vld1 e1 cm l j = true := fun j hj => by
 rcases Nat.lt_or_ge j i with h3 | h3
 ·exact ha j h3
 ·obtain rfl : j = i := by omega
  rcases Nat.eq_zero_or_pos j with h0 | h0
  ·rw [vld1_0 h h0, ← hx];exact h1
  ·rw [vld1_s h h0, ← hx, h1, dqT (h2 h0)];rfl
theorem vl_L {b : Bool} {W w : World} (hb : vldL n e1 cm l = b) (h : n < l.length) (E : Ext [] W w) : Value.bool false = .bool b ∧ Ext [] W w := by
 refine ⟨?_, E⟩
 rw [← hb]
 unfold vldL
 rw [dqF (by omega), Bool.false_and]
theorem vl_T {b : Bool} {W w : World} (hb : vldL n e1 cm l = b) (h : l.length ≤ n) (ha : ∀ j, j < l.length → vld1 e1 cm l j = true) (E : Ext [] W w) : Value.bool true = .bool b ∧ Ext [] W w := by
 refine ⟨?_, E⟩
 rw [← hb]
 unfold vldL
 rw [dqT h, Bool.true_and, List.all_eq_true.2 fun j hj => ha j (List.mem_range.1 hj)]
end
end Go.Proofs.YtfhkmgcalcfibaaGreat
namespace Go.Proofs.YtfhkmgcalcfibaaGreat
def ava1 (a : AdvV) : Bool := validT a.to && validM a.own.met
def cmpAv (a b : AdvV) : Int := cmpD a.to b.to
theorem validAs_vld (l : List AdvV) : validAs l = vldL 520 ava1 cmpAv l := by
 have h : adv1 l = vld1 ava1 cmpAv l := by
  funext i
  unfold adv1 vld1 ava1 cmpAv
  cases l[i]? with
  | none => rfl
  | some a => cases l[i - 1]? <;> rfl
 unfold validAs vldL
 rw [h]
end Go.Proofs.YtfhkmgcalcfibaaGreat
namespace Go.Proofs.YtfhkmgcalcfibaaGreat
open Go.RowKit
attribute [local irreducible] OpTo wpListIn Code.wpIn MW Cal
theorem SlAt.one {W : World} {sz n : Nat} {v : Value} {xs : List Value} (h : SlAt W sz v n xs) : v.oneCell' = true := by
 obtain ⟨p, cap, rfl, _⟩ := h
 rfl
theorem uvalidAs_c (l : List AdvV) (hx : ∀ x ∈ l, IsAv x) (v : Value) (W : World) (hS : SlAt W 37 v l.length (avsC l)) :
  Cal Tryz.prog 195 [v].toArray W fun r w' => r = .bool (validAs l) ∧ Ext [] W w' := by
 obtain ⟨q, cap, rfl, _⟩ := id hS
 have hm := hS.memB [] (by simp)
 rw [validAs_vld]
 generalize hV : vldL 520 ava1 cmpAv l = b0
 refine g_start (n := 41) (S := []) fldT_ok slcT_ok Tryz.func195 rfl rfl rfl ?_
 by_cases c0 : 520 < l.length
 ·refine gR 13 rfl ?_
  exact g_ifT rfl (dqT (by omega)) (gR 7 rfl (g_ret1 rfl rfl rfl fun w M => vl_L hV c0 M.ext))
 refine gR 13 rfl (g_ifF rfl (dqF (by omega)) (gR 11 rfl (g_loop (ι := Nat) ⟨fun (i : Nat) => l.length - i, fun (i : Nat) => i ≤ l.length ∧ (∀ j, j < i → vld1 ava1 cmpAv l j = true), fun (i : Nat) => [(10, .int .i64 i), (9, .int .i64 l.length), (8, .slice q l.length cap), (0, .slice q l.length cap)], fun (i : Nat) => []⟩ 0 ⟨by omega, by omega⟩ (fun a F => F.only [10, 9, 8, 0] rfl) (by repeat (first | exact .refl _ | apply sC2 | apply sC1)) ?_)))
 rintro i ⟨hi_i, hv⟩
 by_cases hlt_i : i < l.length
 ·obtain ⟨b, o, cs, t', fz, rfl, hb, hs⟩ := hm (by omega)
  obtain ⟨x, hx0⟩ : ∃ x, x = l[i] := ⟨_, rfl⟩
  have hxm : x ∈ l := by rw [hx0];exact List.getElem_mem hlt_i
  have hxi : IsAv x := hx _ hxm
  have f1 : seg cs (o + (i : Int).toNat * 37) 37 = some (avC x) := by rw [hx0];exact seg_el (avs_len hx) hs hlt_i (by omega)
  replace hx0 := hx0.symm
  have xd : IsDv x.to := hxi.1
  by_cases hi0 : 0 < i
  ·obtain ⟨y, hy0⟩ : ∃ y, y = l[i - 1]'(by omega) := ⟨_, rfl⟩
   have yI : IsAv y := by rw [hy0];exact hx _ (List.getElem_mem _)
   have f2 : seg cs (o + ((i : Int) - 1).toNat * 37) 37 = some (avC y) := by rw [hy0];exact seg_el (avs_len hx) hs (show i - 1 < l.length by omega) (by omega)
   replace hy0 := hy0.symm
   have yd : IsDv y.to := yI.1
   refine gR 6 rfl (g_ifT rfl (dqT (by omega)) (gR 7 rfl (g_ixS rfl rfl (by omega) (by omega) (g_leA rfl ‹_› (by with_reducible assumption) ?_))))
   refine g_alloc fun b4 => gR 1 rfl (g_stA 0 rfl rfl (av_len ‹_›) (av_one _) rfl (put_all (by rw [av_len ‹_›];first | rfl | rw [av_len ‹_›])) rfl ?_)
   refine gR 6 rfl (g_ldA 0 rfl rfl (av_to ‹_›) ?_)
   refine g_call rfl rfl (fun w M => validTo_c _ ‹_› _) ?_
   refine gR 2 rfl (g_split 19 rfl (fun h1 => ?_) (fun h1 => ?_))
   ·replace h1 := false_of_not h1
    exact gR 18 rfl (g_outR (gR 2 rfl (g_ret1 rfl rfl rfl fun w M => vl_F hV hlt_i hx0.symm (by (unfold ava1;simp [*];done)) M.ext)))
   ·replace h1 := true_of_not h1
    refine gR 2 rfl (g_ld1 0 rfl rfl (av_own_met ‹_›) ?_)
    refine g_call rfl rfl (fun w M => mvalid_c _ _) (gR 4 rfl (g_if rfl (fun h2 => ?_) (fun h2 => ?_)))
    ·replace h2 := false_of_not h2
     exact gR 9 rfl (g_outR (gR 2 rfl (g_ret1 rfl rfl rfl fun w M => vl_F hV hlt_i hx0.symm (by (unfold ava1;simp [*];done)) M.ext)))
    ·replace h2 := true_of_not h2
     refine gR 3 rfl (g_draw 14 41 rfl (by kernel_rfl) (fR 3 rfl (fd_know 28 rfl (dqT (by omega)) (fR 2 rfl (fd_sub rfl rfl (w_i64 (by omega) (by omega)) (fd_ixS rfl rfl (by omega) (by omega) (fR 1 rfl (fd_leA rfl ‹_› (sg_seg f2 (av_to ‹_›) (by omega)) ?_))))))))
     refine fR 1 rfl (fd_ldA 0 rfl rfl (av_to ‹_›) ?_)
     refine fd_call rfl rfl (fun w M => scompare_c _ _ ‹_› ‹_› _) ?_
     refine fR 2 rfl (fd_done rfl rfl (gR 2 rfl (g_if rfl (fun h3 => ?_) (fun h3 => ?_))))
     ·replace h3 := dqU h3
      exact gR 8 rfl (g_outR (gR 2 rfl (g_ret1 rfl rfl rfl fun w M => vl_S hV hlt_i hi0 hx0.symm hy0.symm (by unfold cmpAv;omega) M.ext)))
     ·replace h3 := dqV h3
      refine gR 4 rfl (g_add rfl rfl (w_i64 (by omega) (by omega)) (gR 2 rfl ?_))
      exact g_next (i + 1) ⟨by omega, vl_N hlt_i hx0.symm hv (by (unfold ava1;simp [*];done)) fun _ => by rw [hy0];exact (by unfold cmpAv;omega)⟩ (by dsimp only;omega) (fun a F => F.only [10, 9, 8, 0] rfl) (by (try dsimp only);repeat (first | exact .refl _ | with_reducible exact sC0 _ | with_reducible apply sC2 | apply sC1))
  ·refine gR 6 rfl ?_
   refine g_ifT rfl (dqT (by omega)) (gR 7 rfl (g_ixS rfl rfl (by omega) (by omega) (g_leA rfl ‹_› (by with_reducible assumption) ?_)))
   refine g_alloc fun b4 => gR 1 rfl (g_stA 0 rfl rfl (av_len ‹_›) (av_one _) rfl (put_all (by rw [av_len ‹_›];first | rfl | rw [av_len ‹_›])) rfl ?_)
   refine gR 6 rfl (g_ldA 0 rfl rfl (av_to ‹_›) ?_)
   refine g_call rfl rfl (fun w M => validTo_c _ ‹_› _) ?_
   refine gR 2 rfl (g_split 19 rfl (fun h1 => ?_) (fun h1 => ?_))
   ·replace h1 := false_of_not h1
    exact gR 18 rfl (g_outR (gR 2 rfl (g_ret1 rfl rfl rfl fun w M => vl_F hV hlt_i hx0.symm (by (unfold ava1;simp [*];done)) M.ext)))
   ·replace h1 := true_of_not h1
    refine gR 2 rfl (g_ld1 0 rfl rfl (av_own_met ‹_›) ?_)
    refine g_call rfl rfl (fun w M => mvalid_c _ _) (gR 4 rfl (g_if rfl (fun h2 => ?_) (fun h2 => ?_)))
    ·replace h2 := false_of_not h2
     exact gR 9 rfl (g_outR (gR 2 rfl (g_ret1 rfl rfl rfl fun w M => vl_F hV hlt_i hx0.symm (by (unfold ava1;simp [*];done)) M.ext)))
    ·replace h2 := true_of_not h2
     exact gR 3 rfl (g_draw 14 41 rfl (by kernel_rfl) (fR 3 rfl (fd_know 28 rfl (dqF (by omega)) (fR 11 rfl (fd_done rfl rfl (gR 7 rfl (g_add rfl rfl (w_i64 (by omega) (by omega)) (gR 2 rfl (g_next (i + 1) ⟨by omega, vl_N hlt_i hx0.symm hv (by (unfold ava1;simp [*];done)) fun h => absurd h hi0⟩ (by dsimp only;omega) (fun a F => F.only [10, 9, 8, 0] rfl) (by (try dsimp only);repeat (first | exact .refl _ | with_reducible exact sC0 _ | with_reducible apply sC2 | apply sC1)))))))))))
 ·have hil : i = l.length := by omega
  rw [hil] at hv
  exact gR 6 rfl (g_ifF rfl (dqF (by omega)) (gR 2 rfl (g_outX (gR 8 rfl (g_ret1 rfl rfl rfl fun w M => vl_T hV (by omega) hv M.ext)))))
theorem rvalidAs_c (l : List AdvV) (hx : ∀ x ∈ l, IsAv x) (v : Value) (W : World) (hS : SlAt W 37 v l.length (avsC l)) :
  Cal Tryz.prog 201 [v].toArray W fun r w' => r = .bool (validAs l) ∧ Ext [] W w' := by
 obtain ⟨q, cap, rfl, _⟩ := id hS
 have hm := hS.memB [] (by simp)
 rw [validAs_vld]
 generalize hV : vldL 520 ava1 cmpAv l = b0
 refine g_start (n := 48) (S := []) fldT_ok slcT_ok Tryz.func201 rfl rfl rfl ?_
 by_cases c0 : 520 < l.length
 ·refine gR 13 rfl ?_
  exact g_ifT rfl (dqT (by omega)) (gR 7 rfl (g_ret1 rfl rfl rfl fun w M => vl_L hV c0 M.ext))
 refine gR 13 rfl (g_ifF rfl (dqF (by omega)) (gR 11 rfl (g_loop (ι := Nat) ⟨fun (i : Nat) => l.length - i, fun (i : Nat) => i ≤ l.length ∧ (∀ j, j < i → vld1 ava1 cmpAv l j = true), fun (i : Nat) => [(9, .int .i64 i), (8, .int .i64 l.length), (7, .slice q l.length cap), (0, .slice q l.length cap)], fun (i : Nat) => []⟩ 0 ⟨by omega, by omega⟩ (fun a F => F.only [9, 8, 7, 0] rfl) (by repeat (first | exact .refl _ | apply sC2 | apply sC1)) ?_)))
 rintro i ⟨hi_i, hv⟩
 by_cases hlt_i : i < l.length
 ·obtain ⟨b, o, cs, t', fz, rfl, hb, hs⟩ := hm (by omega)
  obtain ⟨x, hx0⟩ : ∃ x, x = l[i] := ⟨_, rfl⟩
  have hxm : x ∈ l := by rw [hx0];exact List.getElem_mem hlt_i
  have hxi : IsAv x := hx _ hxm
  have f1 : seg cs (o + (i : Int).toNat * 37) 37 = some (avC x) := by rw [hx0];exact seg_el (avs_len hx) hs hlt_i (by omega)
  replace hx0 := hx0.symm
  have xd : IsDv x.to := hxi.1
  by_cases hi0 : 0 < i
  ·obtain ⟨y, hy0⟩ : ∃ y, y = l[i - 1]'(by omega) := ⟨_, rfl⟩
   have yI : IsAv y := by rw [hy0];exact hx _ (List.getElem_mem _)
   have f2 : seg cs (o + ((i : Int) - 1).toNat * 37) 37 = some (avC y) := by rw [hy0];exact seg_el (avs_len hx) hs (show i - 1 < l.length by omega) (by omega)
   replace hy0 := hy0.symm
   have yd : IsDv y.to := yI.1
   refine gR 6 rfl (g_ifT rfl (dqT (by omega)) (gR 11 rfl (g_draw 35 48 rfl (by kernel_rfl) (fR 2 rfl (fd_ixS rfl rfl (by omega) (by omega) (fR 1 rfl (fd_leA rfl ‹_› (sg_seg f1 (av_to ‹_›) (by omega)) ?_)))))))
   refine fd_call rfl rfl (fun w M => rvalidTo_c _ ‹_› _) ?_
   refine fR 2 rfl (fd_split 19 rfl (fun h1 => ?_) (fun h1 => ?_))
   ·replace h1 := false_of_not h1
    exact fR 27 rfl (fd_done rfl rfl (gR 11 rfl (g_outR (gR 2 rfl (g_ret1 rfl rfl rfl fun w M => vl_F hV hlt_i hx0.symm (by (unfold ava1;simp [*];done)) M.ext)))))
   ·replace h1 := true_of_not h1
    refine fR 2 rfl (fd_ixS rfl rfl (by omega) (by omega) (fR 1 rfl (fd_leA rfl ‹_› (sg_seg f1 (av_own ‹_›) (by omega)) ?_)))
    refine fd_call rfl rfl (fun w M => rdvalid_c _ _) (fR 3 rfl (fd_split 28 rfl (fun h2 => ?_) (fun h2 => ?_)))
    ·replace h2 := false_of_not h2
     exact fR 18 rfl (fd_done rfl rfl (gR 11 rfl (g_outR (gR 2 rfl (g_ret1 rfl rfl rfl fun w M => vl_F hV hlt_i hx0.symm (by (unfold ava1;simp [*];done)) M.ext)))))
    ·replace h2 := true_of_not h2
     refine fR 3 rfl (fd_know 31 rfl (dqT (by omega)) (fR 2 rfl (fd_sub rfl rfl (w_i64 (by omega) (by omega)) (fd_ixS rfl rfl (by omega) (by omega) (fR 1 rfl (fd_leA rfl ‹_› (sg_seg f2 (av_to ‹_›) (by omega)) ?_))))))
     refine fR 2 rfl (fd_ixS rfl rfl (by omega) (by omega) (fR 1 rfl (fd_leA rfl ‹_› (sg_seg f1 (av_to ‹_›) (by omega)) ?_)))
     refine fd_call rfl rfl (fun w M => rcompare_c _ _ ‹_› ‹_› _) ?_
     refine fR 3 rfl (fd_done rfl rfl (gR 2 rfl (g_if rfl (fun h3 => ?_) (fun h3 => ?_))))
     ·replace h3 := dqU h3
      exact gR 8 rfl (g_outR (gR 2 rfl (g_ret1 rfl rfl rfl fun w M => vl_S hV hlt_i hi0 hx0.symm hy0.symm (by unfold cmpAv;omega) M.ext)))
     ·replace h3 := dqV h3
      refine gR 4 rfl (g_add rfl rfl (w_i64 (by omega) (by omega)) (gR 2 rfl ?_))
      exact g_next (i + 1) ⟨by omega, vl_N hlt_i hx0.symm hv (by (unfold ava1;simp [*];done)) fun _ => by rw [hy0];exact (by unfold cmpAv;omega)⟩ (by dsimp only;omega) (fun a F => F.only [9, 8, 7, 0] rfl) (by (try dsimp only);repeat (first | exact .refl _ | with_reducible exact sC0 _ | with_reducible apply sC2 | apply sC1))
  ·refine gR 6 rfl ?_
   refine g_ifT rfl (dqT (by omega)) (gR 11 rfl (g_draw 35 48 rfl (by kernel_rfl) (fR 2 rfl (fd_ixS rfl rfl (by omega) (by omega) (fR 1 rfl (fd_leA rfl ‹_› (sg_seg ‹_› (av_to ‹_›) (by omega)) ?_))))))
   refine fd_call rfl rfl (fun w M => rvalidTo_c _ ‹_› _) ?_
   refine fR 2 rfl (fd_split 19 rfl (fun h1 => ?_) (fun h1 => ?_))
   ·replace h1 := false_of_not h1
    exact fR 27 rfl (fd_done rfl rfl (gR 11 rfl (g_outR (gR 2 rfl (g_ret1 rfl rfl rfl fun w M => vl_F hV hlt_i hx0.symm (by (unfold ava1;simp [*];done)) M.ext)))))
   ·replace h1 := true_of_not h1
    refine fR 2 rfl (fd_ixS rfl rfl (by omega) (by omega) (fR 1 rfl (fd_leA rfl ‹_› (sg_seg ‹_› (av_own ‹_›) (by omega)) ?_)))
    refine fd_call rfl rfl (fun w M => rdvalid_c _ _) (fR 3 rfl (fd_split 28 rfl (fun h2 => ?_) (fun h2 => ?_)))
    ·replace h2 := false_of_not h2
     exact fR 18 rfl (fd_done rfl rfl (gR 11 rfl (g_outR (gR 2 rfl (g_ret1 rfl rfl rfl fun w M => vl_F hV hlt_i hx0.symm (by (unfold ava1;simp [*];done)) M.ext)))))
    ·replace h2 := true_of_not h2
     exact fR 3 rfl (fd_know 31 rfl (dqF (by omega)) (fR 15 rfl (fd_done rfl rfl (gR 7 rfl (g_add rfl rfl (w_i64 (by omega) (by omega)) (gR 2 rfl (g_next (i + 1) ⟨by omega, vl_N hlt_i hx0.symm hv (by (unfold ava1;simp [*];done)) fun h => absurd h hi0⟩ (by dsimp only;omega) (fun a F => F.only [9, 8, 7, 0] rfl) (by (try dsimp only);repeat (first | exact .refl _ | with_reducible exact sC0 _ | with_reducible apply sC2 | apply sC1)))))))))
 ·have hil : i = l.length := by omega
  rw [hil] at hv
  exact gR 6 rfl (g_ifF rfl (dqF (by omega)) (gR 2 rfl (g_outX (gR 8 rfl (g_ret1 rfl rfl rfl fun w M => vl_T hV (by omega) hv M.ext)))))
def plC (v : Value) (full : Int) : List Value := [v, .int .i64 full]
theorem uvalid_c (l : List AdvV) (hx : ∀ x ∈ l, IsAv x) (v : Value) (full : Int) (W : World) (hS : SlAt W 37 v l.length (avsC l)) :
  Cal Tryz.prog 107 [.agg (plC v full).toArray].toArray W fun r w' => r = .bool (validAs l && isTime full) ∧ Ext [] W w' := by
 have k := uvalidAs_c l hx v
 have h1 := hS.one
 unfold plC
 refine fn_ofM (n := 11) [] Tryz.func107 rfl rfl rfl ?_
 intro a w F M hwW
 refine c_seq (c_region ?_)
 (refine sD F (o_box M (F.e rfl) rfl ?_);clear F M;intro b1 w M a F)
 refine sD F (o_assign (F.e rfl) ?_);clear F a;intro a F
 with_reducible refine l_nil (q_then (c_seq (c_region ?_)))
 refine sD F (o_fieldAddr (F.e rfl) fun a F => sD F (o_load1 M (F.e rfl) (by repeat constructor) (by rfl) ?_));iterate 2 clear F a
 intro a F
 (refine sD F (o_call (F.e rfl) (F.evs rfl) (Cal.mono (k _ (hS.later M.ext)) ?_));clear F;clear a;rintro _ w ⟨rfl, hE⟩ a F;replace M := M.later hE;clear hE)
 cases c1 : validAs l
 ·rw [c1] at F
  refine sD F (o_move (F.e rfl) fun a F => sO F fun a F => sO F fun a F => sO F fun a F => sD F (o_pickF (F.e rfl) (F.e rfl) fun a F => sD F (o_assign (F.e rfl) ?_)));iterate 6 clear F a
  intro a F
  with_reducible refine l_nil (q_then (c_ret ?_))
  exact p_ret F rfl (.cons (.tmp (F.e rfl)) .nil) (⟨rfl, M.ext⟩)
 ·rw [c1] at F
  refine sD F (o_move (F.e rfl) fun a F => sG F (o_fieldAddr (F.e rfl) fun a F => sG F (o_load1 M (F.e rfl) (by repeat constructor) (by rfl) ?_)));iterate 3 clear F a
  intro a F
  (refine sG F (o_call (F.e rfl) (F.evs rfl) (Cal.mono (uisTime_c full _) ?_));clear F;clear a;rintro _ w ⟨rfl, hE⟩ a F;replace M := M.later hE;clear hE)
  refine sD F (o_pickT (F.e rfl) (F.e rfl) fun a F => sD F (o_assign (F.e rfl) ?_));iterate 2 clear F a
  intro a F
  with_reducible refine l_nil (q_then (c_ret ?_))
  exact p_ret F rfl (.cons (.tmp (F.e rfl)) .nil) (⟨rfl, M.ext⟩)
theorem rvalid_c (l : List AdvV) (hx : ∀ x ∈ l, IsAv x) (v : Value) (full : Int) (W : World) (hS : SlAt W 37 v l.length (avsC l)) :
  Cal Tryz.prog 117 [.agg (plC v full).toArray].toArray W fun r w' => r = .bool (validAs l && isTime full) ∧ Ext [] W w' := by
 have k := rvalidAs_c l hx v
 have h1 := hS.one
 unfold plC
 refine fn_ofM (n := 11) [] Tryz.func117 rfl rfl rfl ?_
 intro a w F M hwW
 refine c_seq (c_region ?_)
 (refine sD F (o_box M (F.e rfl) rfl ?_);clear F M;intro b1 w M a F)
 refine sD F (o_assign (F.e rfl) ?_);clear F a;intro a F
 with_reducible refine l_nil (q_then (c_seq (c_region ?_)))
 refine sD F (o_fieldAddr (F.e rfl) fun a F => sD F (o_load1 M (F.e rfl) (by repeat constructor) (by rfl) ?_));iterate 2 clear F a
 intro a F
 (refine sD F (o_call (F.e rfl) (F.evs rfl) (Cal.mono (k _ (hS.later M.ext)) ?_));clear F;clear a;rintro _ w ⟨rfl, hE⟩ a F;replace M := M.later hE;clear hE)
 cases c1 : validAs l
 ·rw [c1] at F
  refine sD F (o_move (F.e rfl) fun a F => sO F fun a F => sO F fun a F => sO F fun a F => sD F (o_pickF (F.e rfl) (F.e rfl) fun a F => sD F (o_assign (F.e rfl) ?_)));iterate 6 clear F a
  intro a F
  with_reducible refine l_nil (q_then (c_ret ?_))
  exact p_ret F rfl (.cons (.tmp (F.e rfl)) .nil) (⟨rfl, M.ext⟩)
 ·rw [c1] at F
  refine sD F (o_move (F.e rfl) fun a F => sG F (o_fieldAddr (F.e rfl) fun a F => sG F (o_load1 M (F.e rfl) (by repeat constructor) (by rfl) ?_)));iterate 3 clear F a
  intro a F
  (refine sG F (o_call (F.e rfl) (F.evs rfl) (Cal.mono (risTime_c full _) ?_));clear F;clear a;rintro _ w ⟨rfl, hE⟩ a F;replace M := M.later hE;clear hE)
  refine sD F (o_pickT (F.e rfl) (F.e rfl) fun a F => sD F (o_assign (F.e rfl) ?_));iterate 2 clear F a
  intro a F
  with_reducible refine l_nil (q_then (c_ret ?_))
  exact p_ret F rfl (.cons (.tmp (F.e rfl)) .nil) (⟨rfl, M.ext⟩)
end Go.Proofs.YtfhkmgcalcfibaaGreat
namespace Go.Proofs.YtfhkmgcalcfibaaGreat
open Go.ChangeShapes Go.WideShapes Go.ChangeAt Go.RowKit
section
variable {H : Type} {enc : TypeId × Value → H} {w : World} {base : Nat} {sp : Nat → Bool} {held : Bool}
set_option maxRecDepth 100000 in
theorem dec_av (n : Nat) (cs : List Value) (y : DataW H × List MemPlace) (h : DataW.trod enc Tryz.prog w base sp held n 100 cs = some y) : ∃ x : AdvV, IsAv x ∧ cs = avC x := by
 have hw := open_leaf 8 100 (List.replicate 16 (.i .u8) ++ (.i .i64 :: (List.replicate 16 (.i .u8) ++ [.i .i64, .i .u64, .i .u16, .i .i64]))) (by kernel_rfl) n cs y h (.inl (by kernel_rfl))
 obtain ⟨c0, c1, rfl, h1, h2⟩ := wfK_split hw
 obtain ⟨a1, rfl, hl1, hb1⟩ := ip_wf c0 16 h1
 obtain ⟨x1, c2, rfl, g1, h3⟩ := wfK_cons h2
 obtain ⟨c3, c4, rfl, h4, h5⟩ := wfK_split (ks := List.replicate 16 (LK.i .u8)) (ks' := [LK.i .i64, LK.i .u64, LK.i .u16, LK.i .i64]) h3
 obtain ⟨a2, rfl, hl2, hb2⟩ := ip_wf c3 16 h4
 obtain ⟨x2, c5, rfl, g2, h6⟩ := wfK_cons h5
 obtain ⟨x3, c6, rfl, g3, h7⟩ := wfK_cons h6
 obtain ⟨x4, c7, rfl, g4, h8⟩ := wfK_cons h7
 obtain ⟨x5, c8, rfl, g5, h9⟩ := wfK_cons h8
 obtain rfl := wfK_nil h9
 obtain ⟨n1, rfl, _, _⟩ := wfV_int g1
 obtain ⟨n2, rfl, _, _⟩ := wfV_int g2
 obtain ⟨n3, rfl, _, _⟩ := wfV_int g3
 obtain ⟨n4, rfl, _, _⟩ := wfV_int g4
 obtain ⟨n5, rfl, _, _⟩ := wfV_int g5
 exact ⟨⟨⟨a1, n1, a2, n2, n3⟩, ⟨n4, n5⟩⟩, ⟨⟨⟨hl1, hb1⟩, ⟨hl2, hb2⟩⟩, trivial⟩, by simp [avC, dvC, diC, pfC]⟩
set_option maxRecDepth 100000 in
theorem dec_plan (n : Nat) (cs : List Value) (y : DataW H × List MemPlace) (h : DataW.trod enc Tryz.prog w base sp held n 51 cs = some y) : ∃ (u : Value) (l : List AdvV) (fl : Int), (∀ x ∈ l, IsAv x) ∧ SlAt w 37 u l.length (avsC l) ∧ cs = plC u fl := by
 obtain ⟨xs, m, rfl, _, hl, hn, hat⟩ := DataW.trod_struct Tryz.underlying51 h
 have hc : Tryz.prog.cellsOf 51 = 2 := by kernel_rfl
 have hi : Tryz.prog.cellsOf 3 = 1 := by kernel_rfl
 have hp : Tryz.prog.cellsOf 49 = 1 := by kernel_rfl
 rw [hc] at hl
 have hxl : xs.length = 2 := hn
 have a0 : DataW.trod enc Tryz.prog w base sp held m 49 ((cs.drop 0).take (Tryz.prog.cellsOf 49)) = xs[0]? := hat 0 _ rfl
 have a1 : DataW.trod enc Tryz.prog w base sp held m 3 ((cs.drop 1).take (Tryz.prog.cellsOf 3)) = xs[1]? := hat 1 _ rfl
 rw [List.getElem?_eq_getElem (by omega)] at a0 a1
 rw [hp] at a0
 rw [hi] at a1
 obtain ⟨u, l, e0, hl0, hS, _⟩ := open_slG (sz := 37) Tryz.underlying49 (by kernel_rfl) (by omega) dec_av a0
 obtain ⟨fl, e1, _, _⟩ := DataW.trod_int Tryz.underlying3 a1
 refine ⟨u, l, fl, hl0, hS, ?_⟩
 match cs, hl, e0, e1 with
 | [c0, c1], _, e0, e1 =>
  simp only [List.drop_zero, List.take_succ_cons, List.take_zero, List.drop_succ_cons, List.cons.injEq, and_true] at e0 e1
  rw [e0, e1]
  rfl
end
section
variable {H : Type} {enc : TypeId × Value → H} {w : World} {r : Reach} {b0 base : Nat} {sp : Nat → Bool} {held : Bool} {v : Value} {d : DataW H} {p : List MemPlace}
theorem agg_of {P : Program} {t : TypeId} (ht : isAggT P t = true) (hval : Value.okWide P w r b0 t v) : ∃ cs : List Value, v = .agg cs.toArray := by
 unfold isAggT at ht
 unfold Value.okWide at hval
 split at ht
 ·rename_i hu;rw [hu] at hval;obtain ⟨cs, h, _⟩ := hval;exact ⟨cs.toList, by simpa using h⟩
 ·rename_i hu;rw [hu] at hval;obtain ⟨cs, h, _⟩ := hval;exact ⟨cs.toList, by simpa using h⟩
 ·cases ht
end
section
variable {H : Type} {enc : TypeId × Value → H} {w : World} {base : Nat} {sp : Nat → Bool} {held : Bool}
set_option maxRecDepth 100000 in
theorem dec_in (n : Nat) (cs : List Value) (y : DataW H × List MemPlace) (h : DataW.trod enc Tryz.prog w base sp held n 74 cs = some y) : ∃ x : InsV, IsIn x ∧ cs = inC x := by
 have hw := open_leaf 8 74 (List.replicate 16 (.i .u8) ++ (.i .i64 :: (List.replicate 16 (.i .u8) ++ [.i .i64, .i .u64, .i .u64, .i .u16, .i .i64, .i .i64, .i .i64]))) (by kernel_rfl) n cs y h (.inl (by kernel_rfl))
 obtain ⟨c0, c1, rfl, h1, h2⟩ := wfK_split hw
 obtain ⟨a1, rfl, hl1, hb1⟩ := ip_wf c0 16 h1
 obtain ⟨x1, c2, rfl, g1, h3⟩ := wfK_cons h2
 obtain ⟨c3, c4, rfl, h4, h5⟩ := wfK_split (ks := List.replicate 16 (LK.i .u8)) (ks' := [LK.i .i64, .i .u64, .i .u64, .i .u16, .i .i64, .i .i64, .i .i64]) h3
 obtain ⟨a2, rfl, hl2, hb2⟩ := ip_wf c3 16 h4
 obtain ⟨n1, rfl, _, _⟩ := wfV_int g1
 obtain ⟨y0, d0, rfl, k0, r0⟩ := wfK_cons h5
 obtain ⟨m0, rfl, _, _⟩ := wfV_int k0
 obtain ⟨y1, d1, rfl, k1, r1⟩ := wfK_cons r0
 obtain ⟨m1, rfl, _, _⟩ := wfV_int k1
 obtain ⟨y2, d2, rfl, k2, r2⟩ := wfK_cons r1
 obtain ⟨m2, rfl, _, _⟩ := wfV_int k2
 obtain ⟨y3, d3, rfl, k3, r3⟩ := wfK_cons r2
 obtain ⟨m3, rfl, _, _⟩ := wfV_int k3
 obtain ⟨y4, d4, rfl, k4, r4⟩ := wfK_cons r3
 obtain ⟨m4, rfl, _, _⟩ := wfV_int k4
 obtain ⟨y5, d5, rfl, k5, r5⟩ := wfK_cons r4
 obtain ⟨m5, rfl, _, _⟩ := wfV_int k5
 obtain ⟨y6, d6, rfl, k6, r6⟩ := wfK_cons r5
 obtain ⟨m6, rfl, _, _⟩ := wfV_int k6
 obtain rfl := wfK_nil r6
 exact ⟨⟨⟨a1, n1, a2, m0, m1⟩, m2, ⟨m3, m4⟩, m5, m6⟩, ⟨⟨⟨hl1, hb1⟩, ⟨hl2, hb2⟩⟩, trivial⟩, by simp [inC, dvC, diC, pfC]⟩
set_option maxRecDepth 100000 in
theorem dec_ro (n : Nat) (cs : List Value) (y : DataW H × List MemPlace) (h : DataW.trod enc Tryz.prog w base sp held n 76 cs = some y) : ∃ x : RouV, IsRo x ∧ cs = roC x := by
 have hw := open_leaf 8 76 (List.replicate 16 (.i .u8) ++ (.i .i64 :: (List.replicate 16 (.i .u8) ++ [.i .i64, .i .u64, .i .u64, .i .u16, .i .i64, .i .i64]))) (by kernel_rfl) n cs y h (.inl (by kernel_rfl))
 obtain ⟨c0, c1, rfl, h1, h2⟩ := wfK_split hw
 obtain ⟨a1, rfl, hl1, hb1⟩ := ip_wf c0 16 h1
 obtain ⟨x1, c2, rfl, g1, h3⟩ := wfK_cons h2
 obtain ⟨c3, c4, rfl, h4, h5⟩ := wfK_split (ks := List.replicate 16 (LK.i .u8)) (ks' := [LK.i .i64, .i .u64, .i .u64, .i .u16, .i .i64, .i .i64]) h3
 obtain ⟨a2, rfl, hl2, hb2⟩ := ip_wf c3 16 h4
 obtain ⟨n1, rfl, _, _⟩ := wfV_int g1
 obtain ⟨y0, d0, rfl, k0, r0⟩ := wfK_cons h5
 obtain ⟨m0, rfl, _, _⟩ := wfV_int k0
 obtain ⟨y1, d1, rfl, k1, r1⟩ := wfK_cons r0
 obtain ⟨m1, rfl, _, _⟩ := wfV_int k1
 obtain ⟨y2, d2, rfl, k2, r2⟩ := wfK_cons r1
 obtain ⟨m2, rfl, _, _⟩ := wfV_int k2
 obtain ⟨y3, d3, rfl, k3, r3⟩ := wfK_cons r2
 obtain ⟨m3, rfl, _, _⟩ := wfV_int k3
 obtain ⟨y4, d4, rfl, k4, r4⟩ := wfK_cons r3
 obtain ⟨m4, rfl, _, _⟩ := wfV_int k4
 obtain ⟨y5, d5, rfl, k5, r5⟩ := wfK_cons r4
 obtain ⟨m5, rfl, _, _⟩ := wfV_int k5
 obtain rfl := wfK_nil r5
 exact ⟨⟨⟨a1, n1, a2, m0, m1⟩, m2, ⟨m3, m4⟩, m5⟩, ⟨⟨⟨hl1, hb1⟩, ⟨hl2, hb2⟩⟩, trivial⟩, by simp [roC, dvC, diC, pfC]⟩
set_option maxRecDepth 100000 in
theorem dec_sr (n : Nat) (cs : List Value) (y : DataW H × List MemPlace) (h : DataW.trod enc Tryz.prog w base sp held n 166 cs = some y) : ∃ x : SrcV, IsSr x ∧ cs = srC x := by
 have hw := open_leaf 8 166 (List.replicate 16 (.i .u8) ++ (.i .i64 :: (List.replicate 16 (.i .u8) ++ [.i .i64, .i .u64, .i .u16, .i .i64, .i .i64]))) (by kernel_rfl) n cs y h (.inl (by kernel_rfl))
 obtain ⟨c0, c1, rfl, h1, h2⟩ := wfK_split hw
 obtain ⟨a1, rfl, hl1, hb1⟩ := ip_wf c0 16 h1
 obtain ⟨x1, c2, rfl, g1, h3⟩ := wfK_cons h2
 obtain ⟨c3, c4, rfl, h4, h5⟩ := wfK_split (ks := List.replicate 16 (LK.i .u8)) (ks' := [LK.i .i64, .i .u64, .i .u16, .i .i64, .i .i64]) h3
 obtain ⟨a2, rfl, hl2, hb2⟩ := ip_wf c3 16 h4
 obtain ⟨n1, rfl, _, _⟩ := wfV_int g1
 obtain ⟨y0, d0, rfl, k0, r0⟩ := wfK_cons h5
 obtain ⟨m0, rfl, _, _⟩ := wfV_int k0
 obtain ⟨y1, d1, rfl, k1, r1⟩ := wfK_cons r0
 obtain ⟨m1, rfl, _, _⟩ := wfV_int k1
 obtain ⟨y2, d2, rfl, k2, r2⟩ := wfK_cons r1
 obtain ⟨m2, rfl, _, _⟩ := wfV_int k2
 obtain ⟨y3, d3, rfl, k3, r3⟩ := wfK_cons r2
 obtain ⟨m3, rfl, _, _⟩ := wfV_int k3
 obtain ⟨y4, d4, rfl, k4, r4⟩ := wfK_cons r3
 obtain ⟨m4, rfl, _, _⟩ := wfV_int k4
 obtain rfl := wfK_nil r4
 exact ⟨⟨⟨a1, n1, a2, m0, m1⟩, ⟨m2, m3⟩, m4⟩, ⟨⟨⟨hl1, hb1⟩, ⟨hl2, hb2⟩⟩, trivial⟩, by simp [srC, dvC, diC, pfC]⟩
end
section
variable {H : Type} {enc : TypeId × Value → H} {w : World} {r : Reach} {b0 base : Nat} {sp : Nat → Bool} {held : Bool} {v : Value} {d : DataW H} {p : List MemPlace}
end
end Go.Proofs.YtfhkmgcalcfibaaGreat
namespace Go.Proofs.YtfhkmgcalcfibaaGreat
open Go.RowKit
structure OrgV where
 dip : List Int
 dbits : Int
 sip : List Int
 sbits : Int
 deriving DecidableEq
def ogC (o : OrgV) : List Value := pfC o.dip o.dbits ++ (pfC o.sip o.sbits)
def IsOg (o : OrgV) : Prop := IsIP o.dip ∧ IsIP o.sip
theorem og_len {o : OrgV} (h : IsOg o) : (ogC o).length = 34 := by
 obtain ⟨f_dip, f_dbits, f_sip, f_sbits⟩ := o
 obtain ⟨x0_0, x0_1, x0_2, x0_3, x0_4, x0_5, x0_6, x0_7, x0_8, x0_9, x0_10, x0_11, x0_12, x0_13, x0_14, x0_15, e0⟩ := len16 (show f_dip.length = 16 from (h.1).len)
 obtain ⟨x1_0, x1_1, x1_2, x1_3, x1_4, x1_5, x1_6, x1_7, x1_8, x1_9, x1_10, x1_11, x1_12, x1_13, x1_14, x1_15, e1⟩ := len16 (show f_sip.length = 16 from (h.2).len)
 subst e0
 subst e1
 rfl
theorem og_all {o : OrgV} (h : IsOg o) : seg (ogC o) 0 34 = some (ogC o) := sg_all (og_len h)
theorem og_dst {o : OrgV} (h : IsOg o) : seg (ogC o) 0 17 = some (pfC o.dip o.dbits) := by
 obtain ⟨f_dip, f_dbits, f_sip, f_sbits⟩ := o
 obtain ⟨x0_0, x0_1, x0_2, x0_3, x0_4, x0_5, x0_6, x0_7, x0_8, x0_9, x0_10, x0_11, x0_12, x0_13, x0_14, x0_15, e0⟩ := len16 (show f_dip.length = 16 from (h.1).len)
 obtain ⟨x1_0, x1_1, x1_2, x1_3, x1_4, x1_5, x1_6, x1_7, x1_8, x1_9, x1_10, x1_11, x1_12, x1_13, x1_14, x1_15, e1⟩ := len16 (show f_sip.length = 16 from (h.2).len)
 subst e0
 subst e1
 rfl
theorem og_src {o : OrgV} (h : IsOg o) : seg (ogC o) 17 17 = some (pfC o.sip o.sbits) := by
 obtain ⟨f_dip, f_dbits, f_sip, f_sbits⟩ := o
 obtain ⟨x0_0, x0_1, x0_2, x0_3, x0_4, x0_5, x0_6, x0_7, x0_8, x0_9, x0_10, x0_11, x0_12, x0_13, x0_14, x0_15, e0⟩ := len16 (show f_dip.length = 16 from (h.1).len)
 obtain ⟨x1_0, x1_1, x1_2, x1_3, x1_4, x1_5, x1_6, x1_7, x1_8, x1_9, x1_10, x1_11, x1_12, x1_13, x1_14, x1_15, e1⟩ := len16 (show f_sip.length = 16 from (h.2).len)
 subst e0
 subst e1
 rfl
theorem og_one (o : OrgV) : (ogC o).all (·.oneCell') = true := by
 simp [pfC, ipC, ogC, Value.oneCell']
def ogZ : List Value := [.int .u8 0, .int .u8 0, .int .u8 0, .int .u8 0, .int .u8 0, .int .u8 0, .int .u8 0, .int .u8 0, .int .u8 0, .int .u8 0, .int .u8 0, .int .u8 0, .int .u8 0, .int .u8 0, .int .u8 0, .int .u8 0, .int .i64 0, .int .u8 0, .int .u8 0, .int .u8 0, .int .u8 0, .int .u8 0, .int .u8 0, .int .u8 0, .int .u8 0, .int .u8 0, .int .u8 0, .int .u8 0, .int .u8 0, .int .u8 0, .int .u8 0, .int .u8 0, .int .u8 0, .int .i64 0]
theorem og_build {o : OrgV} (h : IsOg o) : putAll [(0, 17), (17, 17)] ogZ [(0, pfC o.dip o.dbits), (1, pfC o.sip o.sbits)] = some (ogC o) := by
 obtain ⟨f_dip, f_dbits, f_sip, f_sbits⟩ := o
 obtain ⟨x0_0, x0_1, x0_2, x0_3, x0_4, x0_5, x0_6, x0_7, x0_8, x0_9, x0_10, x0_11, x0_12, x0_13, x0_14, x0_15, e0⟩ := len16 (show f_dip.length = 16 from (h.1).len)
 obtain ⟨x1_0, x1_1, x1_2, x1_3, x1_4, x1_5, x1_6, x1_7, x1_8, x1_9, x1_10, x1_11, x1_12, x1_13, x1_14, x1_15, e1⟩ := len16 (show f_sip.length = 16 from (h.2).len)
 subst e0
 subst e1
 rfl
theorem og_build1 {o : OrgV} (h : IsOg o) : putAll (placesL 1 34) (zerosL ogZ (1 * 34)) [(0, ogC o)] = some (ogC o) := by
 obtain ⟨f_dip, f_dbits, f_sip, f_sbits⟩ := o
 obtain ⟨x0_0, x0_1, x0_2, x0_3, x0_4, x0_5, x0_6, x0_7, x0_8, x0_9, x0_10, x0_11, x0_12, x0_13, x0_14, x0_15, e0⟩ := len16 (show f_dip.length = 16 from (h.1).len)
 obtain ⟨x1_0, x1_1, x1_2, x1_3, x1_4, x1_5, x1_6, x1_7, x1_8, x1_9, x1_10, x1_11, x1_12, x1_13, x1_14, x1_15, e1⟩ := len16 (show f_sip.length = 16 from (h.2).len)
 subst e0
 subst e1
 rfl
abbrev ogsC (l : List OrgV) : List Value := encL ogC l
theorem ogs_len {l : List OrgV} (h : ∀ x ∈ l, IsOg x) : ∀ x ∈ l, (ogC x).length = 34 := fun x hx => og_len (h x hx)
theorem ogs_one {l : List OrgV} : (ogsC l).all (·.oneCell') = true := encL_all fun x _ => og_one x
structure QuaV where
 known : Bool
 heard : Int
 cnt : Int
 next : Int
 rep : Int
 deriving DecidableEq
def quC (o : QuaV) : List Value := [.bool o.known, .int .u8 o.heard, .int .i64 o.cnt, .int .u16 o.next, .int .i64 o.rep]
def IsQu (o : QuaV) : Prop := True
theorem qu_len {o : QuaV} (h : IsQu o) : (quC o).length = 5 := by
 obtain ⟨f_known, f_heard, f_cnt, f_next, f_rep⟩ := o
 rfl
theorem qu_all {o : QuaV} (h : IsQu o) : seg (quC o) 0 5 = some (quC o) := sg_all (qu_len h)
theorem qu_known {o : QuaV} (h : IsQu o) : nth (quC o) 0 = some (.bool o.known) := by
 obtain ⟨f_known, f_heard, f_cnt, f_next, f_rep⟩ := o
 rfl
theorem qu_heard {o : QuaV} (h : IsQu o) : nth (quC o) 1 = some (.int .u8 o.heard) := by
 obtain ⟨f_known, f_heard, f_cnt, f_next, f_rep⟩ := o
 rfl
theorem qu_cnt {o : QuaV} (h : IsQu o) : nth (quC o) 2 = some (.int .i64 o.cnt) := by
 obtain ⟨f_known, f_heard, f_cnt, f_next, f_rep⟩ := o
 rfl
theorem qu_next {o : QuaV} (h : IsQu o) : nth (quC o) 3 = some (.int .u16 o.next) := by
 obtain ⟨f_known, f_heard, f_cnt, f_next, f_rep⟩ := o
 rfl
theorem qu_rep {o : QuaV} (h : IsQu o) : nth (quC o) 4 = some (.int .i64 o.rep) := by
 obtain ⟨f_known, f_heard, f_cnt, f_next, f_rep⟩ := o
 rfl
theorem qu_one (o : QuaV) : (quC o).all (·.oneCell') = true := by
 simp [pfC, ipC, quC, Value.oneCell']
def quZ : List Value := [.bool false, .int .u8 0, .int .i64 0, .int .u16 0, .int .i64 0]
abbrev quK : List LK := [.b, .i .u8, .i .i64, .i .u16, .i .i64]
theorem qu_eq {a b : QuaV} (ha : IsQu a) (hb : IsQu b) : eqVs (quC a) (quC b) = decide (a = b) := by
 rw [Bool.eq_iff_iff, decide_eq_true_eq]
 obtain ⟨a_known, a_heard, a_cnt, a_next, a_rep⟩ := a
 obtain ⟨b_known, b_heard, b_cnt, b_next, b_rep⟩ := b
 simp only [quC, QuaV.mk.injEq]
 simp [eqVs, eqV, Bool.and_eq_true, beq_iff_eq, Bool.and_true, and_assoc, decide_eq_true_eq, List.cons_append, List.nil_append]
structure AdjV where
 nb : Int
 q : QuaV
 til : Int
 ans : Int
 deriving DecidableEq
def ajC (o : AdjV) : List Value := [.int .u64 o.nb] ++ (quC o.q ++ ([.int .i64 o.til, .int .i64 o.ans]))
def IsAj (o : AdjV) : Prop := IsQu o.q
theorem aj_len {o : AdjV} (h : IsAj o) : (ajC o).length = 8 := by
 obtain ⟨f_nb, ⟨f_q_known, f_q_heard, f_q_cnt, f_q_next, f_q_rep⟩, f_til, f_ans⟩ := o
 rfl
theorem aj_nb {o : AdjV} (h : IsAj o) : nth (ajC o) 0 = some (.int .u64 o.nb) := by
 obtain ⟨f_nb, ⟨f_q_known, f_q_heard, f_q_cnt, f_q_next, f_q_rep⟩, f_til, f_ans⟩ := o
 rfl
theorem aj_q {o : AdjV} (h : IsAj o) : seg (ajC o) 1 5 = some (quC o.q) := by
 obtain ⟨f_nb, ⟨f_q_known, f_q_heard, f_q_cnt, f_q_next, f_q_rep⟩, f_til, f_ans⟩ := o
 rfl
theorem aj_q_known {o : AdjV} (h : IsAj o) : nth (ajC o) 1 = some (.bool o.q.known) := by
 obtain ⟨f_nb, ⟨f_q_known, f_q_heard, f_q_cnt, f_q_next, f_q_rep⟩, f_til, f_ans⟩ := o
 rfl
theorem aj_til {o : AdjV} (h : IsAj o) : nth (ajC o) 6 = some (.int .i64 o.til) := by
 obtain ⟨f_nb, ⟨f_q_known, f_q_heard, f_q_cnt, f_q_next, f_q_rep⟩, f_til, f_ans⟩ := o
 rfl
theorem aj_ans {o : AdjV} (h : IsAj o) : nth (ajC o) 7 = some (.int .i64 o.ans) := by
 obtain ⟨f_nb, ⟨f_q_known, f_q_heard, f_q_cnt, f_q_next, f_q_rep⟩, f_til, f_ans⟩ := o
 rfl
theorem aj_one (o : AdjV) : (ajC o).all (·.oneCell') = true := by
 simp [pfC, ipC, ajC, quC, Value.oneCell']
def ajZ : List Value := [.int .u64 0, .bool false, .int .u8 0, .int .i64 0, .int .u16 0, .int .i64 0, .int .i64 0, .int .i64 0]
theorem aj_build1 {o : AdjV} (h : IsAj o) : putAll (placesL 1 8) (zerosL ajZ (1 * 8)) [(0, ajC o)] = some (ajC o) := by
 obtain ⟨f_nb, ⟨f_q_known, f_q_heard, f_q_cnt, f_q_next, f_q_rep⟩, f_til, f_ans⟩ := o
 rfl
abbrev ajsC (l : List AdjV) : List Value := encL ajC l
theorem ajs_len {l : List AdjV} (h : ∀ x ∈ l, IsAj x) : ∀ x ∈ l, (ajC x).length = 8 := fun x hx => aj_len (h x hx)
theorem ajs_one {l : List AdjV} : (ajsC l).all (·.oneCell') = true := encL_all fun x _ => aj_one x
structure ReqV where
 to : DstV
 seq : Int
 hops : Int
 frm : Int
 next : Int
 left : Int
 deriving DecidableEq
def rqC (o : ReqV) : List Value := dvC o.to ++ ([.int .u16 o.seq, .int .i64 o.hops, .int .u64 o.frm, .int .i64 o.next, .int .i64 o.left])
def IsRq (o : ReqV) : Prop := IsDv o.to
theorem rq_len {o : ReqV} (h : IsRq o) : (rqC o).length = 40 := by
 obtain ⟨⟨f_to_dip, f_to_dbits, f_to_sip, f_to_sbits, f_to_rt⟩, f_seq, f_hops, f_frm, f_next, f_left⟩ := o
 obtain ⟨x0_0, x0_1, x0_2, x0_3, x0_4, x0_5, x0_6, x0_7, x0_8, x0_9, x0_10, x0_11, x0_12, x0_13, x0_14, x0_15, e0⟩ := len16 (show f_to_dip.length = 16 from (h.1).len)
 obtain ⟨x1_0, x1_1, x1_2, x1_3, x1_4, x1_5, x1_6, x1_7, x1_8, x1_9, x1_10, x1_11, x1_12, x1_13, x1_14, x1_15, e1⟩ := len16 (show f_to_sip.length = 16 from (h.2).len)
 subst e0
 subst e1
 rfl
theorem rq_all {o : ReqV} (h : IsRq o) : seg (rqC o) 0 40 = some (rqC o) := sg_all (rq_len h)
theorem rq_to {o : ReqV} (h : IsRq o) : seg (rqC o) 0 35 = some (dvC o.to) := by
 obtain ⟨⟨f_to_dip, f_to_dbits, f_to_sip, f_to_sbits, f_to_rt⟩, f_seq, f_hops, f_frm, f_next, f_left⟩ := o
 obtain ⟨x0_0, x0_1, x0_2, x0_3, x0_4, x0_5, x0_6, x0_7, x0_8, x0_9, x0_10, x0_11, x0_12, x0_13, x0_14, x0_15, e0⟩ := len16 (show f_to_dip.length = 16 from (h.1).len)
 obtain ⟨x1_0, x1_1, x1_2, x1_3, x1_4, x1_5, x1_6, x1_7, x1_8, x1_9, x1_10, x1_11, x1_12, x1_13, x1_14, x1_15, e1⟩ := len16 (show f_to_sip.length = 16 from (h.2).len)
 subst e0
 subst e1
 rfl
theorem rq_seq {o : ReqV} (h : IsRq o) : nth (rqC o) 35 = some (.int .u16 o.seq) := by
 obtain ⟨⟨f_to_dip, f_to_dbits, f_to_sip, f_to_sbits, f_to_rt⟩, f_seq, f_hops, f_frm, f_next, f_left⟩ := o
 obtain ⟨x0_0, x0_1, x0_2, x0_3, x0_4, x0_5, x0_6, x0_7, x0_8, x0_9, x0_10, x0_11, x0_12, x0_13, x0_14, x0_15, e0⟩ := len16 (show f_to_dip.length = 16 from (h.1).len)
 obtain ⟨x1_0, x1_1, x1_2, x1_3, x1_4, x1_5, x1_6, x1_7, x1_8, x1_9, x1_10, x1_11, x1_12, x1_13, x1_14, x1_15, e1⟩ := len16 (show f_to_sip.length = 16 from (h.2).len)
 subst e0
 subst e1
 rfl
theorem rq_hops {o : ReqV} (h : IsRq o) : nth (rqC o) 36 = some (.int .i64 o.hops) := by
 obtain ⟨⟨f_to_dip, f_to_dbits, f_to_sip, f_to_sbits, f_to_rt⟩, f_seq, f_hops, f_frm, f_next, f_left⟩ := o
 obtain ⟨x0_0, x0_1, x0_2, x0_3, x0_4, x0_5, x0_6, x0_7, x0_8, x0_9, x0_10, x0_11, x0_12, x0_13, x0_14, x0_15, e0⟩ := len16 (show f_to_dip.length = 16 from (h.1).len)
 obtain ⟨x1_0, x1_1, x1_2, x1_3, x1_4, x1_5, x1_6, x1_7, x1_8, x1_9, x1_10, x1_11, x1_12, x1_13, x1_14, x1_15, e1⟩ := len16 (show f_to_sip.length = 16 from (h.2).len)
 subst e0
 subst e1
 rfl
theorem rq_next {o : ReqV} (h : IsRq o) : nth (rqC o) 38 = some (.int .i64 o.next) := by
 obtain ⟨⟨f_to_dip, f_to_dbits, f_to_sip, f_to_sbits, f_to_rt⟩, f_seq, f_hops, f_frm, f_next, f_left⟩ := o
 obtain ⟨x0_0, x0_1, x0_2, x0_3, x0_4, x0_5, x0_6, x0_7, x0_8, x0_9, x0_10, x0_11, x0_12, x0_13, x0_14, x0_15, e0⟩ := len16 (show f_to_dip.length = 16 from (h.1).len)
 obtain ⟨x1_0, x1_1, x1_2, x1_3, x1_4, x1_5, x1_6, x1_7, x1_8, x1_9, x1_10, x1_11, x1_12, x1_13, x1_14, x1_15, e1⟩ := len16 (show f_to_sip.length = 16 from (h.2).len)
 subst e0
 subst e1
 rfl
theorem rq_left {o : ReqV} (h : IsRq o) : nth (rqC o) 39 = some (.int .i64 o.left) := by
 obtain ⟨⟨f_to_dip, f_to_dbits, f_to_sip, f_to_sbits, f_to_rt⟩, f_seq, f_hops, f_frm, f_next, f_left⟩ := o
 obtain ⟨x0_0, x0_1, x0_2, x0_3, x0_4, x0_5, x0_6, x0_7, x0_8, x0_9, x0_10, x0_11, x0_12, x0_13, x0_14, x0_15, e0⟩ := len16 (show f_to_dip.length = 16 from (h.1).len)
 obtain ⟨x1_0, x1_1, x1_2, x1_3, x1_4, x1_5, x1_6, x1_7, x1_8, x1_9, x1_10, x1_11, x1_12, x1_13, x1_14, x1_15, e1⟩ := len16 (show f_to_sip.length = 16 from (h.2).len)
 subst e0
 subst e1
 rfl
theorem rq_put_left {o : ReqV} (h : IsRq o) (z : Int) : put (rqC o) 39 [.int .i64 z] = some (rqC { o with left := z }) := by
 obtain ⟨⟨f_to_dip, f_to_dbits, f_to_sip, f_to_sbits, f_to_rt⟩, f_seq, f_hops, f_frm, f_next, f_left⟩ := o
 obtain ⟨x0_0, x0_1, x0_2, x0_3, x0_4, x0_5, x0_6, x0_7, x0_8, x0_9, x0_10, x0_11, x0_12, x0_13, x0_14, x0_15, e0⟩ := len16 (show f_to_dip.length = 16 from (h.1).len)
 obtain ⟨x1_0, x1_1, x1_2, x1_3, x1_4, x1_5, x1_6, x1_7, x1_8, x1_9, x1_10, x1_11, x1_12, x1_13, x1_14, x1_15, e1⟩ := len16 (show f_to_sip.length = 16 from (h.2).len)
 subst e0
 subst e1
 rfl
theorem rq_one (o : ReqV) : (rqC o).all (·.oneCell') = true := by
 simp [pfC, ipC, rqC, dvC, Value.oneCell']
def rqZ : List Value := [.int .u8 0, .int .u8 0, .int .u8 0, .int .u8 0, .int .u8 0, .int .u8 0, .int .u8 0, .int .u8 0, .int .u8 0, .int .u8 0, .int .u8 0, .int .u8 0, .int .u8 0, .int .u8 0, .int .u8 0, .int .u8 0, .int .i64 0, .int .u8 0, .int .u8 0, .int .u8 0, .int .u8 0, .int .u8 0, .int .u8 0, .int .u8 0, .int .u8 0, .int .u8 0, .int .u8 0, .int .u8 0, .int .u8 0, .int .u8 0, .int .u8 0, .int .u8 0, .int .u8 0, .int .i64 0, .int .u64 0, .int .u16 0, .int .i64 0, .int .u64 0, .int .i64 0, .int .i64 0]
theorem rq_build {o : ReqV} (h : IsRq o) : putAll [(0, 35), (35, 1), (36, 1), (37, 1), (38, 1), (39, 1)] rqZ [(0, dvC o.to), (1, [.int .u16 o.seq]), (2, [.int .i64 o.hops]), (3, [.int .u64 o.frm]), (4, [.int .i64 o.next]), (5, [.int .i64 o.left])] = some (rqC o) := by
 obtain ⟨⟨f_to_dip, f_to_dbits, f_to_sip, f_to_sbits, f_to_rt⟩, f_seq, f_hops, f_frm, f_next, f_left⟩ := o
 obtain ⟨x0_0, x0_1, x0_2, x0_3, x0_4, x0_5, x0_6, x0_7, x0_8, x0_9, x0_10, x0_11, x0_12, x0_13, x0_14, x0_15, e0⟩ := len16 (show f_to_dip.length = 16 from (h.1).len)
 obtain ⟨x1_0, x1_1, x1_2, x1_3, x1_4, x1_5, x1_6, x1_7, x1_8, x1_9, x1_10, x1_11, x1_12, x1_13, x1_14, x1_15, e1⟩ := len16 (show f_to_sip.length = 16 from (h.2).len)
 subst e0
 subst e1
 rfl
theorem rq_build1 {o : ReqV} (h : IsRq o) : putAll (placesL 1 40) (zerosL rqZ (1 * 40)) [(0, rqC o)] = some (rqC o) := by
 obtain ⟨⟨f_to_dip, f_to_dbits, f_to_sip, f_to_sbits, f_to_rt⟩, f_seq, f_hops, f_frm, f_next, f_left⟩ := o
 obtain ⟨x0_0, x0_1, x0_2, x0_3, x0_4, x0_5, x0_6, x0_7, x0_8, x0_9, x0_10, x0_11, x0_12, x0_13, x0_14, x0_15, e0⟩ := len16 (show f_to_dip.length = 16 from (h.1).len)
 obtain ⟨x1_0, x1_1, x1_2, x1_3, x1_4, x1_5, x1_6, x1_7, x1_8, x1_9, x1_10, x1_11, x1_12, x1_13, x1_14, x1_15, e1⟩ := len16 (show f_to_sip.length = 16 from (h.2).len)
 subst e0
 subst e1
 rfl
abbrev rqsC (l : List ReqV) : List Value := encL rqC l
theorem rqs_len {l : List ReqV} (h : ∀ x ∈ l, IsRq x) : ∀ x ∈ l, (rqC x).length = 40 := fun x hx => rq_len (h x hx)
theorem rqs_one {l : List ReqV} : (rqsC l).all (·.oneCell') = true := encL_all fun x _ => rq_one x
end Go.Proofs.YtfhkmgcalcfibaaGreat
namespace Go.Proofs.YtfhkmgcalcfibaaGreat
open Go.RowKit
attribute [local irreducible] OpTo wpListIn Code.wpIn MW Cal
def qu0 : QuaV := ⟨false, 0, 0, 0, 0⟩
structure BdQu (o : QuaV) : Prop where
 h : 0 ≤ o.heard ∧ o.heard < 256
 c : -9223372036854775808 ≤ o.cnt ∧ o.cnt ≤ 9223372036854775807
 r : -9223372036854775808 ≤ o.rep ∧ o.rep ≤ 9223372036854775807
theorem BdQu.zero : BdQu qu0 := ⟨by decide, by decide, by decide⟩
def shl1 (n : Int) : Int := IntKind.i64.wrap (1 * 2 ^ min n.toNat IntKind.i64.bits)
def QuP (o : QuaV) : Prop := 1 ≤ o.cnt ∧ o.cnt ≤ 8 ∧ o.heard ≠ 0 ∧ o.heard < shl1 o.cnt ∧ 0 ≤ o.rep ∧ o.rep ≤ 65535
instance (o : QuaV) : Decidable (QuP o) := by unfold QuP;infer_instance
def quIn (o : QuaV) : Bool := decide (QuP o)
theorem qiT {o : QuaV} (h1 : 1 ≤ o.cnt) (h2 : o.cnt ≤ 8) (h3 : o.heard ≠ 0) (h4 : o.heard < shl1 o.cnt) (h5 : 0 ≤ o.rep) : Value.bool (decide (o.rep ≤ 65535)) = .bool (quIn o) := by
 unfold quIn
 congr 1
 rw [decide_eq_decide]
 exact ⟨fun h => ⟨h1, h2, h3, h4, h5, h⟩, fun h => h.2.2.2.2.2⟩
theorem qiF {o : QuaV} (h : ¬ QuP o) : Value.bool false = .bool (quIn o) := by unfold quIn;rw [dqF h]
def quValid (o : QuaV) : Bool := if o.known then quIn o else decide (o = qu0)
def quClean (o : QuaV) : QuaV := if quValid o then o else qu0
theorem quV_known {o : QuaV} (h : o.known = true) : quValid o = quIn o := by unfold quValid;rw [h];rfl
theorem quV_not {o : QuaV} (h : o.known = false) : quValid o = decide (o = qu0) := by unfold quValid;rw [h];rfl
theorem qu0_known {o : QuaV} (h : o = qu0) : quValid o = true := by subst h;rfl
theorem quClean_bd {o : QuaV} (h : BdQu o) : BdQu (quClean o) := by
 unfold quClean
 split
 ·exact h
 ·exact BdQu.zero
def bitAt (h : Int) (i : Nat) : Int := bitsOf .and .i64 (IntKind.i64.wrap (Int.fdiv h (2 ^ min i 8))) 1
def popN (h : Int) (n : Nat) : Int := ((List.range n).map (bitAt h)).sum
theorem bit_tab : ∀ (h : Fin 256) (i : Fin 8), bitAt (h.val : Int) i.val = ((h.val / 2 ^ i.val % 2 : Nat) : Int) ∧ IntKind.i64.wrap (bitsOf .and .u8 (Int.fdiv (h.val : Int) (2 ^ min i.val 8)) 1) = ((h.val / 2 ^ i.val % 2 : Nat) : Int) := by decide +kernel
theorem bit_is {h : Int} (h0 : 0 ≤ h) (h1 : h < 256) {i : Nat} (hi : i < 8) : IntKind.i64.wrap (bitsOf .and .u8 (Int.fdiv h (2 ^ min i 8)) 1) = bitAt h i ∧ 0 ≤ bitAt h i ∧ bitAt h i ≤ 1 := by
 obtain ⟨n, rfl⟩ := Int.eq_ofNat_of_zero_le h0
 have := bit_tab ⟨n, by omega⟩ ⟨i, hi⟩
 dsimp only at this
 rw [this.1, this.2]
 omega
theorem popN_succ (h : Int) (n : Nat) : popN h (n + 1) = popN h n + bitAt h n := by simp [popN, List.range_succ]
theorem popN_bd {h : Int} (h0 : 0 ≤ h) (h1 : h < 256) : ∀ n, n ≤ 8 → 0 ≤ popN h n ∧ popN h n ≤ n
 | 0, _ => by simp [popN]
 | n + 1, hn => by
  have := popN_bd h0 h1 n (by omega)
  have := (bit_is h0 h1 (show n < 8 by omega)).2
  rw [popN_succ]
  omega
theorem pop_tab : ∀ h : Fin 256, h.val ≠ 0 → popN (h.val : Int) 8 ≠ 0 := by decide +kernel
theorem pop_pos {h : Int} (h0 : 0 ≤ h) (h1 : h < 256) (hn : h ≠ 0) : 0 < popN h 8 := by
 obtain ⟨n, rfl⟩ := Int.eq_ofNat_of_zero_le h0
 have h2 := pop_tab ⟨n, by omega⟩ (by dsimp only;omega)
 have := popN_bd (Int.natCast_nonneg n) h1 8 (by omega)
 dsimp only at h2
 omega
def upV (a b : Int) : Int := (a + b - 1).tdiv b
def rxV (o : QuaV) : Int := if popN (quClean o).heard 8 = 0 then 65535 else upV (256 * (quClean o).cnt) (popN (quClean o).heard 8)
def costV (o : QuaV) : Int := if rxV (quClean o) = 65535 ∨ (quClean o).rep = 0 ∨ (quClean o).rep = 65535 then 65535 else if 65534 < upV ((if (quClean o).rep < 256 then 256 else (quClean o).rep) * rxV (quClean o)) 256 then 65534 else upV ((if (quClean o).rep < 256 then 256 else (quClean o).rep) * rxV (quClean o)) 256
theorem clean_in {o : QuaV} (h : (quClean o).known = true) : quIn (quClean o) = true := by
 unfold quClean at *
 split at h
 ·rename_i hv
  rw [if_pos hv]
  rw [quV_known h] at hv
  exact hv
 ·cases h
theorem clean_not {o : QuaV} (h : (quClean o).known = false) : quClean o = qu0 := by
 unfold quClean at *
 split at h
 ·rename_i hv
  rw [if_pos hv]
  rw [quV_not h] at hv
  exact dqU hv
 ·rename_i hv
  rw [if_neg hv]
theorem quIn_iff {o : QuaV} : quIn o = true ↔ 1 ≤ o.cnt ∧ o.cnt ≤ 8 ∧ o.heard ≠ 0 ∧ o.heard < shl1 o.cnt ∧ 0 ≤ o.rep ∧ o.rep ≤ 65535 := by
 unfold quIn
 rw [decide_eq_true_eq]
 exact Iff.rfl
theorem clean_cnt (o : QuaV) : 0 ≤ (quClean o).cnt ∧ (quClean o).cnt ≤ 8 ∧ 0 ≤ (quClean o).rep ∧ (quClean o).rep ≤ 65535 := by
 cases h : (quClean o).known with
 | true => have := quIn_iff.1 (clean_in h);omega
 | false => rw [clean_not h];decide
theorem pop_clean {o : QuaV} (hb : BdQu o) : popN (quClean o).heard 8 = 0 ↔ (quClean o).known = false := by
 have hb' := quClean_bd hb
 constructor
 ·intro h
  cases hk : (quClean o).known with
  | false => rfl
  | true =>
   have := quIn_iff.1 (clean_in hk)
   have := pop_pos hb'.h.1 hb'.h.2 this.2.2.1
   omega
 ·intro h
  rw [clean_not h]
  rfl
theorem rx_bd {o : QuaV} (hb : BdQu o) : 0 ≤ rxV o ∧ rxV o ≤ 65535 := by
 have hb' := quClean_bd hb
 have hc := clean_cnt o
 have hp := popN_bd hb'.h.1 hb'.h.2 8 (by omega)
 unfold rxV
 split
 ·omega
 ·rename_i h
  unfold upV
  rw [Int.tdiv_eq_ediv_of_nonneg (by omega)]
  have h1 := Int.ediv_nonneg (show 0 ≤ 256 * (quClean o).cnt + popN (quClean o).heard 8 - 1 by omega) hp.1
  have h2 := Int.ediv_le_self (popN (quClean o).heard 8) (show 0 ≤ 256 * (quClean o).cnt + popN (quClean o).heard 8 - 1 by omega)
  omega
theorem qvalid_c (o : QuaV) (hb : BdQu o) (W : World) : Cal Tryz.prog 187 [.agg (quC o).toArray].toArray W fun r w' => r = .bool (quValid o) ∧ Ext [] W w' := by
 have hb1 := hb.h
 have hb2 := hb.c
 have hb3 := hb.r
 have hf2 : fitsK quK quZ = true := rfl
 by_cases h0 : o = qu0
 ·rw [qu0_known h0]
  subst h0
  have ez : eqVs (quC qu0) quZ = true := rfl
  have hf1 : fitsK quK (quC qu0) = true := rfl
  refine g_start (n := 42) (S := []) fldT_ok slcT_ok Tryz.func187 rfl rfl rfl (gR 2 rfl (g_box rfl rfl fun b1 => gR 6 rfl (g_ldA 0 rfl rfl (qu_all trivial) (g_v (fun a w F M R r => o_build F rfl rfl r) (g_eqA rfl rfl ‹_› ‹_› ‹_› ?_)))))
  exact gR 10 rfl (g_ret1 rfl rfl rfl fun w M => ⟨rfl, M.ext⟩)
 ·have e0 : decide (o = qu0) = false := dqF h0
  have ez : eqVs (quC o) quZ = false := (qu_eq (b := qu0) trivial trivial).trans e0
  have hf1 : fitsK quK (quC o) = true := rfl
  cases hk : o.known with
  | false =>
   rw [quV_not hk, e0]
   refine g_start (n := 42) (S := []) fldT_ok slcT_ok Tryz.func187 rfl rfl rfl (gR 2 rfl (g_box rfl rfl fun b1 => gR 6 rfl (g_ldA 0 rfl rfl (qu_all trivial) (g_v (fun a w F M R r => o_build F rfl rfl r) (g_eqA rfl rfl ‹_› ‹_› ‹_› ?_)))))
   refine gR 6 rfl (g_draw 37 42 rfl (by kernel_rfl) (fR 1 rfl (fd_ld1 0 rfl rfl (qu_known trivial) (fR 1 rfl (fd_know 8 rfl ‹_› ?_)))))
   exact fR 34 rfl (fd_done rfl rfl (gR 3 rfl (g_ret1 rfl rfl rfl fun w M => ⟨rfl, M.ext⟩)))
  | true =>
   rw [quV_known hk]
   refine g_start (n := 42) (S := []) fldT_ok slcT_ok Tryz.func187 rfl rfl rfl (gR 2 rfl (g_box rfl rfl fun b1 => gR 6 rfl (g_ldA 0 rfl rfl (qu_all trivial) (g_v (fun a w F M R r => o_build F rfl rfl r) (g_eqA rfl rfl ‹_› ‹_› ‹_› ?_)))))
   refine gR 6 rfl (g_draw 37 42 rfl (by kernel_rfl) (fR 1 rfl (fd_ld1 0 rfl rfl (qu_known trivial) (fR 1 rfl (fd_know 8 rfl ‹_› ?_)))))
   refine fR 1 rfl (fd_ld1 0 rfl rfl (qu_cnt trivial) (fR 3 rfl (fd_split 13 rfl (fun h1 => ?_) (fun h1 => ?_))))
   ·replace h1 := dqU h1
    refine fR 1 rfl (fd_ld1 0 rfl rfl (qu_cnt trivial) (fR 3 rfl (fd_split 18 rfl (fun h2 => ?_) (fun h2 => ?_))))
    ·replace h2 := dqU h2
     refine fR 1 rfl (fd_ld1 0 rfl rfl (qu_heard trivial) (fR 3 rfl (fd_split 23 rfl (fun h3 => ?_) (fun h3 => ?_))))
     ·replace h3 := ne_of_bne h3
      refine fR 1 rfl (fd_ld1 0 rfl rfl (qu_heard trivial) (fd_conv rfl (w_i64 (by omega) (by omega)) (fR 1 rfl (fd_ld1 0 rfl rfl (qu_cnt trivial) (fd_v (fun a w F M R r => o_shl (F.e rfl) (F.e rfl) (by omega) rfl r) (fR 3 rfl (fd_split 32 rfl (fun h4 => ?_) (fun h4 => ?_))))))))
      ·replace h4 := dqU h4
       refine fR 1 rfl (fd_ld1 0 rfl rfl (qu_rep trivial) (fR 3 rfl (fd_split 37 rfl (fun h5 => ?_) (fun h5 => ?_))))
       ·replace h5 := dqU h5
        exact fR 1 rfl (fd_ld1 0 rfl rfl (qu_rep trivial) (fR 3 rfl (fd_done rfl rfl (gR 3 rfl (g_ret1 rfl rfl rfl fun w M => ⟨qiT ‹_› ‹_› ‹_› ‹_› ‹_›, M.ext⟩)))))
       ·replace h5 := dqV h5
        refine fR 5 rfl (fd_done rfl rfl (gR 3 rfl (g_ret1 rfl rfl rfl fun w M => ?_)))
        exact ⟨qiF (fun hp => by unfold QuP shl1 at hp;omega), M.ext⟩
      ·replace h4 := dqV h4
       refine fR 10 rfl (fd_done rfl rfl (gR 3 rfl (g_ret1 rfl rfl rfl fun w M => ?_)))
       exact ⟨qiF (fun hp => by unfold QuP shl1 at hp;omega), M.ext⟩
     ·replace h3 := eq_of_bne_false h3
      refine fR 19 rfl (fd_done rfl rfl (gR 3 rfl (g_ret1 rfl rfl rfl fun w M => ?_)))
      exact ⟨qiF (fun hp => by unfold QuP shl1 at hp;omega), M.ext⟩
    ·replace h2 := dqV h2
     refine fR 24 rfl (fd_done rfl rfl (gR 3 rfl (g_ret1 rfl rfl rfl fun w M => ?_)))
     exact ⟨qiF (fun hp => by unfold QuP shl1 at hp;omega), M.ext⟩
   ·replace h1 := dqV h1
    refine fR 29 rfl (fd_done rfl rfl (gR 3 rfl (g_ret1 rfl rfl rfl fun w M => ?_)))
    exact ⟨qiF (fun hp => by unfold QuP shl1 at hp;omega), M.ext⟩
theorem rqvalid_c (o : QuaV) (hb : BdQu o) (W : World) : Cal Tryz.prog 113 [.agg (quC o).toArray].toArray W fun r w' => r = .bool (quValid o) ∧ Ext [] W w' := by
 have hb1 := hb.h
 have hb2 := hb.c
 have hb3 := hb.r
 have hf2 : fitsK quK quZ = true := rfl
 by_cases h0 : o = qu0
 ·rw [qu0_known h0]
  subst h0
  have ez : eqVs (quC qu0) quZ = true := rfl
  have hf1 : fitsK quK (quC qu0) = true := rfl
  refine g_start (n := 42) (S := []) fldT_ok slcT_ok Tryz.func113 rfl rfl rfl (gR 2 rfl (g_box rfl rfl fun b1 => gR 7 rfl (g_ld1 0 rfl rfl (qu_known trivial) (gR 6 rfl (g_ldA 0 rfl rfl (qu_all trivial) (g_v (fun a w F M R r => o_build F rfl rfl r) (g_eqA rfl rfl ‹_› ‹_› ‹_› ?_)))))))
  exact gR 5 rfl (g_ret1 rfl rfl rfl fun w M => ⟨rfl, M.ext⟩)
 ·have e0 : decide (o = qu0) = false := dqF h0
  have ez : eqVs (quC o) quZ = false := (qu_eq (b := qu0) trivial trivial).trans e0
  have hf1 : fitsK quK (quC o) = true := rfl
  cases hk : o.known with
  | false =>
   rw [quV_not hk, e0]
   refine g_start (n := 42) (S := []) fldT_ok slcT_ok Tryz.func113 rfl rfl rfl (gR 2 rfl (g_box rfl rfl fun b1 => gR 7 rfl (g_ld1 0 rfl rfl (qu_known trivial) (gR 3 rfl (g_ifT rfl (notT ‹_›) ?_)))))
   refine gR 2 rfl (g_ldA 0 rfl rfl (qu_all trivial) (g_v (fun a w F M R r => o_build F rfl rfl r) (g_eqA rfl rfl ‹_› ‹_› ‹_› ?_)))
   exact gR 5 rfl (g_ret1 rfl rfl rfl fun w M => ⟨rfl, M.ext⟩)
  | true =>
   rw [quV_known hk]
   refine g_start (n := 42) (S := []) fldT_ok slcT_ok Tryz.func113 rfl rfl rfl (gR 2 rfl (g_box rfl rfl fun b1 => gR 7 rfl (g_ld1 0 rfl rfl (qu_known trivial) (gR 3 rfl (g_ifF rfl (notF ‹_›) ?_)))))
   refine gR 5 rfl (g_ld1 0 rfl rfl (qu_cnt trivial) (gR 2 rfl (g_split 12 rfl (fun h1 => ?_) (fun h1 => ?_))))
   ·replace h1 := dqU h1
    refine gR 1 rfl (g_ld1 0 rfl rfl (qu_cnt trivial) (gR 3 rfl (g_split 17 rfl (fun h2 => ?_) (fun h2 => ?_))))
    ·replace h2 := dqU h2
     refine gR 1 rfl (g_ld1 0 rfl rfl (qu_heard trivial) (gR 3 rfl (g_split 22 rfl (fun h3 => ?_) (fun h3 => ?_))))
     ·replace h3 := ne_of_bne h3
      refine gR 1 rfl (g_ld1 0 rfl rfl (qu_heard trivial) (g_conv rfl (w_i64 (by omega) (by omega)) (gR 1 rfl (g_ld1 0 rfl rfl (qu_cnt trivial) (g_conv rfl (w_u64 (by omega) (by omega)) (g_v (fun a w F M R r => o_shl (F.e rfl) (F.e rfl) (by omega) rfl r) (gR 3 rfl (g_split 32 rfl (fun h4 => ?_) (fun h4 => ?_)))))))))
      ·replace h4 := dqU h4
       refine gR 1 rfl (g_ld1 0 rfl rfl (qu_rep trivial) (gR 3 rfl (g_split 37 rfl (fun h5 => ?_) (fun h5 => ?_))))
       ·replace h5 := dqU h5
        exact gR 1 rfl (g_ld1 0 rfl rfl (qu_rep trivial) (gR 6 rfl (g_ret1 rfl rfl rfl fun w M => ⟨qiT ‹_› ‹_› ‹_› ‹_› ‹_›, M.ext⟩)))
       ·replace h5 := dqV h5
        refine gR 8 rfl (g_ret1 rfl rfl rfl fun w M => ?_)
        exact ⟨qiF (fun hp => by unfold QuP shl1 at hp;omega), M.ext⟩
      ·replace h4 := dqV h4
       refine gR 13 rfl (g_ret1 rfl rfl rfl fun w M => ?_)
       exact ⟨qiF (fun hp => by unfold QuP shl1 at hp;omega), M.ext⟩
     ·replace h3 := eq_of_bne_false h3
      refine gR 23 rfl (g_ret1 rfl rfl rfl fun w M => ?_)
      exact ⟨qiF (fun hp => by unfold QuP shl1 at hp;omega), M.ext⟩
    ·replace h2 := dqV h2
     refine gR 28 rfl (g_ret1 rfl rfl rfl fun w M => ?_)
     exact ⟨qiF (fun hp => by unfold QuP shl1 at hp;omega), M.ext⟩
   ·replace h1 := dqV h1
    refine gR 33 rfl (g_ret1 rfl rfl rfl fun w M => ?_)
    exact ⟨qiF (fun hp => by unfold QuP shl1 at hp;omega), M.ext⟩
end Go.Proofs.YtfhkmgcalcfibaaGreat

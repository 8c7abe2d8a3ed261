/-
  PROVED: for every input RouterForwards answers true, and each argument reads afterwards as it read before.
-/
import Derived.Test.YtfhkmgcalcfibaaGreatFwF7
set_option linter.unusedVariables false
set_option linter.unusedSimpArgs false
set_option maxHeartbeats 64000000
namespace Go.Proofs.YtfhkmgcalcfibaaGreat
open Go.RowKit
def FS (c : Cx) (Q : Exit → Act → World → Prop) (ks : List KF) (x : RX) (X : List Nat) (k : Nat) (rest : List Oper) (fr : List (Nat × Value)) (xs : List (Nat × TypeId × Nat)) (E : ESt) : Prop :=
 (∀ sl l, E sl l → ∀ q ∈ sl, q.1 < k) → ∀ a w Vs, (∀ w', Sh w.heap.size x.B w w' → Mem c.S c.W w' x.lk.flatten) → (∀ b ∈ x.B, b < w.heap.size) → ZcZ x.ol.toArray x.n = true → (∀ q ∈ xs, Vs[q.1]? = some (AlS w.heap.size q.2.1 q.2.2)) →
  MW ⟨Zkc w.heap.size x.B, x.Ef, [], c.P, c.r, x.ol.toArray, x.n, c.n, c.df, a, w, KQ c Q ks, X, x.Rl⟩ k rest fr Vs (ET c E)
theorem Zh9 {n0 : Nat} {xs : List (Nat × TypeId × Nat)} {Vs : List Pred} {V : Pred} (h : ∀ q ∈ xs, Vs[q.1]? = some (AlS n0 q.2.1 q.2.2)) : ∀ q ∈ xs, (Vs ++ [V])[q.1]? = some (AlS n0 q.2.1 q.2.2) := fun q hq => by
 have := h q hq
 rw [List.getElem?_append_left (List.getElem?_eq_some_iff.1 this).1, this]
theorem ZoL {c : Cx} {E : ESt} {k j : Nat} (h : ∀ sl l, E sl l → ∀ q ∈ sl, q.1 < k) (hj : k ≤ j) : irrT (ET c E) j := fun σ v w ⟨sl, l, h1, h2, h3⟩ => ⟨sl, l, h1, fun q hq => by
 have := h sl l h1 q hq
 rw [← h2 q hq]
 exact if_neg (by omega), h3⟩
section
variable {c : Cx} {Q : Exit → Act → World → Prop} {ks : List KF} {fr fr' : List (Nat × Value)} {l : Row} {x : RX} {X : List Nat} {rest rest' : List Oper} {k k' : Nat} {xs : List (Nat × TypeId × Nat)} {E : ESt} {d : Nat} {op : Op} {ty : TypeId} {pos : String} {af : Array Edge} {g : Option (Nat × Bool)}
theorem Zsq {id : Nat} {ol : List Oper} (n nt : Nat) (B Ef X : List Nat) (Rl : List (Nat × Nat)) (l0 lk : Row) [hm : TMix c.P] (hnt : c.n = nt) (hchk : (ZcZ ol.toArray n && Zev ol.toArray n && Nat.ble n ol.length && Zld ol.toArray n nt && Zdc ol.toArray n Ef && xOk ol.toArray n Ef X && ZkK ol.toArray n Rl) = true)
  (hp : l.flatten.Perm (l0.flatten ++ lk.flatten)) (hB : ∀ b ∈ B, b ∈ l0.flatten.map (·.1)) (h : FS c Q ks ⟨ol, n, B, Ef, Rl, lk⟩ X 0 ol fr [] (EI (ι := Unit) (fun _ => True) (fun _ => []) (fun _ => l))) : G c Q ks (.code (.region id ol.toArray true)) fr l := fun a w F M =>
 Zpa (Zkc w.heap.size B) Ef X Rl (ET c (EI (ι := Unit) (fun _ => True) (fun _ => []) (fun _ => l))) n F (by rw [hnt];exact hchk) (fun σ w w' ⟨sl, l', h1, h2, h3⟩ hE => ⟨sl, l', h1, h2, h3.later hE⟩) (fun j _ => ZoL (k := 0) (by rintro _ _ ⟨_, _, rfl, _⟩ q hq;cases hq) (Nat.zero_le _)) (fun σ d hd => ⟨[], l, ⟨(), trivial, rfl, rfl⟩, by simp, M.later (Ext.drawn w d hd)⟩) fun w1 hE hs hok => by
  have M1 := (M.later hE).perm hp
  have := h (by rintro _ _ ⟨_, _, rfl, _⟩ q hq;cases hq) a w1 [] (fun w' hE' => M1.laterBut (Sh.ext hE') hB) (fun b hb => ?_) hok (by simp)
  ·rw [hs] at this
   exact this
  ·obtain ⟨q, hq, e⟩ := List.mem_map.1 (hB b hb)
   rw [← e]
   exact M1.lt (List.mem_append_left _ hq)
theorem fs_c {v : Value} (h : ∀ a w, Frm a c.n c.df fr → Mem c.S c.W w x.lk.flatten → OpTo c.P ⟨some d, op, ty, pos, af, g⟩ a.eval w fun u w' => Ext [] w w' ∧ u = v)
  (hk : FS c Q ks x X (k + 1) rest ((d, v) :: fr) xs E) (hlt : flo x.Ef x.Rl [] x.n k op = true := by rfl) (hd : Nat.blt d c.n = true := by rfl) (hg : gOk x.ol.toArray fr g = some true := by rfl) : FS c Q ks x X k (⟨some d, op, ty, pos, af, g⟩ :: rest) fr xs E := fun hE a w Vs hM hB hok hx => by
 have hE' : ∀ sl l, E sl l → ∀ q ∈ sl, q.1 < k + 1 := fun sl l h q hq => Nat.lt_succ_of_lt (hE sl l h q hq)
 rcases Zg0 hg with rfl | ⟨j, b, t, rfl, ht, hl⟩
 ·exact mK hok hlt hd (fun a' w' F he => h a' w' F (hM w' he)) (hk hE' a w _ hM hB hok (Zh9 hx))
 ·exact mKG hok hlt hd ht hl (fun a' w' F he => h a' w' F (hM w' he)) (hk hE' a w _ hM hB hok (Zh9 hx))
theorem fs_v {v : Value} (h : ∀ a w, Frm a c.n c.df fr → Mem c.S c.W w x.lk.flatten → ∀ R : Value → World → Prop, R v w → OpTo c.P ⟨some d, op, ty, pos, af, g⟩ a.eval w R)
  (hk : FS c Q ks x X (k + 1) rest ((d, v) :: fr) xs E) (hlt : flo x.Ef x.Rl [] x.n k op = true := by rfl) (hd : Nat.blt d c.n = true := by rfl) (hg : gOk x.ol.toArray fr g = some true := by rfl) : FS c Q ks x X k (⟨some d, op, ty, pos, af, g⟩ :: rest) fr xs E :=
 fs_c (fun a w F M => h a w F M _ ⟨Ext.refl _ _, rfl⟩) hk hlt hd hg
theorem ZtQ (hk : FS c Q ks x X (k + 1) rest ((d, undef) :: fr) xs E) (hlt : flo x.Ef x.Rl [] x.n k op = true := by rfl) (hd : Nat.blt d c.n = true := by rfl) (hg : gOk x.ol.toArray fr g = some false := by rfl) : FS c Q ks x X k (⟨some d, op, ty, pos, af, g⟩ :: rest) fr xs E := fun hE a w Vs hM hB hok hx => by
 obtain ⟨j, b, t, v, rfl, ht, hl, ho⟩ := ZfV hg
 exact mOff hok hlt hd ht hl ho (hk (fun sl l h q hq => Nat.lt_succ_of_lt (hE sl l h q hq)) a w _ hM hB hok (Zh9 hx))
theorem Zhy : ∀ (m : Nat) {k k' : Nat} {rest rest' : List Oper} {fr fr' : List (Nat × Value)}, runE c x m k rest fr = (k', rest', fr') → FS c Q ks x X k' rest' fr' xs E → FS c Q ks x X k rest fr xs E
 | 0, k, k', rest, rest', fr, fr', h, hk => by
  cases rest <;> cases h <;> exact hk
 | m + 1, k, k', [], rest', fr, fr', h, hk => by
  cases h
  exact hk
 | m + 1, k, k', o :: rest, rest', fr, fr', h, hk => by
  obtain ⟨dst, op, ty, pos, af, g⟩ := o
  unfold runE at h
  split at h
  ·rename_i d hd0
   dsimp only at hd0
   subst hd0
   split at h
   ·rename_i hb
    simp only [Bool.and_eq_true] at hb
    split at h
    ·rename_i hg
     split at h
     ·rename_i v hv
      exact fs_v (fun a w F M R r => Zl5 F hv r) (Zhy m h hk) hb.2 hb.1 hg
     ·cases h
      exact hk
    ·rename_i hg
     exact ZtQ (Zhy m h hk) hb.2 hb.1 hg
    ·cases h
     exact hk
   ·cases h
    exact hk
  ·cases h
   exact hk
theorem ZtN {st : St} (ts : List Nat) (fr' : List (Nat × Value)) (l' : Row) (h : Zk9 ts fr = some fr') (hl : l = l') (hk : G c Q ks st fr' l') : G c Q ks st fr l := fun a w F M => hk a w (F.only ts h) (hl ▸ M)
theorem ZqD {t : TypeId} {cs : List Value} [hz : Zcu c.P t cs] (hk : FS c Q ks x X (k + 1) rest fr ((k, t, cs.length) :: xs) E) (hlt : (Nat.blt k x.n && !x.Ef.contains k && (ZdQ [] k && ZdF x.Rl k)) = true := by rfl) (hnd : notIn d fr = true := by rfl) : FS c Q ks x X k (⟨some d, .alloc t, ty, pos, af, none⟩ :: rest) fr xs E := fun hE a w Vs hM hB hok hx => by
 intro hlen
 refine xAl (t0 := t) (cs0 := cs) hok hlt hnd (AlS.stays _ _ _ _) (fun w => Ext.alloc w _) (fun a' w' F' E' => Zra) (hk (fun sl l h q hq => Nat.lt_succ_of_lt (hE sl l h q hq)) a w _ hM hB hok fun q hq => ?_) hlen
 rcases List.mem_cons.1 hq with rfl | hq
 ·show (Vs ++ [AlS w.heap.size t cs.length])[k]? = some (AlS w.heap.size t cs.length)
  rw [← hlen]
  simp
 ·exact Zh9 hx q hq
section
variable {ι : Type} {P : ι → Prop} {sl : ι → List (Nat × Value)} {li : ι → Row}
theorem ZqC {κ : Type} (val : ι → κ → Value) (p : ι → κ → Prop) (f : ι → κ → Row) (ds : List (Nat × Nat))
  (h : ∀ i, P i → OpF c x [] ⟨some d, op, ty, pos, af, none⟩ (dsFr ds (sl i) ++ fr) (li i) (fun v r => ∃ j, v = val i j ∧ p i j ∧ r = f i j))
  (hk : FS c Q ks x X (k + 1) rest fr xs (EI (ι := ι × κ) (fun q => P q.1 ∧ p q.1 q.2) (fun q => (k, val q.1 q.2) :: sl q.1) (fun q => f q.1 q.2)))
  (hlt : effX x.Ef x.Rl [] x.n k op = true := by rfl) (hnd : notIn d fr = true := by rfl) (hds : dsOk x.ol.toArray ⟨some d, op, ty, pos, af, none⟩ x.Ef ds = true := by rfl) :
  FS c Q ks x X k (⟨some d, op, ty, pos, af, none⟩ :: rest) fr xs (EI P sl li) := fun hE a w Vs hM hB hok hx => by
 obtain ⟨h1, h2, h3, h4, hrf⟩ := ZeY hlt
 rintro rfl hT0 hPK
 have hsT : Zdf (Zkc w.heap.size x.B) (ET c (EI (ι := ι × κ) (fun q => P q.1 ∧ p q.1 q.2) (fun q => (Vs.length, val q.1 q.2) :: sl q.1) (fun q => f q.1 q.2))) := fun σ w w' ⟨sl, l', q1, q2, q3⟩ hE => ⟨sl, l', q1, q2, q3.later hE⟩
 have hE' : ∀ s r, EI (ι := ι × κ) (fun q => P q.1 ∧ p q.1 q.2) (fun q => (Vs.length, val q.1 q.2) :: sl q.1) (fun q => f q.1 q.2) s r → ∀ q ∈ s, q.1 < Vs.length + 1 := by
  rintro s r ⟨⟨i, j⟩, ⟨hi, hj⟩, rfl, rfl⟩ q hq
  rcases List.mem_cons.1 hq with rfl | hq
  ·exact Nat.lt_succ_self _
  ·exact Nat.lt_succ_of_lt (hE _ _ ⟨i, hi, rfl, rfl⟩ q hq)
 refine Zd5 hok h1 (fun _ _ _ _ _ => trivial : Zeu _ Any) hsT hT0.2 (fun hh => absurd h2 hh) hPK (fun hC ho' => Zer (fun d' hd' => by cases hd';exact hnd) hC ho') (fun a' w' σ F he hdp hT hPp hσ hrel => ?_) (hk hE' a w (Vs ++ [Any]) hM hB hok (Zh9 hx) (by simp) ⟨hsT, fun j _ hj => ZoL hE' hj⟩ hPK)
 simp only [Region.wanted, if_true]
 obtain ⟨_, _, ⟨i, hi, rfl, rfl⟩, e2, M⟩ := hT h2
 refine (h i hi a' w' (Zf3 F (fun q hq hf hd => ?_) hds) M (fun q hq hd => by cases hq)).mono fun v w'' ⟨q1, r, ⟨j, q2, q3, q4⟩, q5⟩ => ⟨Sh.of_extB q1 hB, trivial, fun hh => absurd (h3.symm.trans hh) Bool.false_ne_true, fun hh => absurd h2 hh, fun _ => ⟨(Vs.length, v) :: sl i, r, ⟨(i, j), ⟨hi, q3⟩, by rw [q2], q4⟩, ?_, q5⟩, .none h4, fun q hq e => (Zbp hrf q hq e).elim⟩
 ·rw [← hσ q.1 (.inl hf) hd]
  exact e2 q hq
 ·intro q hq
  rcases List.mem_cons.1 hq with rfl | hq
  ·simp [updS]
  ·have := hE _ _ ⟨i, hi, rfl, rfl⟩ q hq
   simp only [updS]
   rw [if_neg (by omega)]
   exact e2 q hq
theorem Zux (j : Nat) {t t0 : TypeId} {t2 len : Nat} {z : Operand} {vs : List Value} [hs : TAgg c.P t len] (hj : (j, t0, len) ∈ xs) (hjX : j ∈ X) (hjk : j < k) (hz : Ev fr z = some (.agg vs.toArray)) (hn : vs.length = len) (h1 : vs.all (·.oneCell') = true) (hold : ∀ i, P i → ∀ p ∈ (li i).flatten, p.1 ∈ x.B ∨ p ∈ x.lk.flatten) (hdst : (x.ol[j]?).bind (·.dst) = some t2)
  (hk : FS c Q ks x X (k + 1) rest fr xs (EI (ι := ι × Nat) (fun q => P q.1) (fun q => (j, .pointer (some ⟨q.2, 0, none⟩)) :: sl q.1) (fun q => [(q.2, .cells vs.toArray t0 (0, 0))] :: li q.1)))
  (hlt : effX x.Ef x.Rl [] x.n k (.store t (.tmp t2) z) = true := by rfl) (hdep : (Za3 ⟨none, .store t (.tmp t2) z, ty, pos, af, none⟩).contains j = true := by rfl) :
  FS c Q ks x X k (⟨none, .store t (.tmp t2) z, ty, pos, af, none⟩ :: rest) fr xs (EI P sl li) := fun hE a w Vs hM hB hok hx => by
 obtain ⟨g1, h2, h3, h4, hrf⟩ := ZeY hlt
 rintro rfl hT0 hPK
 have hsT : Zdf (Zkc w.heap.size x.B) (ET c (EI (ι := ι × Nat) (fun q => P q.1) (fun q => (j, .pointer (some ⟨q.2, 0, none⟩)) :: sl q.1) (fun q => [(q.2, .cells vs.toArray t0 (0, 0))] :: li q.1))) := fun σ w w' ⟨sl, l', q1, q2, q3⟩ hE => ⟨sl, l', q1, q2, q3.later hE⟩
 have hE' : ∀ s r, EI (ι := ι × Nat) (fun q => P q.1) (fun q => (j, Value.pointer (some ⟨q.2, 0, none⟩)) :: sl q.1) (fun q => [(q.2, Obj.cells vs.toArray t0 (0, 0))] :: li q.1) s r → ∀ q ∈ s, q.1 < Vs.length + 1 := by
  rintro s r ⟨⟨i, b⟩, hi, rfl, rfl⟩ q hq
  rcases List.mem_cons.1 hq with rfl | hq
  ·exact Nat.lt_succ_of_lt hjk
  ·exact Nat.lt_succ_of_lt (hE _ _ ⟨i, hi, rfl, rfl⟩ q hq)
 refine Zd5 hok g1 (Kn.stays _ undef) hsT hT0.2 (fun hh => absurd h2 hh) hPK (fun hC ho' => Zer (fun d' hd' => by cases hd') hC ho') (fun a' w' σ F he hdp hT hPp hσ hrel => ?_) (hk hE' a w (Vs ++ [Kn undef]) hM hB hok (Zh9 hx) (by simp) ⟨hsT, fun j _ hj => ZoL hE' hj⟩ hPK)
 simp only [Region.wanted, if_true]
 obtain ⟨_, _, ⟨i, hi, rfl, rfl⟩, e2, M⟩ := hT h2
 have hd : j ∈ Za3 ⟨none, .store t (.tmp t2) z, ty, pos, af, none⟩ := by simpa using hdep
 obtain ⟨b, cs0, hb1, hb2, hb3, hb4⟩ := hdp j hd _ (hx _ hj)
 have e5 := hσ j (.inr hjX) hd
 have hw := (hM w (Sh.of_ext (Ext.refl _ _)))
 have hlow : ∀ p ∈ (li i).flatten, p.1 < w.heap.size := fun p hp => by
  rcases hold i hi p hp with h | h
  ·exact hB _ h
  ·exact hw.lt h
 have hne : ∀ q ∈ (li i).flatten, q.1 ≠ b := fun q hq e => by have := hlow q hq;omega
 have ht2 : a'.eval (.tmp t2) = ZcR b := by
  rw [← hb1]
  unfold Za9
  dsimp only
  rw [List.getElem?_toArray, hdst]
  rfl
 refine (ZpZ (cs := cs0.toList) (cs' := vs) ht2 (F.e hz) hn h1 (by simpa using hb3) (Zag (by simp [hb4, hn]))).mono fun _ w'' ⟨q1, q2⟩ => ⟨Sh.of_new q1 hb2 hb3 q2 (by simp [hb4, hn]), rfl, fun hh => absurd (h3.symm.trans hh) Bool.false_ne_true, fun hh => absurd h2 hh, fun _ => ⟨(j, .pointer (some ⟨b, 0, none⟩)) :: sl i, _, ⟨(i, b), hi, rfl, rfl⟩, ?_, (Mem.pastR M q1 hne (.inr (Nat.le_trans hw.ext.size hb2))).cons q2 hne (.inr (Nat.le_trans hw.ext.size hb2))⟩, .none h4, fun q hq e => (Zbp hrf q hq e).elim⟩
 intro q hq
 simp only [updS]
 rcases List.mem_cons.1 hq with rfl | hq
 ·dsimp only
  rw [if_neg (by omega), e5, hb1]
  rfl
 ·have := hE _ _ ⟨i, hi, rfl, rfl⟩ q hq
  rw [if_neg (by omega)]
  exact e2 q hq
theorem Zpj {S : List Nat} {W0 w : World} {n0 : Nat} {l : List (Nat × Obj)} (β : Nat → Nat) (γ : Nat → List Value) (M : Mem S W0 w l) (hW : W0.heap.size ≤ n0) :
  ∀ als : List (Nat × TypeId × Nat), (∀ p ∈ l, ∀ q ∈ als, p.1 ≠ β q.1) → (als.Pairwise fun a b => β a.1 ≠ β b.1) → (∀ q ∈ als, n0 ≤ β q.1 ∧ w.heap[β q.1]? = some (.cells (γ q.1).toArray q.2.1 (0, 0))) → Mem S W0 w ((als.map fun q => [(β q.1, Obj.cells (γ q.1).toArray q.2.1 (0, 0))]).flatten ++ l)
 | [], _, _, _ => M
 | q :: r, hl, h, hb => by
  obtain ⟨h3, h4⟩ := List.pairwise_cons.1 h
  obtain ⟨h5, h6⟩ := hb q List.mem_cons_self
  refine (Zpj β γ M hW r (fun p hp z hz => hl p hp z (List.mem_cons_of_mem _ hz)) h4 fun p hp => hb p (List.mem_cons_of_mem _ hp)).cons h6 (fun p hp e => ?_) (.inr (Nat.le_trans hW h5))
  rcases List.mem_append.1 hp with hp | hp
  ·obtain ⟨y, hy, hp⟩ := List.mem_flatten.1 hp
   obtain ⟨z, hz, rfl⟩ := List.mem_map.1 hy
   simp only [List.mem_singleton] at hp
   subst hp
   exact h3 z hz e.symm
  ·exact hl p hp q List.mem_cons_self e
theorem ZtR (als : List (Nat × TypeId × Nat)) (hals : ∀ q ∈ als, q ∈ xs) (hal : alOk x.ol x.n (als.map fun q => (q.1, Obj.cells #[] 0 (0, 0))) = true) (hn : Nat.beq k x.n = true) (hEf : ∀ i, P i → ∀ q ∈ sl i, q.1 ∈ x.Ef ∨ q.1 ∈ X)
  (hli : ∀ i, P i → ∀ p ∈ (li i).flatten, (p.1 ∈ x.B ∨ p ∈ x.lk.flatten) ∨ ∃ j, (j, Value.pointer (some ⟨p.1, 0, none⟩)) ∈ sl i ∧ j < x.n ∧ (∃ o, x.ol[j]? = some o ∧ isAl o.op = true) ∧ ∀ q ∈ als, q.1 ≠ j)
  (h : ∀ i, P i → ∃ s, Zim x.ol.toArray x.Rl (sl i) = some s ∧ ∀ (β : Nat → Nat) (γ : Nat → List Value), (∀ q ∈ als, (γ q.1).length = q.2.2) → G c Q ks (.ops x.ol.toArray rest) (toFr x.ol.toArray (als.map fun q => (q.1, .pointer (some ⟨β q.1, 0, none⟩))) ++ (toFr x.ol.toArray s ++ fr)) ((als.map fun q => [(β q.1, Obj.cells (γ q.1).toArray q.2.1 (0, 0))]) ++ li i)) : FS c Q ks x X k rest fr xs (EI P sl li) := fun hE a w Vs hM hB hok hx => by
 refine ZsW hn fun a' w' F he hV hT hD hR => ?_
 obtain ⟨_, _, ⟨i, e0, rfl, rfl⟩, e2, M⟩ := hT
 obtain ⟨s, h1, h2⟩ := h i e0
 have key : ∀ q ∈ als, ∃ b cs, Za9 x.ol.toArray q.1 a' = ZcR b ∧ w.heap.size ≤ b ∧ w'.heap[b]? = some (.cells cs q.2.1 (0, 0)) ∧ cs.size = q.2.2 := fun q hq => hV q.1 _ (hx _ (hals q hq))
 let β : Nat → Nat := fun j => match Za9 x.ol.toArray j a' with | .pointer (some p) => p.block | _ => 0
 let γ : Nat → List Value := fun j => match w'.heap[β j]? with | some (.cells cs _ _) => cs.toList | _ => []
 have hβ : ∀ q ∈ als, Za9 x.ol.toArray q.1 a' = .pointer (some ⟨β q.1, 0, none⟩) ∧ w.heap.size ≤ β q.1 ∧ w'.heap[β q.1]? = some (.cells (γ q.1).toArray q.2.1 (0, 0)) ∧ (γ q.1).length = q.2.2 := fun q hq => by
  obtain ⟨b, cs, g1, g2, g3, g4⟩ := key q hq
  have hb : β q.1 = b := by simp only [β, g1, ZcR]
  have hc : γ q.1 = cs.toList := by simp only [γ, hb, g3]
  rw [hb, hc]
  exact ⟨g1, g2, by simpa using g3, by simpa using g4⟩
 have hM0 := hM w (Sh.of_ext (Ext.refl _ _))
 have hsl : ∀ q ∈ sl i, Za9 x.ol.toArray q.1 a' = q.2 := fun q hq => by
  rw [← e2 q hq]
  rcases hEf i e0 q hq with h | h <;> simp [Zdv, h]
 refine h2 β γ (fun q hq => (hβ q hq).2.2.2) a' w' (ZgS (ZgS F (Zhl hR hsl h1)) fun q hq => ?_) ?_
 ·obtain ⟨z, hz, rfl⟩ := List.mem_map.1 hq
  exact (hβ z hz).1
 ·rw [List.flatten_append]
  refine Zpj β γ M hM0.ext.size als (fun p hp q hq e => ?_) ?_ fun q hq => ⟨(hβ q hq).2.1, (hβ q hq).2.2.1⟩
  ·rcases hli i e0 p hp with h | ⟨j, j1, j2, ⟨oj, j3, j4⟩, j5⟩
   ·have : p.1 < w.heap.size := by
     rcases h with h | h
     ·exact hB _ h
     ·exact hM0.lt h
    have := (hβ q hq).2.1
    omega
   ·obtain ⟨q1, oq, q2, q3⟩ := Zjy hal _ (List.mem_map.2 ⟨q, hq, rfl⟩)
    refine hD q.1 j oq oj q1 j2 (j5 q hq) (by simpa using q2) (by simpa using j3) q3 j4 ?_
    rw [(hβ q hq).1, hsl _ j1, e]
  ·have hpw := Zpk hal
   rw [List.pairwise_map] at hpw
   refine hpw.imp_of_mem fun {q z} hq hz hne e => ?_
   obtain ⟨q1, oq, q2, q3⟩ := Zjy hal _ (List.mem_map.2 ⟨q, hq, rfl⟩)
   obtain ⟨z1, oz, z2, z3⟩ := Zjy hal _ (List.mem_map.2 ⟨z, hz, rfl⟩)
   refine hD q.1 z.1 oq oz q1 z1 hne (by simpa using q2) (by simpa using z2) q3 z3 ?_
   rw [(hβ q hq).1, (hβ z hz).1, e]
end
end
end Go.Proofs.YtfhkmgcalcfibaaGreat
namespace Go.Proofs.YtfhkmgcalcfibaaGreat
open Go.RowKit
attribute [local irreducible] OpTo wpListIn Code.wpIn MW Cal
theorem ZrU {a1 a2 a3 a4 a5 a6 a7 a8 a9 a10 a11 a12 a13 : List (Nat × Obj)} : ([a1, a2, a3, a4, a5, a6, a7, a8, a9, a10, a11, a12, a13] : Row).flatten.Perm (([a9] : Row).flatten ++ ([a1, a2, a3, a4, a5, a6, a7, a8, a10, a11, a12, a13] : Row).flatten) := by
 simp only [List.flatten_cons, List.flatten_nil, List.append_nil]
 classical
 rw [List.perm_iff_count]
 intro x
 simp only [List.count_append]
 omega
theorem ZkE {a1 a2 a3 a4 a5 a6 a7 a8 a9 a10 a11 a12 a13 a14 a15 a16 a17 a18 a19 a20 : List (Nat × Obj)} : ([a1, a2, a3, a4, a5, a6, a7, a8, a9, a10, a11, a12, a13, a14, a15, a16, a17, a18, a19, a20] : Row).flatten.Perm (([a17] : Row).flatten ++ ([a1, a2, a3, a4, a5, a6, a7, a8, a9, a10, a11, a12, a13, a14, a15, a16, a18, a19, a20] : Row).flatten) := by
 simp only [List.flatten_cons, List.flatten_nil, List.append_nil]
 classical
 rw [List.perm_iff_count]
 intro x
 simp only [List.count_append]
 omega
theorem ZrT {a1 a2 a3 a4 a5 a6 a7 a8 a9 a10 a11 a12 a13 a14 a15 a16 a17 a18 a19 a20 a21 a22 a23 a24 a25 : List (Nat × Obj)} : ([a1, a2, a3, a4, a5, a6, a7, a8, a9, a10, a11, a12, a13, a14, a15, a16, a17, a18, a19, a20, a21, a22, a23, a24, a25] : Row).flatten.Perm (([a2] : Row).flatten ++ ([a1, a3, a4, a5, a6, a7, a8, a9, a10, a11, a12, a13, a14, a15, a16, a17, a18, a19, a20, a21, a22, a23, a24, a25] : Row).flatten) := by
 simp only [List.flatten_cons, List.flatten_nil, List.append_nil]
 classical
 rw [List.perm_iff_count]
 intro x
 simp only [List.count_append]
 omega
theorem Zlz {l l' : Row} {b : Nat} {o : Obj} (h : l.flatten.Perm (([[(b, o)]] : Row).flatten ++ l'.flatten)) : ∀ p ∈ l.flatten, p.1 ∈ [b] ∨ p ∈ l'.flatten := fun p hp => by
 rcases List.mem_append.1 (h.mem_iff.1 hp) with h | h
 ·left
  simp at h
  rw [h]
  simp
 ·exact .inr h
theorem ZmR (s : RtV) (x : RtX) (hs : IsRt s) {pt : Option Addr} {cap : Nat} (xs0 : List Int) (now : Int) (src dst : List Int) (hsi : IsIP src) (hdi : IsIP dst) (mark : DstV) (hmk : IsDv mark) (marked : Bool) (W : World) (h : RtAt W s x) (hI : ZiV W (.slice pt xs0.length cap) xs0) (hcap : xs0.length ≤ cap) : Cal Tryz.prog 10 [.agg (rtC s x).toArray, .slice pt xs0.length cap, .int .i64 now, .agg (ipC src).toArray, .agg (ipC dst).toArray, .agg (dvC mark).toArray, .bool marked].toArray W fun r w' => r = .bool true ∧ Ext [] W w' := by
 have hmem : 0 < xs0.length → ∃ b o cs t fz, pt = some ⟨b, o, none⟩ ∧ W.heap[b]? = some (.cells cs t fz) ∧ seg cs.toList o xs0.length = some (i64C xs0) := fun hl => by
  obtain ⟨p', cap', h1, _, h3⟩ := hI.ex
  cases h1
  exact h3 hl
 have l3 := hsi.len
 have l4 := hdi.len
 have e1 : seg (ipC src) 0 16 = some (ipC src) := Zbw (ZaU hsi.len)
 have e2 : seg (ipC dst) 0 16 = some (ipC dst) := Zbw (ZaU hdi.len)
 obtain ⟨v6, v7, v8, v9, v10, v11, v12⟩ := x
 obtain ⟨a6, a7, a8, a9, a10, a11, a12⟩ := id h
 dsimp only at a6 a7 a8 a9 a10 a11 a12
 obtain ⟨q6, c6, rfl, _⟩ := id a6
 obtain ⟨q7, c7, rfl, _⟩ := id a7
 obtain ⟨q8, c8, rfl, _⟩ := id a8
 obtain ⟨q9, c9, rfl, _⟩ := id a9
 obtain ⟨q10, c10, rfl, _⟩ := id a10
 obtain ⟨q11, c11, rfl, _⟩ := id a11
 obtain ⟨q12, c12, rfl, _⟩ := id a12
 refine Zao (n := 134) (S := []) Zal Zak Tryz.func10 rfl rfl rfl (gR 2 rfl (ZaA rfl rfl fun b7 => ZaA rfl rfl fun b10 => ZaA rfl rfl fun b11 => ZaA rfl rfl fun b12 => gR 6 rfl (Zah 3 rfl rfl rfl ?_)))
 refine Zct (ι := Bool) (fun b => .bool b) (fun _ => True) (fun _ => []) rfl rfl (fun w M => Cal.mono (ZrN s _ w (h.later M.ext)) fun r w' hh => by
  obtain ⟨⟨b, hb⟩, E⟩ := hh
  exact ⟨b, hb, trivial, Mem.nil E⟩) ?_
 rintro b -
 dsimp only [List.nil_append]
 cases b
 ·refine gR 6 rfl ?_
  exact Zad rfl rfl (fun w M => ZlV _) (gR 5 rfl (Zab rfl rfl rfl fun w M => ⟨rfl, M.ext⟩))
 refine gR 9 rfl (Zct (ι := Nat) (fun bt => .pointer (some ⟨bt, 0, none⟩)) (fun bt => W.heap.size ≤ bt) (fun bt => [[(bt, tobj pt (Zds xs0).length cap 0)]]) rfl rfl (fun w M => Cal.mono (Zuu xs0 _ (hI.later M.ext) hcap) fun x w' h => h.elim fun bt h => ⟨bt, h.1, Nat.le_trans M.ext.size ((h.2.own _ List.mem_cons_self).resolve_left (by simp)), by simpa using h.2⟩) (fun bt hbt => ?_))
 have hT : ZcG W bt pt (Zds xs0).length (Zds xs0) := Zpx (Ext.refl [] W) hbt hI.bd hmem
 generalize hxs : Zds xs0 = xs at *
 generalize hlen : xs.length = len at *
 clear hxs hI hmem hcap
 dsimp only [List.cons_append, List.nil_append]
 refine gR 6 rfl ?_
 refine Za8 (ι := Int × Nat) 0 (fun j => .int .i64 j.1) (fun j => 0 ≤ j.1 ∧ j.1 ≤ 1099511627776) (fun j => tobj pt len cap j.2) (fun _ => []) rfl rfl rfl (fun w M => Cal.mono (ZsO w (hT.later M.ext.any) (M.at_ _ (Zae (i := 0) rfl))) fun r w' h => by
  obtain ⟨x, k', qq, h1, N⟩ := h
  exact ⟨(x, k'), qq, h1, by simpa using N⟩) (fun _ => rfl) ?_
 rintro ⟨bs, k1⟩ hbs
 dsimp only [List.nil_append] at hbs ⊢
 refine gR 7 rfl ?_
 refine Za8 (ι := RtV × RtX × RtE × Nat) 0 (fun j => .agg (rtC j.1 j.2.1).toArray) (fun j => IsRt j.1 ∧ RtSm j.1 ∧ RtA j.1 j.2.1 j.2.2.1) (fun j => tobj pt len cap j.2.2.2) (fun j => j.2.2.1.row) rfl rfl rfl (fun w M => Cal.mono (ZnC bs hbs w (hT.later M.ext.any) (M.at_ _ (Zae (i := 0) rfl))) fun r w' h => by
  obtain ⟨s, x, e, k', h1, h2, h3, h4, N⟩ := h
  exact ⟨(s, x, e, k'), h1, ⟨h2, h3, h4⟩, N⟩) (fun _ => rfl) ?_
 rintro ⟨s1, ⟨u6, u7, u8, u9, u10, u11, u12⟩, ⟨f6, f7, f8, f9, f10, f11, f12⟩, k2⟩ ⟨hs1, hsm1, hA1⟩
 dsimp only [RtE.row, List.cons_append, List.nil_append] at hs1 hsm1 hA1 ⊢
 obtain ⟨z6, z7, z8, z9, z10, z11, z12⟩ := id hA1
 dsimp only at z6 z7 z8 z9 z10 z11 z12
 obtain ⟨g6, y6, rfl⟩ := z6.q
 obtain ⟨g7, y7, rfl⟩ := z7.q
 obtain ⟨g8, y8, rfl⟩ := z8.q
 obtain ⟨g9, y9, rfl⟩ := z9.q
 obtain ⟨g10, y10, rfl⟩ := z10.q
 obtain ⟨g11, y11, rfl⟩ := z11.q
 obtain ⟨g12, y12, rfl⟩ := z12.q
 refine Zat fun b17 => ?_
 refine Zas 0 rfl rfl rfl rfl rfl rfl rfl ?_
 refine gR 2 rfl (gR 1 rfl (Zfw 6 134 [bt] [4, 5] [] [[(bt, tobj pt len cap k2)]] [[(b17, Obj.cells (rtC s1 ⟨.slice g6 s1.og.length y6, .slice g7 s1.aj.length y7, .slice g8 s1.sr.length y8, .slice g9 s1.ro.length y9, .slice g10 s1.ins.length y10, .slice g11 s1.rq.length y11, .slice g12 s1.av.length y12⟩).toArray 53 (0, 0))], f12, f11, f10, f9, f8, f7, f6, [(b12, Obj.cells (dvC mark).toArray 67 (0, 0))], [(b11, Obj.cells (ipC dst).toArray 63 (0, 0))], [(b10, Obj.cells (ipC src).toArray 63 (0, 0))], [(b7, Obj.cells (rtC s ⟨.slice q6 s.og.length c6, .slice q7 s.aj.length c7, .slice q8 s.sr.length c8, .slice q9 s.ro.length c9, .slice q10 s.ins.length c10, .slice q11 s.rq.length c11, .slice q12 s.av.length c12⟩).toArray 53 (0, 0))]] rfl (by kernel_rfl) ZrU (by simp) (Zen ?_)))
 refine fe_v (fun a2 w F M R r => Zb4 (F.e rfl) (M.at_ _ (Zae (i := 11) rfl)) (show seg (rtC s ⟨.slice q6 s.og.length c6, .slice q7 s.aj.length c7, .slice q8 s.sr.length c8, .slice q9 s.ro.length c9, .slice q10 s.ins.length c10, .slice q11 s.rq.length c11, .slice q12 s.av.length c12⟩) 0 14 = some (rtC s ⟨.slice q6 s.og.length c6, .slice q7 s.aj.length c7, .slice q8 s.sr.length c8, .slice q9 s.ro.length c9, .slice q10 s.ins.length c10, .slice q11 s.rq.length c11, .slice q12 s.av.length c12⟩) from rfl) r) ?_
 refine fe_v (fun a2 w F M R r => Zb4 (F.e rfl) (M.at_ _ (Zae (i := 0) rfl)) (show seg (rtC s1 ⟨.slice g6 s1.og.length y6, .slice g7 s1.aj.length y7, .slice g8 s1.sr.length y8, .slice g9 s1.ro.length y9, .slice g10 s1.ins.length y10, .slice g11 s1.rq.length y11, .slice g12 s1.av.length y12⟩) 0 14 = some (rtC s1 ⟨.slice g6 s1.og.length y6, .slice g7 s1.aj.length y7, .slice g8 s1.sr.length y8, .slice g9 s1.ro.length y9, .slice g10 s1.ins.length y10, .slice g11 s1.rq.length y11, .slice g12 s1.av.length y12⟩) from rfl) r) (ZcE 60 rfl ?_)
 refine fe_v (fun a2 w F M R r => Zb4 (F.e rfl) (M.at_ _ (Zae (i := 0) rfl)) (show seg (rtC s1 ⟨.slice g6 s1.og.length y6, .slice g7 s1.aj.length y7, .slice g8 s1.sr.length y8, .slice g9 s1.ro.length y9, .slice g10 s1.ins.length y10, .slice g11 s1.rq.length y11, .slice g12 s1.av.length y12⟩) 0 14 = some (rtC s1 ⟨.slice g6 s1.og.length y6, .slice g7 s1.aj.length y7, .slice g8 s1.sr.length y8, .slice g9 s1.ro.length y9, .slice g10 s1.ins.length y10, .slice g11 s1.rq.length y11, .slice g12 s1.av.length y12⟩) from rfl) r) ?_
 refine Zgv (κ := RtV × RtX × RtE × Nat) (fun _ j => .agg (rtC j.1 j.2.1).toArray) (fun _ j => IsRt j.1 ∧ RtOw j.1 j.2.1 j.2.2.1) (fun _ j => j.2.2.1.row ++ [[(b17, Obj.cells (rtC s1 ⟨.slice g6 s1.og.length y6, .slice g7 s1.aj.length y7, .slice g8 s1.sr.length y8, .slice g9 s1.ro.length y9, .slice g10 s1.ins.length y10, .slice g11 s1.rq.length y11, .slice g12 s1.av.length y12⟩).toArray 53 (0, 0))], f12, f11, f10, f9, f8, f7, f6, [(bt, tobj pt len cap j.2.2.2)], [(b12, Obj.cells (dvC mark).toArray 67 (0, 0))], [(b11, Obj.cells (ipC dst).toArray 63 (0, 0))], [(b10, Obj.cells (ipC src).toArray 63 (0, 0))], [(b7, Obj.cells (rtC s ⟨.slice q6 s.og.length c6, .slice q7 s.aj.length c7, .slice q8 s.sr.length c8, .slice q9 s.ro.length c9, .slice q10 s.ins.length c10, .slice q11 s.rq.length c11, .slice q12 s.av.length c12⟩).toArray 53 (0, 0))]]) [] .any (fun i hi => ?_) (fun _ _ _ _ => trivial) ?_
 ·refine Zcw 8 (fun j : RtV × RtX × RtE × Nat => .agg (rtC j.1 j.2.1).toArray) (fun j => IsRt j.1 ∧ RtOw j.1 j.2.1 j.2.2.1) (fun j => tobj pt len cap j.2.2.2) (fun j => j.2.2.1.row) rfl rfl rfl (.head _) (fun w M => ?_) (fun _ => rfl)
  have M2 : Mem [] W w ((RtE.row ⟨f6, f7, f8, f9, f10, f11, f12⟩ ++ [[(bt, tobj pt len cap k2)]]).flatten) := M.sub (subO (by (try dsimp only [RtE.row, List.cons_append, List.nil_append]);repeat (first | exact .refl _ | exact sC0 _ | with_reducible apply sC2 | apply sC1)))
  refine Cal.mono (Znq s1 _ hs1 hsm1 w (hT.later M.ext.any) (M.at_ _ (Zae (i := 8) rfl)) (Zly hA1 M2 (Ext.refl _ _)) (fun w' E => Zly hA1 M2 E)) fun r w' h => ?_
  obtain ⟨s, x, e, k', h1, h2, h3, N⟩ := h
  exact ⟨(s, x, e, k'), h1, ⟨h2, h3⟩, N⟩
 refine Zgv (κ := Nat) (fun _ j => .slice (some ⟨j, 0, none⟩) 3 3) (fun _ _ => True) (fun i j => [(j, Obj.cells (rtC s ⟨.slice q6 s.og.length c6, .slice q7 s.aj.length c7, .slice q8 s.sr.length c8, .slice q9 s.ro.length c9, .slice q10 s.ins.length c10, .slice q11 s.rq.length c11, .slice q12 s.av.length c12⟩ ++ (rtC s1 ⟨.slice g6 s1.og.length y6, .slice g7 s1.aj.length y7, .slice g8 s1.sr.length y8, .slice g9 s1.ro.length y9, .slice g10 s1.ins.length y10, .slice g11 s1.rq.length y11, .slice g12 s1.av.length y12⟩ ++ rtC i.2.1 i.2.2.1)).toArray 53 (0, 0))] :: (i.2.2.2.1.row ++ [[(b17, Obj.cells (rtC s1 ⟨.slice g6 s1.og.length y6, .slice g7 s1.aj.length y7, .slice g8 s1.sr.length y8, .slice g9 s1.ro.length y9, .slice g10 s1.ins.length y10, .slice g11 s1.rq.length y11, .slice g12 s1.av.length y12⟩).toArray 53 (0, 0))], f12, f11, f10, f9, f8, f7, f6, [(bt, tobj pt len cap i.2.2.2.2)], [(b12, Obj.cells (dvC mark).toArray 67 (0, 0))], [(b11, Obj.cells (ipC dst).toArray 63 (0, 0))], [(b10, Obj.cells (ipC src).toArray 63 (0, 0))], [(b7, Obj.cells (rtC s ⟨.slice q6 s.og.length c6, .slice q7 s.aj.length c7, .slice q8 s.sr.length c8, .slice q9 s.ro.length c9, .slice q10 s.ins.length c10, .slice q11 s.rq.length c11, .slice q12 s.av.length c12⟩).toArray 53 (0, 0))]])) [(4, 48)] .any (fun i hi => ?_) (fun _ _ _ _ => trivial) ?_
 ·exact ZnP rfl rfl rfl rfl
 refine ZhC rfl (by rintro i _ q hq;simp at hq;rcases hq with rfl | rfl <;> simp) ?_
 rintro ⟨⟨_, s2, x2, ⟨e6, e7, e8, e9, e10, e11, e12⟩, k3⟩, b49⟩ ⟨⟨_, hs2, hO2⟩, _⟩
 refine ⟨_, rfl, ?_⟩
 dsimp only [RtE.row, List.cons_append, List.nil_append] at hs2 hO2 ⊢
 obtain ⟨v6, v7, v8, v9, v10, v11, v12⟩ := x2
 have hA2 := hO2.at_E
 obtain ⟨o6, o7, o8, o9, o10, o11, o12⟩ := id hO2
 dsimp only at o6 o7 o8 o9 o10 o11 o12
 obtain ⟨r6, d6, rfl, -⟩ := ZbS o6
 obtain ⟨r7, d7, rfl, -⟩ := ZbS o7
 obtain ⟨r8, d8, rfl, -⟩ := ZbS o8
 obtain ⟨r9, d9, rfl, -⟩ := ZbS o9
 obtain ⟨r10, d10, rfl, -⟩ := ZbS o10
 obtain ⟨r11, d11, rfl, -⟩ := ZbS o11
 obtain ⟨r12, d12, rfl, -⟩ := ZbS o12
 have key : ∀ r : Nat, r < 3 → ∃ (sK : RtV) (xK : RtX), IsRt sK ∧ seg (rtC s ⟨.slice q6 s.og.length c6, .slice q7 s.aj.length c7, .slice q8 s.sr.length c8, .slice q9 s.ro.length c9, .slice q10 s.ins.length c10, .slice q11 s.rq.length c11, .slice q12 s.av.length c12⟩ ++ (rtC s1 ⟨.slice g6 s1.og.length y6, .slice g7 s1.aj.length y7, .slice g8 s1.sr.length y8, .slice g9 s1.ro.length y9, .slice g10 s1.ins.length y10, .slice g11 s1.rq.length y11, .slice g12 s1.av.length y12⟩ ++ rtC s2 ⟨.slice r6 s2.og.length d6, .slice r7 s2.aj.length d7, .slice r8 s2.sr.length d8, .slice r9 s2.ro.length d9, .slice r10 s2.ins.length d10, .slice r11 s2.rq.length d11, .slice r12 s2.av.length d12⟩)) (0 + (r : Int).toNat * 14) 14 = some (rtC sK xK) ∧ (rtC sK xK).all (·.oneCell') = true ∧ ∀ w, Mem [] W w ([[(b49, Obj.cells (rtC s ⟨.slice q6 s.og.length c6, .slice q7 s.aj.length c7, .slice q8 s.sr.length c8, .slice q9 s.ro.length c9, .slice q10 s.ins.length c10, .slice q11 s.rq.length c11, .slice q12 s.av.length c12⟩ ++ (rtC s1 ⟨.slice g6 s1.og.length y6, .slice g7 s1.aj.length y7, .slice g8 s1.sr.length y8, .slice g9 s1.ro.length y9, .slice g10 s1.ins.length y10, .slice g11 s1.rq.length y11, .slice g12 s1.av.length y12⟩ ++ rtC s2 ⟨.slice r6 s2.og.length d6, .slice r7 s2.aj.length d7, .slice r8 s2.sr.length d8, .slice r9 s2.ro.length d9, .slice r10 s2.ins.length d10, .slice r11 s2.rq.length d11, .slice r12 s2.av.length d12⟩)).toArray 53 (0, 0))], e12, e11, e10, e9, e8, e7, e6, [(b17, Obj.cells (rtC s1 ⟨.slice g6 s1.og.length y6, .slice g7 s1.aj.length y7, .slice g8 s1.sr.length y8, .slice g9 s1.ro.length y9, .slice g10 s1.ins.length y10, .slice g11 s1.rq.length y11, .slice g12 s1.av.length y12⟩).toArray 53 (0, 0))], f12, f11, f10, f9, f8, f7, f6, [(b12, Obj.cells (dvC mark).toArray 67 (0, 0))], [(b11, Obj.cells (ipC dst).toArray 63 (0, 0))], [(b10, Obj.cells (ipC src).toArray 63 (0, 0))]] : Row).flatten → RtAt w sK xK := by
  intro r hr
  rcases (by omega : r = 0 ∨ r = 1 ∨ r = 2) with rfl | rfl | rfl
  ·exact ⟨s, ⟨.slice q6 s.og.length c6, .slice q7 s.aj.length c7, .slice q8 s.sr.length c8, .slice q9 s.ro.length c9, .slice q10 s.ins.length c10, .slice q11 s.rq.length c11, .slice q12 s.av.length c12⟩, hs, rfl, rfl, fun w M => h.later M.ext⟩
  ·exact ⟨s1, ⟨.slice g6 s1.og.length y6, .slice g7 s1.aj.length y7, .slice g8 s1.sr.length y8, .slice g9 s1.ro.length y9, .slice g10 s1.ins.length y10, .slice g11 s1.rq.length y11, .slice g12 s1.av.length y12⟩, hs1, rfl, rfl, fun w M => hA1.at_ fun p hp => M.at_ p ((subO (l := RtE.row ⟨f6, f7, f8, f9, f10, f11, f12⟩) (by (try dsimp only [RtE.row, List.cons_append, List.nil_append]);repeat (first | exact .refl _ | exact sC0 _ | with_reducible apply sC2 | apply sC1))).subset hp)⟩
  ·exact ⟨s2, ⟨.slice r6 s2.og.length d6, .slice r7 s2.aj.length d7, .slice r8 s2.sr.length d8, .slice r9 s2.ro.length d9, .slice r10 s2.ins.length d10, .slice r11 s2.rq.length d11, .slice r12 s2.av.length d12⟩, hs2, rfl, rfl, fun w M => hA2.at_ fun p hp => M.at_ p ((subO (l := RtE.row ⟨e6, e7, e8, e9, e10, e11, e12⟩) (by (try dsimp only [RtE.row, List.cons_append, List.nil_append]);repeat (first | exact .refl _ | exact sC0 _ | with_reducible apply sC2 | apply sC1))).subset hp)⟩
 have cA := fun (w : World) (h : RtAt w s1 ⟨.slice g6 s1.og.length y6, .slice g7 s1.aj.length y7, .slice g8 s1.sr.length y8, .slice g9 s1.ro.length y9, .slice g10 s1.ins.length y10, .slice g11 s1.rq.length y11, .slice g12 s1.av.length y12⟩) => Zj9 s1 _ hs1 w h
 obtain ⟨zc, hzc⟩ : ∃ c, c = (rtC s ⟨.slice q6 s.og.length c6, .slice q7 s.aj.length c7, .slice q8 s.sr.length c8, .slice q9 s.ro.length c9, .slice q10 s.ins.length c10, .slice q11 s.rq.length c11, .slice q12 s.av.length c12⟩ ++ (rtC s1 ⟨.slice g6 s1.og.length y6, .slice g7 s1.aj.length y7, .slice g8 s1.sr.length y8, .slice g9 s1.ro.length y9, .slice g10 s1.ins.length y10, .slice g11 s1.rq.length y11, .slice g12 s1.av.length y12⟩ ++ rtC s2 ⟨.slice r6 s2.og.length d6, .slice r7 s2.aj.length d7, .slice r8 s2.sr.length d8, .slice r9 s2.ro.length d9, .slice r10 s2.ins.length d10, .slice r11 s2.rq.length d11, .slice r12 s2.av.length d12⟩)) := ⟨_, rfl⟩
 rw [← hzc] at key ⊢
 clear hzc
 obtain ⟨c17, h17⟩ : ∃ c, c = rtC s1 ⟨.slice g6 s1.og.length y6, .slice g7 s1.aj.length y7, .slice g8 s1.sr.length y8, .slice g9 s1.ro.length y9, .slice g10 s1.ins.length y10, .slice g11 s1.rq.length y11, .slice g12 s1.av.length y12⟩ := ⟨_, rfl⟩
 rw [← h17] at key cA ⊢
 have s17 : seg c17 0 14 = some c17 := by rw [h17];rfl
 clear h17
 refine gR 10 rfl ?_
 refine Za1 (ι := Nat × Nat) ⟨fun (i, k) => 12 - i, fun (i, k) => i ≤ 12, fun (i, k) => [(19, .int .i64 i), (18, .slice (some ⟨b49, 0, none⟩) 3 3), (17, .pointer (some ⟨b17, 0, none⟩)), (16, .int .i64 bs), (15, .pointer (some ⟨bt, 0, none⟩)), (2, .int .i64 now), (6, .bool marked), (10, .pointer (some ⟨b10, 0, none⟩)), (11, .pointer (some ⟨b11, 0, none⟩)), (12, .pointer (some ⟨b12, 0, none⟩))], fun (i, k) => [[(b49, Obj.cells (zc).toArray 53 (0, 0))], e12, e11, e10, e9, e8, e7, e6, [(b17, Obj.cells (c17).toArray 53 (0, 0))], f12, f11, f10, f9, f8, f7, f6, [(bt, tobj pt len cap k)], [(b12, Obj.cells (dvC mark).toArray 67 (0, 0))], [(b11, Obj.cells (ipC dst).toArray 63 (0, 0))], [(b10, Obj.cells (ipC src).toArray 63 (0, 0))]]⟩ (0, k3) (by dsimp only;omega) (fun a F => F.only [19, 18, 17, 16, 15, 2, 6, 10, 11, 12] rfl) (by repeat (first | exact .refl _ | apply sC2 | apply sC1)) ?_
 rintro ⟨i, k⟩ hi
 dsimp only at hi ⊢
 by_cases hlt : i < 12
 ·obtain ⟨sK, xK, hsK, hseg, hone, hatK⟩ := key (i % 3) (Nat.mod_lt _ (by decide))
  refine gR 7 rfl (ZaE rfl (dqT (by omega)) (gR 4 rfl (gR 1 rfl (Zsq 19 134 [bt] [7, 9, 11, 13, 18] [14] [] [[(bt, tobj pt len cap k)]] [[(b49, Obj.cells (zc).toArray 53 (0, 0))], e12, e11, e10, e9, e8, e7, e6, [(b17, Obj.cells (c17).toArray 53 (0, 0))], f12, f11, f10, f9, f8, f7, f6, [(b12, Obj.cells (dvC mark).toArray 67 (0, 0))], [(b11, Obj.cells (ipC dst).toArray 63 (0, 0))], [(b10, Obj.cells (ipC src).toArray 63 (0, 0))]] rfl (by kernel_rfl) ZkE (by simp) (Zhy 60 rfl (fs_v (fun a2 w F M R r => ZmD (s := ((i % 3 : Nat) : Int)) (F.e rfl) (F.e rfl) (by decide) (by rw [Int.tmod_eq_emod_of_nonneg (by omega)];omega) r) (fs_v (fun a2 w F M R r => Zcg (F.e rfl) (F.e rfl) (by omega) (by omega) r) (fs_v (fun a2 w F M R r => Zb4 (F.e rfl) (M.at_ _ (Zae (i := 0) rfl)) hseg r) (Zhy 60 rfl ?_)))))))))
  refine ZqC (κ := List Int × Nat) (fun _ j => .agg (ipC j.1).toArray) (fun _ j => IsIP j.1) (fun _ j => [[(b49, Obj.cells (zc).toArray 53 (0, 0))], e12, e11, e10, e9, e8, e7, e6, [(b17, Obj.cells (c17).toArray 53 (0, 0))], f12, f11, f10, f9, f8, f7, f6, [(bt, tobj pt len cap j.2)], [(b12, Obj.cells (dvC mark).toArray 67 (0, 0))], [(b11, Obj.cells (ipC dst).toArray 63 (0, 0))], [(b10, Obj.cells (ipC src).toArray 63 (0, 0))]]) [] (fun i hi => ?_) ?_
  ·exact Zcw 16 (fun j : List Int × Nat => .agg (ipC j.1).toArray) (fun j => IsIP j.1) (fun j => tobj pt len cap j.2) (fun _ => []) rfl rfl rfl (.head _) (fun w M => Cal.mono (ZjB w (hT.later M.ext.any) (M.at_ _ (Zae (i := 16) rfl))) fun r w' h => ⟨(_, _), h.1, Zfp _ _, by simpa using h.2⟩) (fun _ => rfl)
  refine Zhy 60 rfl (ZqC (κ := List Int × Nat) (fun _ j => .agg (ipC j.1).toArray) (fun _ j => IsIP j.1) (fun _ j => [[(b49, Obj.cells (zc).toArray 53 (0, 0))], e12, e11, e10, e9, e8, e7, e6, [(b17, Obj.cells (c17).toArray 53 (0, 0))], f12, f11, f10, f9, f8, f7, f6, [(bt, tobj pt len cap j.2)], [(b12, Obj.cells (dvC mark).toArray 67 (0, 0))], [(b11, Obj.cells (ipC dst).toArray 63 (0, 0))], [(b10, Obj.cells (ipC src).toArray 63 (0, 0))]]) [] (fun i hi => ?_) ?_)
  ·exact Zcw 16 (fun j : List Int × Nat => .agg (ipC j.1).toArray) (fun j => IsIP j.1) (fun j => tobj pt len cap j.2) (fun _ => []) rfl rfl rfl (.head _) (fun w M => Cal.mono (ZjB w (hT.later M.ext.any) (M.at_ _ (Zae (i := 16) rfl))) fun r w' h => ⟨(_, _), h.1, Zfp _ _, by simpa using h.2⟩) (fun _ => rfl)
  refine Zhy 60 rfl (ZqC (κ := DstV × Nat) (fun _ j => .agg (dvC j.1).toArray) (fun _ j => IsDv j.1) (fun _ j => [[(b49, Obj.cells (zc).toArray 53 (0, 0))], e12, e11, e10, e9, e8, e7, e6, [(b17, Obj.cells (c17).toArray 53 (0, 0))], f12, f11, f10, f9, f8, f7, f6, [(bt, tobj pt len cap j.2)], [(b12, Obj.cells (dvC mark).toArray 67 (0, 0))], [(b11, Obj.cells (ipC dst).toArray 63 (0, 0))], [(b10, Obj.cells (ipC src).toArray 63 (0, 0))]]) [] (fun i hi => ?_) ?_)
  ·exact Zcw 16 (fun j : DstV × Nat => .agg (dvC j.1).toArray) (fun j => IsDv j.1) (fun j => tobj pt len cap j.2) (fun _ => []) rfl rfl rfl (.head _) (fun w M => Cal.mono (Zmn w (hT.later M.ext.any) (M.at_ _ (Zae (i := 16) rfl))) fun r w' h => h.elim fun x h => h.elim fun k' h => ⟨(x, k'), h.1, h.2.1, by simpa using h.2.2.2⟩) (fun _ => rfl)
  refine Zhy 60 rfl (ZqC (κ := Bool × Nat) (fun _ j => .bool j.1) (fun _ j => True) (fun _ j => [[(b49, Obj.cells (zc).toArray 53 (0, 0))], e12, e11, e10, e9, e8, e7, e6, [(b17, Obj.cells (c17).toArray 53 (0, 0))], f12, f11, f10, f9, f8, f7, f6, [(bt, tobj pt len cap j.2)], [(b12, Obj.cells (dvC mark).toArray 67 (0, 0))], [(b11, Obj.cells (ipC dst).toArray 63 (0, 0))], [(b10, Obj.cells (ipC src).toArray 63 (0, 0))]]) [] (fun i hi => ?_) ?_)
  ·exact Zcw 16 (fun j : Bool × Nat => .bool j.1) (fun j => True) (fun j => tobj pt len cap j.2) (fun _ => []) rfl rfl rfl (.head _) (fun w M => Cal.mono (Zfm 2 (by decide) (by decide) w (hT.later M.ext.any) (M.at_ _ (Zae (i := 16) rfl))) fun r w' h => ⟨(_, _), h.1, trivial, by simpa using h.2⟩) (fun _ => rfl)
  refine ZqD (ZqD (ZqD (ZqD (Zux (len := 14) 14 (.tail _ (.tail _ (.tail _ (.head _)))) (.head _) (show 14 < 18 from by decide) rfl rfl hone (fun i _ => Zlz ZkE) rfl ?_))))
  refine ZtR [(15, 63, 16), (16, 63, 16), (17, 67, 35)] (List.forall_mem_cons.2 ⟨.tail _ (.tail _ (.head _)), List.forall_mem_cons.2 ⟨.tail _ (.head _), List.forall_mem_cons.2 ⟨.head _, by simp⟩⟩⟩) rfl rfl (by rintro i _ q hq;simp at hq;rcases hq with rfl | rfl | rfl | rfl | rfl <;> simp) (fun i _ p hp => ?_) ?_
  ·rcases List.mem_cons.1 hp with rfl | hp
   ·exact .inr ⟨14, .head _, show 14 < 19 from by decide, ⟨_, rfl, rfl⟩, by simp⟩
   ·exact .inl (Zlz ZkE p hp)
  rintro ⟨⟨⟨⟨⟨_, pS, k5⟩, pD, k6⟩, dm, k7⟩, bo, k8⟩, b20⟩ ⟨⟨⟨⟨_, iS⟩, iD⟩, iM⟩, _⟩
  refine ⟨_, rfl, fun β γ hγ => ?_⟩
  have g15 := hγ (15, 63, 16) (by simp)
  have g16 := hγ (16, 63, 16) (by simp)
  have g17 := hγ (17, 67, 35) (by simp)
  clear hγ
  dsimp only at g15 g16 g17 iS iD iM
  have n15 := ZaU iS.len
  have n16 := ZaU iD.len
  have n17 := Zaz iM
  refine ZtN [59, 61, 63, 65, 67, 19, 18, 17, 16, 15, 2, 6, 10, 11, 12, 20, 22, 23, 24] [(59, .int .i64 bs), (61, .agg (ipC pS).toArray), (63, .agg (ipC pD).toArray), (65, .agg (dvC dm).toArray), (67, .bool bo), (19, .int .i64 i), (18, .slice (some ⟨b49, 0, none⟩) 3 3), (17, .pointer (some ⟨b17, 0, none⟩)), (16, .int .i64 bs), (15, .pointer (some ⟨bt, 0, none⟩)), (2, .int .i64 now), (6, .bool marked), (10, .pointer (some ⟨b10, 0, none⟩)), (11, .pointer (some ⟨b11, 0, none⟩)), (12, .pointer (some ⟨b12, 0, none⟩)), (20, .pointer (some ⟨b20, 0, none⟩)), (22, .pointer (some ⟨β 15, 0, none⟩)), (23, .pointer (some ⟨β 16, 0, none⟩)), (24, .pointer (some ⟨β 17, 0, none⟩))] [[(β 15, Obj.cells (γ 15).toArray 63 (0, 0))], [(β 16, Obj.cells (γ 16).toArray 63 (0, 0))], [(β 17, Obj.cells (γ 17).toArray 67 (0, 0))], [(b20, Obj.cells (rtC sK xK).toArray 53 (0, 0))], [(b49, Obj.cells (zc).toArray 53 (0, 0))], e12, e11, e10, e9, e8, e7, e6, [(b17, Obj.cells (c17).toArray 53 (0, 0))], f12, f11, f10, f9, f8, f7, f6, [(bt, tobj pt len cap k8)], [(b12, Obj.cells (dvC mark).toArray 67 (0, 0))], [(b11, Obj.cells (ipC dst).toArray 63 (0, 0))], [(b10, Obj.cells (ipC src).toArray 63 (0, 0))]] rfl rfl ?_
  refine gR 1 rfl (Zas 0 rfl rfl n15 (ZfO _) rfl (Zag (g15.trans n15.symm)) rfl (Zas 1 rfl rfl n16 (ZfO _) rfl (Zag (g16.trans n16.symm)) rfl (Zas 2 rfl rfl n17 (Zbq _) rfl (Zag (g17.trans n17.symm)) rfl ?_)))
  clear n15 n16 n17 g15 g16 g17
  refine gR 6 rfl (Zah 12 rfl rfl (by with_reducible assumption) ?_)
  refine Zct (ι := Value × List (Nat × Obj)) (fun j => j.1) (fun j => OwnS 100 37 j.1 (ZdD s1).length (avsC (ZdD s1)) j.2) (fun j => [j.2]) rfl rfl (fun w M => Cal.mono (cA w (hA1.at_ fun p hp => M.at_ p ((subO (l := RtE.row ⟨f6, f7, f8, f9, f10, f11, f12⟩) (by (try dsimp only [RtE.row, List.cons_append, List.nil_append]);repeat (first | exact .refl _ | exact sC0 _ | with_reducible apply sC2 | apply sC1))).subset hp))) fun r w' hh => by
   obtain ⟨ent, e1, e2⟩ := hh
   exact ⟨(r, ent), rfl, e1, by simpa using e2⟩) ?_
  rintro ⟨u, ent⟩ hOu
  dsimp only [List.cons_append, List.nil_append] at hOu ⊢
  obtain ⟨qu, cu, rfl, hqu⟩ := ZbS hOu
  have hla := ZjN s1
  have ian := Zlx hs1
  refine gR 3 rfl ?_
  refine ZcD (ι := List Int × List Int × DstV × Nat) ⟨fun (p, q, m, k) => IsIP p ∧ IsIP q ∧ IsDv m, fun (p, q, m, k) => [(21, .int .i64 bs), (25, .bool bo), (19, .int .i64 i), (18, .slice (some ⟨b49, 0, none⟩) 3 3), (17, .pointer (some ⟨b17, 0, none⟩)), (16, .int .i64 bs), (15, .pointer (some ⟨bt, 0, none⟩)), (2, .int .i64 now), (6, .bool marked), (10, .pointer (some ⟨b10, 0, none⟩)), (11, .pointer (some ⟨b11, 0, none⟩)), (12, .pointer (some ⟨b12, 0, none⟩)), (20, .pointer (some ⟨b20, 0, none⟩)), (22, .pointer (some ⟨β 15, 0, none⟩)), (23, .pointer (some ⟨β 16, 0, none⟩)), (24, .pointer (some ⟨β 17, 0, none⟩))], fun (p, q, m, k) => [[(β 15, Obj.cells (ipC p).toArray 63 (0, 0))], [(β 16, Obj.cells (ipC q).toArray 63 (0, 0))], [(β 17, Obj.cells (dvC m).toArray 67 (0, 0))], [(b20, Obj.cells (rtC sK xK).toArray 53 (0, 0))], [(b49, Obj.cells (zc).toArray 53 (0, 0))], e12, e11, e10, e9, e8, e7, e6, [(b17, Obj.cells (c17).toArray 53 (0, 0))], f12, f11, f10, f9, f8, f7, f6, [(bt, tobj pt len cap k)], [(b12, Obj.cells (dvC mark).toArray 67 (0, 0))], [(b11, Obj.cells (ipC dst).toArray 63 (0, 0))], [(b10, Obj.cells (ipC src).toArray 63 (0, 0))]]⟩ ?_ ?_
  ·by_cases hr : 0 < (ZdD s1).length
   ·obtain ⟨bu, ju, rfl, rfl⟩ := hqu hr
    refine gR 6 rfl (ZaQ 73 rfl (dqT (by omega)) (gR 1 rfl (ZaS 21 rfl rfl rfl (fun w M => Zfm _ (by omega) (by omega) w (hT.later M.ext.any) (M.at_ _ (Zae (i := 21) rfl))) rfl (gR 3 rfl (g_if rfl (fun h1 => ?_) (fun h1 => ?_))))))
    focus
     replace h1 := dqU h1
     refine gR 6 rfl ?_
    rotate_left 1
    focus
     replace h1 := dqV h1
     exact gR 1 rfl (Za6 (pS, pD, dm, _) ⟨iS, iD, iM⟩ (fun a F => F.only [21, 25, 19, 18, 17, 16, 15, 2, 6, 10, 11, 12, 20, 22, 23, 24] rfl) (by (try dsimp only);repeat (first | exact .refl _ | with_reducible exact sC0 _ | with_reducible apply sC2 | apply sC1)))
    refine Za8 (ι := Int × Nat) 21 (fun j => .int .i64 j.1) (fun j => 0 ≤ j.1 ∧ j.1 < (ZdD s1).length) (fun j => tobj pt len cap j.2) (fun _ => []) rfl rfl rfl (fun w M => Cal.mono (Zba ((ZdD s1).length : Int) (by omega) (by omega) w (hT.later M.ext.any) (M.at_ _ (Zae (i := 21) rfl))) fun r w2 h => ⟨(_, _), h.1, Zbm xs _ (by omega), by simpa using h.2⟩) (fun _ => rfl) ?_
    rintro ⟨j, k9⟩ ⟨j0, j1⟩
    dsimp only [List.nil_append] at j0 j1 ⊢
    obtain ⟨z, hz⟩ : ∃ z, z = (ZdD s1)[j.toNat]'(by omega) := ⟨_, rfl⟩
    have zI : IsAv z := by rw [hz];exact ian _ (List.getElem_mem _)
    have zd : IsDv z.to := zI.1
    have fz1 : seg (avsC (ZdD s1) ++ ju) (0 + j.toNat * 37 + 0) 35 = some (dvC z.to) := by
     rw [hz]
     exact ZbP (ZfM (ZgA ian) ju (show j.toNat < (ZdD s1).length by omega) rfl) (Zh0 (ian _ (List.getElem_mem _))) (by omega)
    have n17 := Zaz zd
    refine Zbk rfl rfl (by omega) (by omega) (gR 1 rfl (Zah 0 rfl rfl (by with_reducible assumption) ?_))
    refine Zas 3 rfl rfl (Zaz ‹_›) (Zbq _) rfl (Zag (by rw [Zaz ‹_›];first | rfl | rw [Zaz ‹_›])) rfl ?_
    refine gR 2 rfl (gR 1 rfl (Zfw 7 134 [β 15] [6] [] [[(β 15, Obj.cells (ipC pS).toArray 63 (0, 0))]] [[(bu, Obj.cells (avsC (ZdD s1) ++ ju).toArray 100 (0, 0))], [(β 16, Obj.cells (ipC pD).toArray 63 (0, 0))], [(β 17, Obj.cells (dvC z.to).toArray 67 (0, 0))], [(b20, Obj.cells (rtC sK xK).toArray 53 (0, 0))], [(b49, Obj.cells (zc).toArray 53 (0, 0))], e12, e11, e10, e9, e8, e7, e6, [(b17, Obj.cells (c17).toArray 53 (0, 0))], f12, f11, f10, f9, f8, f7, f6, [(bt, tobj pt len cap k9)], [(b12, Obj.cells (dvC mark).toArray 67 (0, 0))], [(b11, Obj.cells (ipC dst).toArray 63 (0, 0))], [(b10, Obj.cells (ipC src).toArray 63 (0, 0))]] rfl (by kernel_rfl) ZrT (by simp) (Zen ?_)))
    refine ZcE 60 rfl (fe_v (fun a2 w F M R r => Zb4 (F.e rfl) (M.at_ _ (Zae (i := 2) rfl)) (ZoQ zd) r) (ZcE 60 rfl (fe_v (fun a2 w F M R r => Zb4 (F.e rfl) (M.at_ _ (Zae (i := 2) rfl)) (ZoT zd) r) (Zkk (fun _ => [[(bu, Obj.cells (avsC (ZdD s1) ++ ju).toArray 100 (0, 0))], [(β 15, Obj.cells (ipC z.to.sip).toArray 63 (0, 0))], [(β 16, Obj.cells (ipC pD).toArray 63 (0, 0))], [(β 17, Obj.cells (dvC z.to).toArray 67 (0, 0))], [(b20, Obj.cells (rtC sK xK).toArray 53 (0, 0))], [(b49, Obj.cells (zc).toArray 53 (0, 0))], e12, e11, e10, e9, e8, e7, e6, [(b17, Obj.cells (c17).toArray 53 (0, 0))], f12, f11, f10, f9, f8, f7, f6, [(bt, tobj pt len cap k9)], [(b12, Obj.cells (dvC mark).toArray 67 (0, 0))], [(b11, Obj.cells (ipC dst).toArray 63 (0, 0))], [(b10, Obj.cells (ipC src).toArray 63 (0, 0))]]) [] (fun i hi => ?_) ?_))))
    ·exact Zho 1 rfl rfl (ZaU zd.2.len) (ZfO _) rfl (Zag ((ZaU iS.len).trans (ZaU zd.2.len).symm)) rfl (.head _)
    refine ZhC rfl (by rintro i _ q hq;simp at hq) ?_
    rintro _ _
    refine ⟨_, rfl, ?_⟩
    exact Zas 2 rfl rfl (ZaU zd.1.len) (ZfO _) rfl (Zag ((ZaU iD.len).trans (ZaU zd.1.len).symm)) rfl (gR 1 rfl (Za6 (z.to.sip, z.to.dip, z.to, _) ⟨zd.2, zd.1, zd⟩ (fun a F => F.only [21, 25, 19, 18, 17, 16, 15, 2, 6, 10, 11, 12, 20, 22, 23, 24] rfl) (by (try dsimp only);repeat (first | exact .refl _ | with_reducible exact sC0 _ | with_reducible apply sC2 | apply sC1))))
   ·refine gR 6 rfl ?_
    exact ZaQ 73 rfl (dqF (by omega)) (gR 7 rfl (Za6 (pS, pD, dm, _) ⟨iS, iD, iM⟩ (fun a F => F.only [21, 25, 19, 18, 17, 16, 15, 2, 6, 10, 11, 12, 20, 22, 23, 24] rfl) (by (try dsimp only);repeat (first | exact .refl _ | with_reducible exact sC0 _ | with_reducible apply sC2 | apply sC1))))
  rintro ⟨p1, q1, m1, k10⟩ ⟨i1, i2, i3⟩
  dsimp only at i1 i2 i3 ⊢
  refine gR 2 rfl ?_
  refine ZcD (ι := Int × List Int × List Int × DstV × Bool) ⟨fun (_, p, q, m, _) => IsIP p ∧ IsIP q ∧ IsDv m, fun (at_, p, q, m, b) => [(21, .int .i64 at_), (25, .bool b), (19, .int .i64 i), (18, .slice (some ⟨b49, 0, none⟩) 3 3), (17, .pointer (some ⟨b17, 0, none⟩)), (16, .int .i64 bs), (15, .pointer (some ⟨bt, 0, none⟩)), (2, .int .i64 now), (6, .bool marked), (10, .pointer (some ⟨b10, 0, none⟩)), (11, .pointer (some ⟨b11, 0, none⟩)), (12, .pointer (some ⟨b12, 0, none⟩)), (20, .pointer (some ⟨b20, 0, none⟩)), (22, .pointer (some ⟨β 15, 0, none⟩)), (23, .pointer (some ⟨β 16, 0, none⟩)), (24, .pointer (some ⟨β 17, 0, none⟩))], fun (at_, p, q, m, b) => [[(β 15, Obj.cells (ipC p).toArray 63 (0, 0))], [(β 16, Obj.cells (ipC q).toArray 63 (0, 0))], [(β 17, Obj.cells (dvC m).toArray 67 (0, 0))], [(b20, Obj.cells (rtC sK xK).toArray 53 (0, 0))], [(b49, Obj.cells (zc).toArray 53 (0, 0))], e12, e11, e10, e9, e8, e7, e6, [(b17, Obj.cells (c17).toArray 53 (0, 0))], f12, f11, f10, f9, f8, f7, f6, [(bt, tobj pt len cap k10)], [(b12, Obj.cells (dvC mark).toArray 67 (0, 0))], [(b11, Obj.cells (ipC dst).toArray 63 (0, 0))], [(b10, Obj.cells (ipC src).toArray 63 (0, 0))]]⟩ ?_ ?_
  ·by_cases h3 : i < 3
   ·refine gR 6 rfl ?_
    refine ZaE rfl (dqT (by omega)) (gR 1 rfl (Zfw 9 134 [β 15, β 16, β 17] [6, 7, 8] [] [[(β 15, Obj.cells (ipC p1).toArray 63 (0, 0))], [(β 16, Obj.cells (ipC q1).toArray 63 (0, 0))], [(β 17, Obj.cells (dvC m1).toArray 67 (0, 0))]] [[(b20, Obj.cells (rtC sK xK).toArray 53 (0, 0))], [(b49, Obj.cells (zc).toArray 53 (0, 0))], e12, e11, e10, e9, e8, e7, e6, [(b17, Obj.cells (c17).toArray 53 (0, 0))], f12, f11, f10, f9, f8, f7, f6, [(bt, tobj pt len cap k10)], [(b12, Obj.cells (dvC mark).toArray 67 (0, 0))], [(b11, Obj.cells (ipC dst).toArray 63 (0, 0))], [(b10, Obj.cells (ipC src).toArray 63 (0, 0))]] rfl (by kernel_rfl) (by rw [← List.flatten_append];exact .refl _) (by simp) (Zen ?_)))
    refine ZcE 60 rfl (fe_v (fun a2 w F M R r => Zb4 (F.e rfl) (M.at_ _ (Zae (i := 20) rfl)) (e1) r) (fe_v (fun a2 w F M R r => Zb4 (F.e rfl) (M.at_ _ (Zae (i := 19) rfl)) (e2) r) (fe_v (fun a2 w F M R r => Zb4 (F.e rfl) (M.at_ _ (Zae (i := 18) rfl)) (ZaO hmk) r) (ZcE 60 rfl (Zkk (fun _ => [[(β 15, Obj.cells (ipC src).toArray 63 (0, 0))], [(β 16, Obj.cells (ipC q1).toArray 63 (0, 0))], [(β 17, Obj.cells (dvC m1).toArray 67 (0, 0))], [(b20, Obj.cells (rtC sK xK).toArray 53 (0, 0))], [(b49, Obj.cells (zc).toArray 53 (0, 0))], e12, e11, e10, e9, e8, e7, e6, [(b17, Obj.cells (c17).toArray 53 (0, 0))], f12, f11, f10, f9, f8, f7, f6, [(bt, tobj pt len cap k10)], [(b12, Obj.cells (dvC mark).toArray 67 (0, 0))], [(b11, Obj.cells (ipC dst).toArray 63 (0, 0))], [(b10, Obj.cells (ipC src).toArray 63 (0, 0))]]) [] (fun i hi => ?_) ?_)))))
    ·exact Zho 0 rfl rfl (ZaU hsi.len) (ZfO _) rfl (Zag ((ZaU i1.len).trans (ZaU hsi.len).symm)) rfl (.head _)
    refine Zkk (fun _ => [[(β 15, Obj.cells (ipC src).toArray 63 (0, 0))], [(β 16, Obj.cells (ipC dst).toArray 63 (0, 0))], [(β 17, Obj.cells (dvC m1).toArray 67 (0, 0))], [(b20, Obj.cells (rtC sK xK).toArray 53 (0, 0))], [(b49, Obj.cells (zc).toArray 53 (0, 0))], e12, e11, e10, e9, e8, e7, e6, [(b17, Obj.cells (c17).toArray 53 (0, 0))], f12, f11, f10, f9, f8, f7, f6, [(bt, tobj pt len cap k10)], [(b12, Obj.cells (dvC mark).toArray 67 (0, 0))], [(b11, Obj.cells (ipC dst).toArray 63 (0, 0))], [(b10, Obj.cells (ipC src).toArray 63 (0, 0))]]) [] (fun i hi => ?_) ?_
    ·exact Zho 1 rfl rfl (ZaU hdi.len) (ZfO _) rfl (Zag ((ZaU i2.len).trans (ZaU hdi.len).symm)) rfl (.tail _ (.head _))
    refine Zkk (fun _ => [[(β 15, Obj.cells (ipC src).toArray 63 (0, 0))], [(β 16, Obj.cells (ipC dst).toArray 63 (0, 0))], [(β 17, Obj.cells (dvC mark).toArray 67 (0, 0))], [(b20, Obj.cells (rtC sK xK).toArray 53 (0, 0))], [(b49, Obj.cells (zc).toArray 53 (0, 0))], e12, e11, e10, e9, e8, e7, e6, [(b17, Obj.cells (c17).toArray 53 (0, 0))], f12, f11, f10, f9, f8, f7, f6, [(bt, tobj pt len cap k10)], [(b12, Obj.cells (dvC mark).toArray 67 (0, 0))], [(b11, Obj.cells (ipC dst).toArray 63 (0, 0))], [(b10, Obj.cells (ipC src).toArray 63 (0, 0))]]) [] (fun i hi => ?_) ?_
    ·exact Zho 2 rfl rfl (Zaz hmk) (Zbq _) rfl (Zag ((Zaz i3).trans (Zaz hmk).symm)) rfl (.tail _ (.tail _ (.head _)))
    refine ZhC rfl (by rintro i _ q hq;simp at hq) ?_
    rintro _ _
    refine ⟨_, rfl, ?_⟩
    exact gR 2 rfl (Za6 (now, src, dst, mark, marked) ⟨hsi, hdi, hmk⟩ (fun a F => F.only [21, 25, 19, 18, 17, 16, 15, 2, 6, 10, 11, 12, 20, 22, 23, 24] rfl) (by (try dsimp only);repeat (first | exact .refl _ | with_reducible exact sC0 _ | with_reducible apply sC2 | apply sC1)))
   ·refine gR 6 rfl ?_
    exact Zav rfl (dqF (by omega)) (gR 1 rfl (Za6 (bs, p1, q1, m1, bo) ⟨i1, i2, i3⟩ (fun a F => F.only [21, 25, 19, 18, 17, 16, 15, 2, 6, 10, 11, 12, 20, 22, 23, 24] rfl) (by (try dsimp only);repeat (first | exact .refl _ | with_reducible exact sC0 _ | with_reducible apply sC2 | apply sC1))))
  rintro ⟨at_, p2, q2, m2, b2⟩ ⟨j1, j2, j3⟩
  dsimp only at j1 j2 j3 ⊢
  obtain ⟨r, hfv⟩ : ∃ r, r = fwdV sK at_ p2 q2 m2 b2 := ⟨_, rfl⟩
  have hd : IsDv r.2.1 := by rw [hfv];exact Zss hsK.og hsK.ins
  obtain ⟨n, d, e⟩ := r
  dsimp only at hd
  have f1 := Zbw (ZaU j1.len)
  have f2 := Zbw (ZaU j2.len)
  have n1 : (e != e) = false := bneF rfl
  have n2 : (n != n) = false := bneF rfl
  have n3 : eqVs (dvC d) (dvC d) = true := by rw [ZoS hd hd];simp
  have n4 := Zep hd
  have n5 : (!decide (d = d)) = false := by simp
  have cM : ∀ w, RtAt w sK xK → Cal Tryz.prog 47 _ w _ := fun w h => ZmJ sK xK hsK at_ p2 q2 j1 j2 m2 j3 b2 w h
  have cR : ∀ w, RtAt w sK xK → Cal Tryz.prog 48 _ w _ := fun w h => Zmv sK xK hsK at_ p2 q2 j1 j2 m2 j3 b2 w h
  rw [← hfv] at cM cR
  dsimp only at cM cR
  clear hfv
  refine gR 3 rfl (Zah 3 rfl rfl rfl ?_)
  refine gR 1 rfl (Zah 0 rfl rfl (by with_reducible assumption) ?_)
  refine Zah 1 rfl rfl (by with_reducible assumption) ?_
  refine Zah 2 rfl rfl (ZaO ‹_›) ?_
  refine gR 1 rfl (Zad rfl rfl (fun w M => cM w (hatK w (M.sub (subO (by (try dsimp only [RtE.row, List.cons_append, List.nil_append]);repeat (first | exact .refl _ | exact sC0 _ | with_reducible apply sC2 | apply sC1)))))) (gR 4 rfl (Zat fun b28 => gR 1 rfl (Zas 0 rfl rfl (Zaz ‹_›) (Zbq _) rfl (Zag (by rw [Zaz ‹_›];first | rfl | rw [Zaz ‹_›])) rfl ?_))))
  refine gR 5 rfl (Zah 4 rfl rfl rfl ?_)
  refine gR 1 rfl (Zah 1 rfl rfl (by with_reducible assumption) ?_)
  refine Zah 2 rfl rfl (by with_reducible assumption) ?_
  refine Zah 3 rfl rfl (ZaO ‹_›) ?_
  refine gR 1 rfl (Zad rfl rfl (fun w M => cR w (hatK w (M.sub (subO (by (try dsimp only [RtE.row, List.cons_append, List.nil_append]);repeat (first | exact .refl _ | exact sC0 _ | with_reducible apply sC2 | apply sC1)))))) (gR 4 rfl (Zat fun b31 => gR 1 rfl (Zas 0 rfl rfl (Zaz ‹_›) (Zbq _) rfl (Zag (by rw [Zaz ‹_›];first | rfl | rw [Zaz ‹_›])) rfl ?_))))
  refine gR 9 rfl (ZaQ 123 rfl (bneF (by omega)) (gR 5 rfl (ZaQ 128 rfl (bneF (by omega)) (Zah 1 rfl rfl (ZaO ‹_›) ?_))))
  refine Zah 0 rfl rfl (ZaO ‹_›) ?_
  refine Zuw rfl rfl (Zep ‹_›) (Zep ‹_›) (ZoS ‹_› ‹_›) ?_
  refine gR 3 rfl (Zav rfl ‹_› ?_)
  exact gR 5 rfl (ZaK rfl rfl (Zax (by omega) (by omega)) (gR 2 rfl (Zar (i + 1, _) (by dsimp only;omega) (by dsimp only;omega) (fun a F => F.only [19, 18, 17, 16, 15, 2, 6, 10, 11, 12] rfl) (by (try dsimp only);repeat (first | exact .refl _ | with_reducible exact sC0 _ | with_reducible apply sC2 | apply sC1)))))
 ·refine gR 7 rfl ?_
  exact Zav rfl (dqF (by omega)) (gR 2 rfl (ZaZ (gR 4 rfl (Zad rfl rfl (fun w M => ZlV _) (gR 4 rfl (Zab rfl rfl rfl fun w M => ⟨rfl, M.ext⟩))))))
end Go.Proofs.YtfhkmgcalcfibaaGreat
namespace Go.Proofs.YtfhkmgcalcfibaaGreat
open Go.ChangeShapes Go.WideShapes Go.ChangeAt Go.RowKit
set_option maxRecDepth 100000 in
theorem routerForwards_contract (H : Type) (enc : TypeId × Value → H) (W : World) (base : Nat) (args : Array Value) (ds gs : List (DataW H)) (before : List MemPlace)
  (hval : ∀ (j : Nat) t v, Tryz.f10.params[j]? = some t → args[j]? = some v → Value.okWide Tryz.prog W .any base t v)
  (hW : DataW.Whole enc Tryz.prog Tryz.f10.params.toList Rows.routerForwardsSpec.vars false W args.toList ds gs before) (hL : laidMetH Tryz.prog Zlv W) (hS : W.ShapedOpen Tryz.prog) :
  Calls Tryz.prog 10 args W fun e W' => ∃ v, e = .returned v ∧ Rows.routerForwardsSpec.post enc Tryz.prog Tryz.f10 false true false false W args v W' := by
 have hW' := hW
 obtain ⟨p, q, hA0, hV, rfl, hfz, hnd⟩ := hW
 have hA : DataW.TrodAll enc Tryz.prog W 0 (fun _ => true) true Tryz.f10.params.toList args.toList ds p := hA0
 rw [Tryz.params10] at hA hval
 obtain ⟨v0, vs0, d0, ds0, p0, q0, hargs, rfl, rfl, h0, r0⟩ := trodAll_cons hA
 obtain ⟨v1, vs1, d1, ds1, p1, q1, rfl, rfl, rfl, h1, r1⟩ := trodAll_cons r0
 obtain ⟨v2, vs2, d2, ds2, p2, q2, rfl, rfl, rfl, h2, r2⟩ := trodAll_cons r1
 obtain ⟨v3, vs3, d3, ds3, p3, q3, rfl, rfl, rfl, h3, r3⟩ := trodAll_cons r2
 obtain ⟨v4, vs4, d4, ds4, p4, q4, rfl, rfl, rfl, h4, r4⟩ := trodAll_cons r3
 obtain ⟨v5, vs5, d5, ds5, p5, q5, rfl, rfl, rfl, h5, r5⟩ := trodAll_cons r4
 obtain ⟨v6, vs6, d6, ds6, p6, q6, rfl, rfl, rfl, h6, r6⟩ := trodAll_cons r5
 obtain ⟨rfl, rfl, rfl⟩ := trodAll_nil r6
 obtain rfl : args = #[v0, v1, v2, v3, v4, v5, v6] := by cases args;simp_all
 obtain ⟨s0, y0, hx0, hs0, rfl⟩ := Zr1 (hval 0 _ v0 rfl rfl) h0
 obtain ⟨l1, q1p, cap1, rfl, hc1, hx1⟩ := Zr3 (hval 1 _ v1 rfl rfl) h1
 obtain ⟨x2, rfl, rfl, rfl, w2⟩ := open_int Tryz.underlying3 (hval 2 _ v2 rfl rfl) h2;have hx2 := Zom w2
 obtain ⟨x3, hx3, rfl⟩ := ZnQ (hval 3 _ v3 rfl rfl) h3
 obtain ⟨x4, hx4, rfl⟩ := ZnQ (hval 4 _ v4 rfl rfl) h4
 obtain ⟨x5, hx5, rfl⟩ := Zr4 (hval 5 _ v5 rfl rfl) h5
 obtain ⟨x6, rfl⟩ := okWide_bool Tryz.underlying4 (hval 6 _ v6 rfl rfl)
 refine ((ZmR s0 y0 hx0 l1 x2 x3 x4 hx3 hx4 x5 hx5 x6 W hs0 hx1 hc1).calls).mono ?_
 rintro e W' ⟨v, rfl, rfl, hE⟩
 exact ⟨_, rfl, Zqr (tb := 4) Zsl (by kernel_rfl) rfl (by kernel_rfl) Tryz.underlying4 (fun xs hx => by rw [Tryz.params10] at hx;match xs, hx with | [_, _, _, _, _, _, _], _ => rfl) hW' hE⟩
set_option maxRecDepth 100000 in
theorem routerForwards_lifted (os : Os) (started : os.Started) (H : Type) (enc : TypeId × Value → H) (F : Stop.Interp) :
  ReturnsInHanded {} Tryz.checked os 10 .any ((OpenSpec.ofChange Rows.routerForwardsSpec).preRow enc Tryz.prog Tryz.f10 Rows.routerForwardsRow.domain false Rows.routerForwardsRow.laid) (((OpenSpec.ofChange Rows.routerForwardsSpec).at F).post enc Tryz.prog Tryz.f10 false true false false) := by
 have hx : ∃ places ds, DataW.whole enc Tryz.prog ((Zhu os).forCall (fun _ _ => 0) ⟨#[], #[.agg (rtC ⟨0, 0, 0, 0, 0, 0, 0, [], [], [], [], [], [], []⟩ ⟨.slice none 0 0, .slice none 0 0, .slice none 0 0, .slice none 0 0, .slice none 0 0, .slice none 0 0, .slice none 0 0⟩).toArray, .slice none 0 0, .int .i64 0, .agg (ipC (List.replicate 16 0)).toArray, .agg (ipC (List.replicate 16 0)).toArray, .agg (dvC ⟨List.replicate 16 0, 0, List.replicate 16 0, 0, 0⟩).toArray, .bool false], []⟩).memory Tryz.f10.params.toList Rows.routerForwardsSpec.vars false #[Value.agg (rtC ⟨0, 0, 0, 0, 0, 0, 0, [], [], [], [], [], [], []⟩ ⟨.slice none 0 0, .slice none 0 0, .slice none 0 0, .slice none 0 0, .slice none 0 0, .slice none 0 0, .slice none 0 0⟩).toArray, .slice none 0 0, .int .i64 0, .agg (ipC (List.replicate 16 0)).toArray, .agg (ipC (List.replicate 16 0)).toArray, .agg (dvC ⟨List.replicate 16 0, 0, List.replicate 16 0, 0, 0⟩).toArray, .bool false].toList 8 = some (ds, [], places) ∧ ds = [.agg [.lit (.int .u64 0), .lit (.int .u16 0), .lit (.int .i64 0), .lit (.int .i64 0), .lit (.int .u16 0), .lit (.int .i64 0), .nil, .nil, .nil, .nil, .nil, .nil, .agg [.nil, .lit (.int .i64 0)]], .nil, .lit (.int .i64 0), .agg (List.replicate 16 (.lit (.int .u8 0))), .agg (List.replicate 16 (.lit (.int .u8 0))), .agg [.agg [.agg (List.replicate 16 (.lit (.int .u8 0))), .lit (.int .i64 0)], .agg [.agg (List.replicate 16 (.lit (.int .u8 0))), .lit (.int .i64 0)], .lit (.int .u64 0)], .lit (.bool false)] := ⟨[], [.agg [.lit (.int .u64 0), .lit (.int .u16 0), .lit (.int .i64 0), .lit (.int .i64 0), .lit (.int .u16 0), .lit (.int .i64 0), .nil, .nil, .nil, .nil, .nil, .nil, .agg [.nil, .lit (.int .i64 0)]], .nil, .lit (.int .i64 0), .agg (List.replicate 16 (.lit (.int .u8 0))), .agg (List.replicate 16 (.lit (.int .u8 0))), .agg [.agg [.agg (List.replicate 16 (.lit (.int .u8 0))), .lit (.int .i64 0)], .agg [.agg (List.replicate 16 (.lit (.int .u8 0))), .lit (.int .i64 0)], .lit (.int .u64 0)], .lit (.bool false)], by kernel_rfl, rfl⟩
 obtain ⟨places, ds, hx, rfl⟩ := hx
 refine returnsInHanded_of_row (C := Tryz.checked) (s := OpenSpec.ofChange Rows.routerForwardsSpec) own started (by kernel_rfl) Tryz.func10
  (witness_row_at (enc := enc) (C := Tryz.checked) false (Zhu os) #[.agg (rtC ⟨0, 0, 0, 0, 0, 0, 0, [], [], [], [], [], [], []⟩ ⟨.slice none 0 0, .slice none 0 0, .slice none 0 0, .slice none 0 0, .slice none 0 0, .slice none 0 0, .slice none 0 0⟩).toArray, .slice none 0 0, .int .i64 0, .agg (ipC (List.replicate 16 0)).toArray, .agg (ipC (List.replicate 16 0)).toArray, .agg (dvC ⟨List.replicate 16 0, 0, List.replicate 16 0, 0, 0⟩).toArray, .bool false] rfl (by kernel_rfl) (by kernel_rfl) (by kernel_rfl)
   (OpenSpec.preRow_of_cond 8 hx (by kernel_rfl) (fun k hk => by cases hk) (by kernel_rfl) (Zqs os _))) ?_
 intro W base args ds gs before hval hW _ hcond _ hL hS _
 exact routerForwards_contract H enc W base args ds gs before hval hW hL hS
theorem Zfq : Tryz.pinned.checked.prog.funcNamed Rows.routerForwardsRow.func = some 10 := by kernel_rfl
theorem ZeK : joinedFacts Tryz.pinned.checked.prog 10 Tryz.f10 (OpenSpec.ofChange Rows.routerForwardsSpec).bare Rows.routerForwardsRow = true := by
 unfold joinedFacts
 simp only [Bool.and_eq_true]
 repeat' apply And.intro
 all_goals (as_aux_lemma => kernel_rfl)
theorem routerForwards_said : Rows.RouterForwardsSaid :=
 OpenClaim.holds_of_cond 10 Tryz.f10 rfl rfl rfl rfl rfl rfl rfl ⟨rfl, rfl, rfl, rfl, rfl⟩ rfl rfl rfl rfl rfl Zfq Tryz.func10 ZeK
  (dqU (by kernel_rfl)) (by unfold Func.isWrapper;first | (rw [if_pos (by decide +kernel)];kernel_rfl) | (rw [if_neg (by decide +kernel)];exact ⟨rfl, rfl⟩))
  (fun os started H enc _ F => by rw [OpenClaim.pre_eq_preRow];exact routerForwards_lifted os started H enc F)
#print axioms routerForwards_said
end Go.Proofs.YtfhkmgcalcfibaaGreat

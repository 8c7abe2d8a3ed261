/-
  PROVED: for every input RoutesLookups answers true, and each argument reads afterwards as it read before.
-/
import Derived.Test.YtilgoepokaaleaaGreatLookups6
/-! Lib4 -/
namespace Go.Proofs.YtilgoepokaaleaaGreat
set_option linter.unusedVariables false
set_option linter.unusedSimpArgs false
open Go.RowKit
def FD (c : Cx) (Q : Exit → Act → World → Prop) (ks : List KF) (ol : List Oper) (n k : Nat) (rest : List Oper) (fr : List (Nat × Value)) (l : Row) : Prop :=
  ∀ a w Vs, Mem c.S c.W w l.flatten → regOk ol.toArray n = true → MW ⟨keepAll, [], [], c.P, c.r, ol.toArray, n, c.n, c.df, a, w, KQ c Q ks, [], []⟩ k rest fr Vs noT
section
variable {c : Cx} {Q : Exit → Act → World → Prop} {ks : List KF} {fr fr' : List (Nat × Value)} {l : Row} {ol rest rest' : List Oper} {n k k' : Nat} {d : Nat} {op : Op} {ty : TypeId} {pos : String} {af : Array Edge} {g : Option (Nat × Bool)}
theorem g_draw {id : Nat} (n nt : Nat) [hm : TMix c.P] (hnt : c.n = nt) (hchk : (regOk ol.toArray n && tailOk ol.toArray n && Nat.ble n ol.length && dstOk ol.toArray n nt && effOk ol.toArray n []) = true) (h : FD c Q ks ol n 0 ol fr l) : G c Q ks (.code (.region id ol.toArray true)) fr l := fun a w F M =>
  c_draw n F (by rw [hnt]; exact hchk) fun w1 hE hok => h a w1 [] (M.later hE) hok
theorem fd_c {v : Value} (h : ∀ a w, Frm a c.n c.df fr → Mem c.S c.W w l.flatten → OpTo c.P ⟨some d, op, ty, pos, af, g⟩ a.eval w fun x w' => Ext [] w w' ∧ x = v)
    (hk : FD c Q ks ol n (k + 1) rest ((d, v) :: fr) l) (hlt : flo [] [] [] n k op = true := by rfl) (hd : Nat.blt d c.n = true := by rfl) (hg : gOk ol.toArray fr g = some true := by rfl) : FD c Q ks ol n k (⟨some d, op, ty, pos, af, g⟩ :: rest) fr l := fun a w Vs M hok => by
  rcases gOk_true hg with rfl | ⟨j, b, t, rfl, ht, hl⟩
  · exact mK hok hlt hd (fun a' w' F he => h a' w' F (M.later he)) (hk a w _ M hok)
  · exact mKG hok hlt hd ht hl (fun a' w' F he => h a' w' F (M.later he)) (hk a w _ M hok)
theorem fd_v {v : Value} (h : ∀ a w, Frm a c.n c.df fr → Mem c.S c.W w l.flatten → ∀ R : Value → World → Prop, R v w → OpTo c.P ⟨some d, op, ty, pos, af, g⟩ a.eval w R)
    (hk : FD c Q ks ol n (k + 1) rest ((d, v) :: fr) l) (hlt : flo [] [] [] n k op = true := by rfl) (hd : Nat.blt d c.n = true := by rfl) (hg : gOk ol.toArray fr g = some true := by rfl) : FD c Q ks ol n k (⟨some d, op, ty, pos, af, g⟩ :: rest) fr l :=
  fd_c (fun a w F M => h a w F M _ ⟨Ext.refl _ _, rfl⟩) hk hlt hd hg
theorem fd_call {x : Operand} {f : FuncId} {xs : List Operand} {ts : Array TypeId} {vs : List Value} {v : Value} [hb : TBody c.P f] (hx : Ev fr x = some (.func (.func f) #[] #[])) (ha : evL fr xs = some vs) (hc : ∀ w, Mem c.S c.W w l.flatten → Cal c.P f vs.toArray w fun u w' => u = v ∧ Ext [] w w')
    (hk : FD c Q ks ol n (k + 1) rest ((d, v) :: fr) l) (hlt : flo [] [] [] n k (.call ⟨.value x, xs.toArray, ts⟩) = true := by rfl) (hd : Nat.blt d c.n = true := by rfl) (hg : gOk ol.toArray fr g = some true := by rfl) : FD c Q ks ol n k (⟨some d, .call ⟨.value x, xs.toArray, ts⟩, ty, pos, af, g⟩ :: rest) fr l :=
  fd_c (fun a w F M => o_call (F.ev hx) (F.evs ha) (Cal.mono (hc w M) fun u w' h => ⟨h.2, h.1⟩)) hk hlt hd hg
theorem fd_off (hk : FD c Q ks ol n (k + 1) rest ((d, undef) :: fr) l) (hlt : flo [] [] [] n k op = true := by rfl) (hd : Nat.blt d c.n = true := by rfl) (hg : gOk ol.toArray fr g = some false := by rfl) : FD c Q ks ol n k (⟨some d, op, ty, pos, af, g⟩ :: rest) fr l := fun a w Vs M hok => by
  obtain ⟨j, b, t, v, rfl, ht, hl, ho⟩ := gOk_false hg
  exact mOff hok hlt hd ht hl ho (hk a w _ M hok)
theorem fd_done (hn : Nat.beq k n = true) (hef : effOk ol.toArray n [] = true) (hk : G c Q ks (.ops ol.toArray rest) fr l) : FD c Q ks ol n k rest fr l := fun a w Vs M hok =>
  mDone hn hef fun a' w' F he _ _ _ _ => hk a' w' F (M.later he)
theorem fd_same (h : ∀ t, look fr' t = look fr t) (hk : FD c Q ks ol n k rest fr' l) : FD c Q ks ol n k rest fr l := fun a w Vs M hok => by
  intro h1 h2 h3 h4 hC
  exact hk a w Vs M hok h1 h2 h3 h4 ⟨fun t v hv => hC.c t v (by rw [← h]; exact hv)⟩
theorem look_know {s : Nat} {v : Value} (h : look fr s = some v) (t : Nat) : look ((s, v) :: fr) t = look fr t := by
  cases hb : s.beq t
  · show (match s.beq t with | true => some v | false => look fr t) = look fr t
    rw [hb]
  · show (match s.beq t with | true => some v | false => look fr t) = look fr t
    rw [hb, ← Nat.eq_of_beq_eq_true hb, h]
theorem fd_know (s : Nat) {b b' : Bool} (h : look fr s = some (.bool b)) (hb : b = b') (hk : FD c Q ks ol n k rest ((s, .bool b') :: fr) l) : FD c Q ks ol n k rest fr l := by
  subst hb
  exact fd_same (look_know h) hk
def runF (c : Cx) (all : Array Oper) (n : Nat) : Nat → Nat → List Oper → List (Nat × Value) → Nat × List Oper × List (Nat × Value)
  | m + 1, k, o :: rest, fr => match o.dst with
    | some d => match Nat.blt d c.n && flo [] [] [] n k o.op with
      | true => match gOk all fr o.guard with
        | some true => match evO c fr o.op with
          | some v => runF c all n m (k + 1) rest ((d, v) :: fr)
          | none => (k, o :: rest, fr)
        | some false => runF c all n m (k + 1) rest ((d, undef) :: fr)
        | none => (k, o :: rest, fr)
      | false => (k, o :: rest, fr)
    | none => (k, o :: rest, fr)
  | _, k, rest, fr => (k, rest, fr)
theorem fd_run : ∀ (m : Nat) {k k' : Nat} {rest rest' : List Oper} {fr fr' : List (Nat × Value)}, runF c ol.toArray n m k rest fr = (k', rest', fr') → FD c Q ks ol n k' rest' fr' l → FD c Q ks ol n k rest fr l
  | 0, k, k', rest, rest', fr, fr', h, hk => by
    cases rest <;> cases h <;> exact hk
  | m + 1, k, k', [], rest', fr, fr', h, hk => by
    cases h
    exact hk
  | m + 1, k, k', o :: rest, rest', fr, fr', h, hk => by
    obtain ⟨dst, op, ty, pos, af, g⟩ := o
    unfold runF at h
    split at h
    · rename_i d hd0
      dsimp only at hd0
      subst hd0
      split at h
      · rename_i hb
        simp only [Bool.and_eq_true] at hb
        split at h
        · rename_i hg
          split at h
          · rename_i v hv
            exact fd_v (fun a w F M R r => evO_ok F hv r) (fd_run m h hk) hb.2 hb.1 hg
          · cases h
            exact hk
        · rename_i hg
          exact fd_off (fd_run m h hk) hb.2 hb.1 hg
        · cases h
          exact hk
      · cases h
        exact hk
    · cases h
      exact hk
end
section
variable {c : Cx} {Q : Exit → Act → World → Prop} {ks : List KF} {fr : List (Nat × Value)} {l : Row} {ol rest : List Oper} {nn kx : Nat} {d : Nat} {ty : TypeId} {pos : String} {af : Array Edge} {g : Option (Nat × Bool)}
section arith
variable {t t' : TypeId} {x y : Operand} {k : IntKind} {m n s : Int}
end arith
theorem fd_ldA (i : Nat) {t : TypeId} {x : Operand} {b off n : Nat} {cs : List Value} {t' : TypeId} {fz : Nat × Nat} {vs : List Value} [ht : TAgg c.P t n] (hx : Ev fr x = some (.pointer (some ⟨b, off, none⟩))) (hl : nthO l i = some [(b, .cells cs.toArray t' fz)]) (hv : seg cs off n = some vs)
    (hk : FD c Q ks ol nn (kx + 1) rest ((d, .agg vs.toArray) :: fr) l) (hlt : flo [] [] [] nn kx (.load t x) = true := by rfl) (hd : Nat.blt d c.n = true := by rfl) (hg : gOk ol.toArray fr g = some true := by rfl) : FD c Q ks ol nn kx (⟨some d, .load t x, ty, pos, af, g⟩ :: rest) fr l :=
  fd_v (fun a w F M R r => o_loadHA (F.ev hx) (M.at_ _ (nthO_mem hl)) hv r) hk hlt hd hg
theorem fd_ixS {t e : TypeId} {x i : Operand} {k : IntKind} {b o len cap sz : Nat} {j : Int} (hx : Ev fr x = some (.slice (some ⟨b, o, none⟩) len cap)) (hi : Ev fr i = some (.int k j)) [ht : TU c.P t (.slice e)] [hs : TSz c.P e sz] (h0 : 0 ≤ j) (h1 : j < len)
    (hk : FD c Q ks ol nn (kx + 1) rest ((d, .pointer (some ⟨b, o + j.toNat * sz, none⟩)) :: fr) l) (hlt : flo [] [] [] nn kx (.indexAddr t x i) = true := by rfl) (hd : Nat.blt d c.n = true := by rfl) (hg : gOk ol.toArray fr g = some true := by rfl) : FD c Q ks ol nn kx (⟨some d, .indexAddr t x i, ty, pos, af, g⟩ :: rest) fr l :=
  fd_v (fun a w F M R r => o_indexSl (F.ev hx) (F.ev hi) h0 h1 r) hk hlt hd hg
theorem fd_eqA {t t' : TypeId} {x y : Operand} {kk : List LK} {xs ys : List Value} {b : Bool} [ht : TEq c.P t kk] (hx : Ev fr x = some (.agg xs.toArray)) (hy : Ev fr y = some (.agg ys.toArray)) (fx : fitsK kk xs = true) (fy : fitsK kk ys = true) (he : eqVs xs ys = b)
    (hk : FD c Q ks ol nn (kx + 1) rest ((d, .bool b) :: fr) l) (hlt : flo [] [] [] nn kx (.binOp .eql t x y t') = true := by rfl) (hd : Nat.blt d c.n = true := by rfl) (hg : gOk ol.toArray fr g = some true := by rfl) : FD c Q ks ol nn kx (⟨some d, .binOp .eql t x y t', ty, pos, af, g⟩ :: rest) fr l :=
  fd_v (fun a w F M R r => o_eqlAE (F.ev hx) (F.ev hy) fx fy he r) hk hlt hd hg
end
section
variable {c : Cx} {Q : Exit → Act → World → Prop} {ks : List KF} {st : St} {fr : List (Nat × Value)} {l : Row}
/-- where branches come together -/
structure LJ (ι : Type) where
  p : ι → Prop
  fi : ι → List (Nat × Value)
  li : ι → Row
def JQ {ι : Type} (J : LJ ι) (c : Cx) (Q : Exit → Act → World → Prop) (ks : List KF) : Exit → Act → World → Prop
  | .normal, a, w => ∃ j, J.p j ∧ Frm a c.n c.df (J.fi j) ∧ Mem c.S c.W w (J.li j).flatten
  | e, a, w => KQ c Q ks e a w
theorem JQ.of {ι : Type} {J : LJ ι} {e : Exit} {a : Act} {w : World} (h : JQ J c Q ks e a w) (hk : ∀ j, J.p j → G c Q ks (.ext .normal) (J.fi j) (J.li j)) : KQ c Q ks e a w := by
  cases e with
  | normal =>
    obtain ⟨j, h2, h3, h4⟩ := h
    exact hk j h2 a w h3 h4
  | exit _ => exact h
  | goto _ => exact h
  | ret => exact h
  | panic _ => exact h
  | outgrown => exact h
theorem g_cutC {ι : Type} (J : LJ ι) {x : Code} (h1 : G c (JQ J c Q ks) [] (.code x) fr l) (h2 : ∀ j, J.p j → G c Q ks (.ext .normal) (J.fi j) (J.li j)) : G c Q ks (.code x) fr l := fun a w F M =>
  wpIn_mono (h1 a w F M) fun e a w h => JQ.of h h2
theorem g_join {ι : Type} {J : LJ ι} (j : ι) (h2 : J.p j) (hfr : ∀ a, Frm a c.n c.df fr → Frm a c.n c.df (J.fi j)) (hl : (J.li j).Sublist l) : G c (JQ J c Q ks) [] (.ext .normal) fr l := fun a w F M => ⟨j, h2, hfr a F, M.sub (subO hl)⟩
theorem g_jR {ι : Type} {J : LJ ι} (h : G c Q ks (.ext .ret) fr l) : G c (JQ J c Q ks) [] (.ext .ret) fr l := h
end
end Go.Proofs.YtilgoepokaaleaaGreat
/-! ZY -/
namespace Go.Proofs.YtilgoepokaaleaaGreat
set_option linter.unusedVariables false
set_option linter.unusedSimpArgs false
open Go.RowKit
attribute [local irreducible] OpTo wpListIn Code.wpIn MW Cal
def endN (c : Option InsV) : InsV × Int := match c with
  | none => (in0, 9)
  | some c => if c.nb = 0 then (in0, 15) else (c, 0)
def sameV (y mark : DstV) : Bool := (decide (y.dip = mark.dip) && decide (y.dbits = mark.dbits)) && (decide (y.sip = mark.sip) && decide (y.sbits = mark.sbits))
theorem lookN_far {y : InsV} {ys : List InsV} {mark : DstV} {marked : Bool} (h : (marked && decide (nearC y.to mark < 0)) = true) : lookN (y :: ys) mark marked = (in0, 9) := by
  unfold lookN
  dsimp only
  rw [if_pos h]
theorem lookN_near {y : InsV} {ys : List InsV} {mark : DstV} {marked : Bool} (h : (marked && decide (nearC y.to mark < 0)) = false) : lookN (y :: ys) mark marked = endN (if (marked && sameV y.to mark) = true then (y :: ys).find? (fun e => decide (e.to = mark)) else some (cheap (y :: ys) y)) := by
  unfold lookN sameV endN
  dsimp only
  rw [if_neg (by rw [h]; simp), Bool.and_assoc]
  rfl
theorem tup_in {c : InsV × Int} {x : InsV} {n : Int} {W w : World} (h : c = (x, n)) (E : Ext [] W w) : Value.tuple [.agg (inC x).toArray, .int .i64 n].toArray = .tuple [.agg (inC c.1).toArray, .int .i64 c.2].toArray ∧ Ext [] W w := by
  rw [h]
  exact ⟨rfl, E⟩
set_option maxHeartbeats 32000000 in
theorem rlookup_c (l : List InsV) (hx : ∀ x ∈ l, IsIn x) (v : Value) (src dst : List Int) (hs : IsIP src) (hd : IsIP dst) (mark : DstV) (hmk : IsDv mark) (marked : Bool) (W : World) (hS : SlAt W 40 v l.length (insC l)) :
    Cal Tryz.prog 63 [v, .agg (ipC src).toArray, .agg (ipC dst).toArray, .agg (dvC mark).toArray, .bool marked].toArray W fun r w' => r = .tuple [.agg (inC (lookV l src dst mark marked).1).toArray, .int .i64 (lookV l src dst mark marked).2].toArray ∧ Ext [] W w' := by
  obtain ⟨q, cap, rfl, _⟩ := id hS
  have hm := hS.memB [] (by simp)
  have a1 : seg (ipC src) 0 16 = some (ipC src) := seg_all (ipC_len hs.len)
  have a2 : seg (ipC dst) 0 16 = some (ipC dst) := seg_all (ipC_len hd.len)
  have hz : putAll [(0, 35), (35, 1), (36, 2), (38, 1), (39, 1)] inZ [] = some (inC in0) := rfl
  have hi0 := in0_is
  refine g_start (n := 145) (S := []) fldT_ok slcT_ok Tryz.func63 rfl rfl rfl ?_
  refine g_run 2 rfl ?_
  refine g_box rfl rfl fun b6 => ?_
  refine g_box rfl rfl fun b7 => ?_
  refine g_box rfl rfl fun b8 => ?_
  refine g_alloc fun b10 => ?_
  refine g_run 4 rfl ?_
  refine g_cutC (ι := Unit) ⟨fun _ => validIs l = true ∧ lookV l src dst mark marked = lookN (nearL l src dst) mark marked, fun _ => [(0, .slice q l.length cap), (4, .bool marked), (6, .pointer (some ⟨b6, 0, none⟩)), (7, .pointer (some ⟨b7, 0, none⟩)), (8, .pointer (some ⟨b8, 0, none⟩)), (10, .pointer (some ⟨b10, 0, none⟩))], fun _ => [[(b10, .cells inZ.toArray 50 (0, 0))], [(b8, .cells (dvC mark).toArray 45 (0, 0))], [(b7, .cells (ipC dst).toArray 39 (0, 0))], [(b6, .cells (ipC src).toArray 39 (0, 0))]]⟩ ?_ ?_
  · refine g_run 3 rfl ?_
    refine g_call rfl rfl (fun w M => refvalidI_c _ (by assumption) _ _ ((by assumption : SlAt _ _ _ _ _).later M.ext)) ?_
    refine g_run 2 rfl ?_
    refine g_split 23 rfl (fun h1 => ?_) (fun h1 => ?_)
    · skip
      replace h1 := false_of_not h1
      refine g_run 12 rfl ?_
      refine g_v (fun a w F M R r => o_build F rfl (by assumption) r) ?_
      refine g_stA 0 rfl rfl (in_len (by assumption)) (in_one _) rfl (put_all (by rw [in_len (by assumption)]; first | rfl | rw [in_len (by assumption)])) rfl ?_
      refine g_run 4 rfl ?_
      refine g_jR ?_
      refine g_run 1 rfl ?_
      refine g_retC2 0 rfl rfl rfl rfl (in_all (by assumption)) rfl fun w M => ?_
      exact tup_in (by unfold lookV; simp [*]) M.ext
    · skip
      replace h1 := true_of_not h1
      refine g_run 2 rfl ?_
      refine g_split 25 rfl (fun h2 => ?_) (fun h2 => ?_)
      · skip
        refine g_ldA 1 rfl rfl (dv_all (by assumption)) ?_
        refine g_call rfl rfl (fun w M => rvalidTo_c _ (by assumption) _) ?_
        refine g_run 5 rfl ?_
        refine g_if rfl (fun h3 => ?_) (fun h3 => ?_)
        · skip
          replace h3 := false_of_not h3
          refine g_run 2 rfl ?_
          refine g_v (fun a w F M R r => o_build F rfl (by assumption) r) ?_
          refine g_stA 0 rfl rfl (in_len (by assumption)) (in_one _) rfl (put_all (by rw [in_len (by assumption)]; first | rfl | rw [in_len (by assumption)])) rfl ?_
          refine g_run 4 rfl ?_
          refine g_jR ?_
          refine g_run 1 rfl ?_
          refine g_retC2 0 rfl rfl rfl rfl (in_all (by assumption)) rfl fun w M => ?_
          exact tup_in (by unfold lookV; simp [*]) M.ext
        · skip
          replace h3 := true_of_not h3
          refine g_run 1 rfl ?_
          exact g_join () ⟨by assumption, by unfold lookV; simp [*]⟩ (fun a F => F.only [0, 4, 6, 7, 8, 10] rfl) (by (try dsimp only); repeat (first | exact .refl _ | with_reducible exact List.nil_sublist _ | with_reducible apply List.Sublist.cons_cons | apply List.Sublist.cons))
      · skip
        refine g_run 9 rfl ?_
        exact g_join () ⟨by assumption, by unfold lookV; simp [*]⟩ (fun a F => F.only [0, 4, 6, 7, 8, 10] rfl) (by (try dsimp only); repeat (first | exact .refl _ | with_reducible exact List.nil_sublist _ | with_reducible apply List.Sublist.cons_cons | apply List.Sublist.cons))
  rintro _ ⟨hv, hL⟩
  have hl512 := (validIs_iff.1 hv).1
  rw [hL]
  refine g_run 15 rfl ?_
  refine g_pad ?_
  refine g_loop (ι := Nat × (List InsV) × Value × (List (Nat × Obj))) ⟨fun (i, near, u, es) => l.length - i, fun (i, near, u, es) => i ≤ l.length ∧ (OwnS 50 40 u near.length (insC near) es) ∧ (near = nearL (l.take i) src dst), fun (i, near, u, es) => [(34, .int .i64 i), (33, .int .i64 l.length), (32, .slice q l.length cap), (12, u), (4, .bool marked), (6, .pointer (some ⟨b6, 0, none⟩)), (7, .pointer (some ⟨b7, 0, none⟩)), (8, .pointer (some ⟨b8, 0, none⟩)), (10, .pointer (some ⟨b10, 0, none⟩))], fun (i, near, u, es) => [es, [(b10, .cells inZ.toArray 50 (0, 0))], [(b8, .cells (dvC mark).toArray 45 (0, 0))], [(b7, .cells (ipC dst).toArray 39 (0, 0))], [(b6, .cells (ipC src).toArray 39 (0, 0))]]⟩ (0, [], _, []) ⟨by omega, OwnS.nilL _ _ _, rfl⟩ (fun a F => F.only [34, 33, 32, 12, 4, 6, 7, 8, 10] rfl) (by repeat (first | exact .refl _ | apply List.Sublist.cons_cons | apply List.Sublist.cons)) ?_
  rintro ⟨i, near, u, es⟩ ⟨hi_i, hOs, hnr⟩
  dsimp only
  by_cases hlt_i : i < l.length
  · obtain ⟨b, o, cs, t', fz, rfl, hb, hs⟩ := hm (by omega)
    obtain ⟨x, hx0⟩ : ∃ x, x = l[i] := ⟨_, rfl⟩
    have hxm : x ∈ l := by rw [hx0]; exact List.getElem_mem hlt_i
    have hxi : IsIn x := hx _ hxm
    have f1 : seg cs (o + (i : Int).toNat * 40) 40 = some (inC x) := by rw [hx0]; exact seg_el (ins_len hx) hs hlt_i (by omega)
    have hx0' := hx0
    clear hx0
    have hst := nearL_step (src := src) (dst := dst) hlt_i
    rw [← hnr, ← hx0'] at hst
    have hnI : ∀ y ∈ near, IsIn y := by rw [hnr]; exact nearL_sub fun y hy => hx y (List.mem_of_mem_take hy)
    have hnl : near.length ≤ 512 := by
      have := nearL_len (src := src) (dst := dst) (l := l.take i)
      rw [← hnr, List.length_take] at this
      omega
    have hxd : IsDv x.to := hxi.1
    have f2 := in_len hxi
    clear hnr hx0' hL
    cases hmt : matchV x.to src dst
    · have hns : nearS src dst near x = near := by unfold nearS; rw [hmt]; rfl
      refine g_run 6 rfl ?_
      refine g_ifT rfl (decide_eq_true (by omega)) ?_
      refine g_run 6 rfl ?_
      refine g_ixS rfl rfl (by omega) (by omega) ?_
      refine g_leA rfl (by assumption) (by with_reducible assumption) ?_
      refine g_alloc fun b14 => ?_
      refine g_stA 0 rfl rfl (in_len (by assumption)) (in_one _) rfl (put_all (by rw [in_len (by assumption)]; first | rfl | rw [in_len (by assumption)])) rfl ?_
      refine g_run 6 rfl ?_
      refine g_ldA 0 rfl rfl (in_to (by assumption)) ?_
      refine g_ldA 5 rfl rfl (by with_reducible assumption) ?_
      refine g_ldA 4 rfl rfl (by with_reducible assumption) ?_
      refine g_call rfl rfl (fun w M => matches_c _ (by assumption) _ _ (by assumption) (by assumption) _) ?_
      refine g_run 3 rfl ?_
      refine g_ifT rfl (notT (by assumption)) ?_
      refine g_run 5 rfl ?_
      refine g_add rfl rfl (w_i64 (by omega) (by omega)) ?_
      refine g_run 2 rfl ?_
      exact g_next (i + 1, near, u, es) ⟨by omega, hOs, by rw [hst, hns]⟩ (by dsimp only; omega) (fun a F => F.only [34, 33, 32, 12, 4, 6, 7, 8, 10] rfl) (by (try dsimp only); repeat (first | exact .refl _ | with_reducible exact List.nil_sublist _ | with_reducible apply List.Sublist.cons_cons | apply List.Sublist.cons))
    · cases near with
      | nil =>
        have hns : nearS src dst [] x = [x] := by unfold nearS; rw [hmt]; rfl
        obtain ⟨pz, cz, rfl⟩ := hOs.slice
        refine g_run 6 rfl ?_
        refine g_ifT rfl (decide_eq_true (by omega)) ?_
        refine g_run 6 rfl ?_
        refine g_ixS rfl rfl (by omega) (by omega) ?_
        refine g_leA rfl (by assumption) (by with_reducible assumption) ?_
        refine g_alloc fun b14 => ?_
        refine g_stA 0 rfl rfl (in_len (by assumption)) (in_one _) rfl (put_all (by rw [in_len (by assumption)]; first | rfl | rw [in_len (by assumption)])) rfl ?_
        refine g_run 6 rfl ?_
        refine g_ldA 0 rfl rfl (in_to (by assumption)) ?_
        refine g_ldA 5 rfl rfl (by with_reducible assumption) ?_
        refine g_ldA 4 rfl rfl (by with_reducible assumption) ?_
        refine g_call rfl rfl (fun w M => matches_c _ (by assumption) _ _ (by assumption) (by assumption) _) ?_
        refine g_run 3 rfl ?_
        refine g_ifF rfl (notF (by assumption)) ?_
        refine g_run 4 rfl ?_
        refine g_draw 13 145 rfl (by kernel_rfl) ?_
        refine fd_run 13 rfl ?_
        refine fd_done rfl rfl ?_
        refine g_run 6 rfl ?_
        refine g_draw 13 145 rfl (by kernel_rfl) ?_
        refine fd_run 13 rfl ?_
        refine fd_done rfl rfl ?_
        refine g_run 5 rfl ?_
        refine g_ldA 0 rfl rfl (in_all (by assumption)) ?_
        refine g_bs rfl rfl rfl (in_build1 (by assumption)) fun b72 => ?_
        refine g_app 2 0 (enc := inC) rfl rfl (by assumption) rfl rfl (in_len (by assumption)) (by first | omega | (simp only [List.length_nil]; omega)) (fun _ => rfl) (fun v73 es73 hO73 => ?_) (in_one _)
        refine g_run 5 rfl ?_
        refine g_add rfl rfl (w_i64 (by omega) (by omega)) ?_
        refine g_run 2 rfl ?_
        exact g_next (i + 1, _, _, _) ⟨by omega, by assumption, by rw [hst, hns]; rfl⟩ (by dsimp only; omega) (fun a F => F.only [34, 33, 32, 12, 4, 6, 7, 8, 10] rfl) (by (try dsimp only); repeat (first | exact .refl _ | with_reducible exact List.nil_sublist _ | with_reducible apply List.Sublist.cons_cons | apply List.Sublist.cons))
      | cons y ys =>
        rcases hOs with ⟨_, h0, _, _⟩ | ⟨bN, cN, junk, rfl, rfl, hxl, hjl, hnc⟩
        · simp at h0
        have hyv := hnI y (by simp)
        have hyd : IsDv y.to := hyv.1
        have hsz : ∀ z ∈ y :: ys, (inC z).length = 40 := ins_len hnI
        have g1 : seg (insC (y :: ys) ++ junk) (0 + (0 : Int).toNat * 40) 40 = some (inC y) := own_el hsz junk (show 0 < (y :: ys).length by simp) (by simp)
        have g2 : seg (insC (y :: ys) ++ junk) (0 + (0 : Int).toNat * 40 + 0) 35 = some (dvC y.to) := sg_seg g1 (in_to hyv) (by omega)
        have hO : OwnS 50 40 (.slice (some ⟨bN, 0, none⟩) (y :: ys).length cN) (y :: ys).length (insC (y :: ys)) [(bN, .cells (insC (y :: ys) ++ junk).toArray 50 (0, 0))] := .inr ⟨bN, cN, junk, rfl, rfl, hxl, hjl, hnc⟩
        have hn0 : 0 < (y :: ys).length := by simp
        have hns0 : nearS src dst (y :: ys) x = if 0 < nearC x.to y.to then [x] else if nearC x.to y.to = 0 then y :: ys ++ [x] else y :: ys := by unfold nearS; rw [hmt]; rfl
        clear hxl hjl hnc hsz
        by_cases k1 : 0 < nearC x.to y.to
        · rw [if_pos k1] at hns0
          refine g_run 6 rfl ?_
          refine g_ifT rfl (decide_eq_true (by omega)) ?_
          refine g_run 6 rfl ?_
          refine g_ixS rfl rfl (by omega) (by omega) ?_
          refine g_leA rfl (by assumption) (by with_reducible assumption) ?_
          refine g_alloc fun b14 => ?_
          refine g_stA 0 rfl rfl (in_len (by assumption)) (in_one _) rfl (put_all (by rw [in_len (by assumption)]; first | rfl | rw [in_len (by assumption)])) rfl ?_
          refine g_run 6 rfl ?_
          refine g_ldA 0 rfl rfl (in_to (by assumption)) ?_
          refine g_ldA 5 rfl rfl (by with_reducible assumption) ?_
          refine g_ldA 4 rfl rfl (by with_reducible assumption) ?_
          refine g_call rfl rfl (fun w M => matches_c _ (by assumption) _ _ (by assumption) (by assumption) _) ?_
          refine g_run 3 rfl ?_
          refine g_ifF rfl (notF (by assumption)) ?_
          refine g_run 4 rfl ?_
          refine g_draw 13 145 rfl (by kernel_rfl) ?_
          refine fd_run 4 rfl ?_
          refine fd_know 47 rfl (decide_eq_true (by omega)) ?_
          refine fd_run 1 rfl ?_
          refine fd_ldA 0 rfl rfl (in_to (by assumption)) ?_
          refine fd_run 1 rfl ?_
          refine fd_ixS rfl rfl (by omega) (by omega) ?_
          refine fd_run 1 rfl ?_
          refine fd_ldA 1 rfl rfl (by with_reducible assumption) ?_
          refine fd_call rfl rfl (fun w M => refnear_c _ _ (by assumption) (by assumption) _) ?_
          refine fd_run 2 rfl ?_
          refine fd_done rfl rfl ?_
          refine g_run 2 rfl ?_
          refine g_ifT rfl (decide_eq_true (by omega)) ?_
          refine g_run 5 rfl ?_
          refine g_draw 13 145 rfl (by kernel_rfl) ?_
          refine fd_run 13 rfl ?_
          refine fd_done rfl rfl ?_
          refine g_run 5 rfl ?_
          refine g_ldA 0 rfl rfl (in_all (by assumption)) ?_
          refine g_bs rfl rfl rfl (in_build1 (by assumption)) fun b72 => ?_
          refine g_pad ?_; refine g_app 0 1 (enc := inC) rfl rfl (OwnS.nilL _ _ _) rfl rfl (in_len (by assumption)) (by first | omega | (simp only [List.length_nil]; omega)) (fun _ => rfl) (fun v73 es73 hO73 => ?_) (in_one _)
          refine g_run 5 rfl ?_
          refine g_add rfl rfl (w_i64 (by omega) (by omega)) ?_
          refine g_run 2 rfl ?_
          exact g_next (i + 1, _, _, _) ⟨by omega, by assumption, by rw [hst, hns0]; rfl⟩ (by dsimp only; omega) (fun a F => F.only [34, 33, 32, 12, 4, 6, 7, 8, 10] rfl) (by (try dsimp only); repeat (first | exact .refl _ | with_reducible exact List.nil_sublist _ | with_reducible apply List.Sublist.cons_cons | apply List.Sublist.cons))
        · rw [if_neg k1] at hns0
          by_cases k2 : nearC x.to y.to = 0
          · rw [if_pos k2] at hns0
            refine g_run 6 rfl ?_
            refine g_ifT rfl (decide_eq_true (by omega)) ?_
            refine g_run 6 rfl ?_
            refine g_ixS rfl rfl (by omega) (by omega) ?_
            refine g_leA rfl (by assumption) (by with_reducible assumption) ?_
            refine g_alloc fun b14 => ?_
            refine g_stA 0 rfl rfl (in_len (by assumption)) (in_one _) rfl (put_all (by rw [in_len (by assumption)]; first | rfl | rw [in_len (by assumption)])) rfl ?_
            refine g_run 6 rfl ?_
            refine g_ldA 0 rfl rfl (in_to (by assumption)) ?_
            refine g_ldA 5 rfl rfl (by with_reducible assumption) ?_
            refine g_ldA 4 rfl rfl (by with_reducible assumption) ?_
            refine g_call rfl rfl (fun w M => matches_c _ (by assumption) _ _ (by assumption) (by assumption) _) ?_
            refine g_run 3 rfl ?_
            refine g_ifF rfl (notF (by assumption)) ?_
            refine g_run 4 rfl ?_
            refine g_draw 13 145 rfl (by kernel_rfl) ?_
            refine fd_run 4 rfl ?_
            refine fd_know 47 rfl (decide_eq_true (by omega)) ?_
            refine fd_run 1 rfl ?_
            refine fd_ldA 0 rfl rfl (in_to (by assumption)) ?_
            refine fd_run 1 rfl ?_
            refine fd_ixS rfl rfl (by omega) (by omega) ?_
            refine fd_run 1 rfl ?_
            refine fd_ldA 1 rfl rfl (by with_reducible assumption) ?_
            refine fd_call rfl rfl (fun w M => refnear_c _ _ (by assumption) (by assumption) _) ?_
            refine fd_run 2 rfl ?_
            refine fd_done rfl rfl ?_
            refine g_run 2 rfl ?_
            refine g_ifF rfl (decide_eq_false (by omega)) ?_
            refine g_run 3 rfl ?_
            refine g_draw 13 145 rfl (by kernel_rfl) ?_
            refine fd_run 5 rfl ?_
            refine fd_ldA 0 rfl rfl (in_to (by assumption)) ?_
            refine fd_run 1 rfl ?_
            refine fd_ixS rfl rfl (by omega) (by omega) ?_
            refine fd_run 1 rfl ?_
            refine fd_ldA 1 rfl rfl (by with_reducible assumption) ?_
            refine fd_call rfl rfl (fun w M => refnear_c _ _ (by assumption) (by assumption) _) ?_
            refine fd_run 2 rfl ?_
            refine fd_done rfl rfl ?_
            refine g_run 2 rfl ?_
            refine g_ifT rfl (decide_eq_true (by omega)) ?_
            refine g_run 2 rfl ?_
            refine g_ldA 0 rfl rfl (in_all (by assumption)) ?_
            refine g_bs rfl rfl rfl (in_build1 (by assumption)) fun b72 => ?_
            refine g_app 2 0 (enc := inC) rfl rfl (by assumption) rfl rfl (in_len (by assumption)) (by first | omega | (simp only [List.length_nil]; omega)) (fun _ => rfl) (fun v73 es73 hO73 => ?_) (in_one _)
            refine g_run 5 rfl ?_
            refine g_add rfl rfl (w_i64 (by omega) (by omega)) ?_
            refine g_run 2 rfl ?_
            exact g_next (i + 1, _, _, _) ⟨by omega, by assumption, by rw [hst, hns0]⟩ (by dsimp only; omega) (fun a F => F.only [34, 33, 32, 12, 4, 6, 7, 8, 10] rfl) (by (try dsimp only); repeat (first | exact .refl _ | with_reducible exact List.nil_sublist _ | with_reducible apply List.Sublist.cons_cons | apply List.Sublist.cons))
          · rw [if_neg k2] at hns0
            refine g_run 6 rfl ?_
            refine g_ifT rfl (decide_eq_true (by omega)) ?_
            refine g_run 6 rfl ?_
            refine g_ixS rfl rfl (by omega) (by omega) ?_
            refine g_leA rfl (by assumption) (by with_reducible assumption) ?_
            refine g_alloc fun b14 => ?_
            refine g_stA 0 rfl rfl (in_len (by assumption)) (in_one _) rfl (put_all (by rw [in_len (by assumption)]; first | rfl | rw [in_len (by assumption)])) rfl ?_
            refine g_run 6 rfl ?_
            refine g_ldA 0 rfl rfl (in_to (by assumption)) ?_
            refine g_ldA 5 rfl rfl (by with_reducible assumption) ?_
            refine g_ldA 4 rfl rfl (by with_reducible assumption) ?_
            refine g_call rfl rfl (fun w M => matches_c _ (by assumption) _ _ (by assumption) (by assumption) _) ?_
            refine g_run 3 rfl ?_
            refine g_ifF rfl (notF (by assumption)) ?_
            refine g_run 4 rfl ?_
            refine g_draw 13 145 rfl (by kernel_rfl) ?_
            refine fd_run 4 rfl ?_
            refine fd_know 47 rfl (decide_eq_true (by omega)) ?_
            refine fd_run 1 rfl ?_
            refine fd_ldA 0 rfl rfl (in_to (by assumption)) ?_
            refine fd_run 1 rfl ?_
            refine fd_ixS rfl rfl (by omega) (by omega) ?_
            refine fd_run 1 rfl ?_
            refine fd_ldA 1 rfl rfl (by with_reducible assumption) ?_
            refine fd_call rfl rfl (fun w M => refnear_c _ _ (by assumption) (by assumption) _) ?_
            refine fd_run 2 rfl ?_
            refine fd_done rfl rfl ?_
            refine g_run 2 rfl ?_
            refine g_ifF rfl (decide_eq_false (by omega)) ?_
            refine g_run 3 rfl ?_
            refine g_draw 13 145 rfl (by kernel_rfl) ?_
            refine fd_run 5 rfl ?_
            refine fd_ldA 0 rfl rfl (in_to (by assumption)) ?_
            refine fd_run 1 rfl ?_
            refine fd_ixS rfl rfl (by omega) (by omega) ?_
            refine fd_run 1 rfl ?_
            refine fd_ldA 1 rfl rfl (by with_reducible assumption) ?_
            refine fd_call rfl rfl (fun w M => refnear_c _ _ (by assumption) (by assumption) _) ?_
            refine fd_run 2 rfl ?_
            refine fd_done rfl rfl ?_
            refine g_run 2 rfl ?_
            refine g_ifF rfl (decide_eq_false (by omega)) ?_
            refine g_run 4 rfl ?_
            refine g_add rfl rfl (w_i64 (by omega) (by omega)) ?_
            refine g_run 2 rfl ?_
            exact g_next (i + 1, _, _, _) ⟨by omega, by assumption, by rw [hst, hns0]⟩ (by dsimp only; omega) (fun a F => F.only [34, 33, 32, 12, 4, 6, 7, 8, 10] rfl) (by (try dsimp only); repeat (first | exact .refl _ | with_reducible exact List.nil_sublist _ | with_reducible apply List.Sublist.cons_cons | apply List.Sublist.cons))
  · have hil : i = l.length := by omega
    rw [hil, List.take_length] at hnr
    have hnI : ∀ y ∈ near, IsIn y := by rw [hnr]; exact nearL_sub hx
    have hnl : near.length ≤ 512 := by
      have := nearL_len (src := src) (dst := dst) (l := l)
      rw [← hnr] at this
      omega
    rw [← hnr]
    clear hnr hm hL hil
    cases near with
    | nil =>
      obtain ⟨pz, cz, rfl⟩ := hOs.slice
      refine g_run 6 rfl ?_
      refine g_ifF rfl (decide_eq_false (by omega)) ?_
      refine g_run 2 rfl ?_
      refine g_outX ?_
      refine g_run 4 rfl ?_
      refine g_draw 15 145 rfl (by kernel_rfl) ?_
      refine fd_run 15 rfl ?_
      refine fd_done rfl rfl ?_
      refine g_run 5 rfl ?_
      refine g_v (fun a w F M R r => o_build F rfl (by assumption) r) ?_
      refine g_stA 1 rfl rfl (in_len (by assumption)) (in_one _) rfl (put_all (by rw [in_len (by assumption)]; first | rfl | rw [in_len (by assumption)])) rfl ?_
      refine g_run 5 rfl ?_
      refine g_retC2 1 rfl rfl rfl rfl (in_all (by assumption)) rfl fun w M => ?_
      exact tup_in rfl M.ext
    | cons y ys =>
      rcases hOs with ⟨_, h0, _, _⟩ | ⟨bN, cN, junk, rfl, rfl, hxl, hjl, hnc⟩
      · simp at h0
      have hyv := hnI y (by simp)
      have hyd : IsDv y.to := hyv.1
      have hsz : ∀ z ∈ y :: ys, (inC z).length = 40 := ins_len hnI
      have g1 : seg (insC (y :: ys) ++ junk) (0 + (0 : Int).toNat * 40) 40 = some (inC y) := own_el hsz junk (show 0 < (y :: ys).length by simp) (by simp)
      have g2 : seg (insC (y :: ys) ++ junk) (0 + (0 : Int).toNat * 40 + 0) 35 = some (dvC y.to) := sg_seg g1 (in_to hyv) (by omega)
      have g3 : seg (insC (y :: ys) ++ junk) (0 + (0 : Int).toNat * 40 + 0 + 0) 17 = some (pfC y.to.dip y.to.dbits) := sg_seg g1 (in_to_dst hyv) (by omega)
      have g4 : seg (insC (y :: ys) ++ junk) (0 + (0 : Int).toNat * 40 + 0 + 17) 17 = some (pfC y.to.sip y.to.sbits) := sg_seg g1 (in_to_src hyv) (by omega)
      have g5 := fits_pf hyd.1.len y.to.dbits
      have g6 := fits_pf hyd.2.len y.to.sbits
      have m3 := dv_dst hmk
      have m4 := dv_src hmk
      have m5 := fits_pf hmk.1.len mark.dbits
      have m6 := fits_pf hmk.2.len mark.sbits
      have q1 := eq_pfD (a := y.to.dip) (b := mark.dip) (n := y.to.dbits) (m := mark.dbits) (by rw [hyd.1.len, hmk.1.len])
      have q2 := eq_pfD (a := y.to.sip) (b := mark.sip) (n := y.to.sbits) (m := mark.sbits) (by rw [hyd.2.len, hmk.2.len])
      have hO : OwnS 50 40 (.slice (some ⟨bN, 0, none⟩) (y :: ys).length cN) (y :: ys).length (insC (y :: ys)) [(bN, .cells (insC (y :: ys) ++ junk).toArray 50 (0, 0))] := .inr ⟨bN, cN, junk, rfl, rfl, hxl, hjl, hnc⟩
      have hn0 : 0 < (y :: ys).length := by simp
      clear hxl hjl hnc
      refine g_run 6 rfl ?_
      refine g_ifF rfl (decide_eq_false (by omega)) ?_
      refine g_run 2 rfl ?_
      refine g_outX ?_
      refine g_run 3 rfl ?_
      refine g_cutC (ι := Unit) ⟨fun _ => (marked && decide (nearC y.to mark < 0)) = false, fun _ => [(12, .slice (some ⟨bN, 0, none⟩) (y :: ys).length cN), (4, .bool marked), (6, .pointer (some ⟨b6, 0, none⟩)), (7, .pointer (some ⟨b7, 0, none⟩)), (8, .pointer (some ⟨b8, 0, none⟩)), (10, .pointer (some ⟨b10, 0, none⟩))], fun _ => [[(bN, .cells (insC (y :: ys) ++ junk).toArray 50 (0, 0))], [(b10, .cells inZ.toArray 50 (0, 0))], [(b8, .cells (dvC mark).toArray 45 (0, 0))], [(b7, .cells (ipC dst).toArray 39 (0, 0))], [(b6, .cells (ipC src).toArray 39 (0, 0))]]⟩ ?_ ?_
      · cases marked
        · refine g_run 1 rfl ?_
          refine g_draw 15 145 rfl (by kernel_rfl) ?_
          refine fd_run 15 rfl ?_
          refine fd_done rfl rfl ?_
          refine g_run 4 rfl ?_
          exact g_join () rfl (fun a F => F.only [12, 4, 6, 7, 8, 10] rfl) (by (try dsimp only); repeat (first | exact .refl _ | with_reducible exact List.nil_sublist _ | with_reducible apply List.Sublist.cons_cons | apply List.Sublist.cons))
        · by_cases k : nearC y.to mark < 0
          · refine g_run 1 rfl ?_
            refine g_draw 15 145 rfl (by kernel_rfl) ?_
            refine fd_run 7 rfl ?_
            refine fd_ixS rfl rfl (by omega) (by omega) ?_
            refine fd_run 1 rfl ?_
            refine fd_ldA 0 rfl rfl (by with_reducible assumption) ?_
            refine fd_ldA 2 rfl rfl (dv_all (by assumption)) ?_
            refine fd_call rfl rfl (fun w M => refnear_c _ _ (by assumption) (by assumption) _) ?_
            refine fd_run 3 rfl ?_
            refine fd_done rfl rfl ?_
            refine g_run 2 rfl ?_
            refine g_ifT rfl (decide_eq_true (by omega)) ?_
            refine g_run 2 rfl ?_
            refine g_v (fun a w F M R r => o_build F rfl (by assumption) r) ?_
            refine g_stA 1 rfl rfl (in_len (by assumption)) (in_one _) rfl (put_all (by rw [in_len (by assumption)]; first | rfl | rw [in_len (by assumption)])) rfl ?_
            refine g_run 4 rfl ?_
            refine g_jR ?_
            refine g_run 1 rfl ?_
            refine g_retC2 1 rfl rfl rfl rfl (in_all (by assumption)) rfl fun w M => ?_
            exact tup_in (lookN_far (by simp [k])) M.ext
          · refine g_run 1 rfl ?_
            refine g_draw 15 145 rfl (by kernel_rfl) ?_
            refine fd_run 7 rfl ?_
            refine fd_ixS rfl rfl (by omega) (by omega) ?_
            refine fd_run 1 rfl ?_
            refine fd_ldA 0 rfl rfl (by with_reducible assumption) ?_
            refine fd_ldA 2 rfl rfl (dv_all (by assumption)) ?_
            refine fd_call rfl rfl (fun w M => refnear_c _ _ (by assumption) (by assumption) _) ?_
            refine fd_run 3 rfl ?_
            refine fd_done rfl rfl ?_
            refine g_run 2 rfl ?_
            refine g_ifF rfl (decide_eq_false (by omega)) ?_
            refine g_run 1 rfl ?_
            exact g_join () (by simp [k]) (fun a F => F.only [12, 4, 6, 7, 8, 10] rfl) (by (try dsimp only); repeat (first | exact .refl _ | with_reducible exact List.nil_sublist _ | with_reducible apply List.Sublist.cons_cons | apply List.Sublist.cons))
      rintro _ hk
      rw [lookN_near hk]
      clear hk
      refine g_run 4 rfl ?_
      refine g_ixS rfl rfl (by omega) (by omega) ?_
      refine g_ldA 0 rfl rfl (by with_reducible assumption) ?_
      refine g_alloc fun b15 => ?_
      refine g_stA 0 rfl rfl (in_len (by assumption)) (in_one _) rfl (put_all (by rw [in_len (by assumption)]; first | rfl | rw [in_len (by assumption)])) rfl ?_
      refine g_run 3 rfl ?_
      refine g_cutC (ι := InsV) ⟨fun c => IsIn c ∧ endN (if (marked && sameV y.to mark) = true then (y :: ys).find? (fun e => decide (e.to = mark)) else some (cheap (y :: ys) y)) = endN (some c), fun _ => [(15, .pointer (some ⟨b15, 0, none⟩)), (10, .pointer (some ⟨b10, 0, none⟩))], fun c => [[(b15, .cells (inC c).toArray 50 (0, 0))], [(b10, .cells inZ.toArray 50 (0, 0))]]⟩ ?_ ?_
      · refine g_run 1 rfl ?_
        refine g_cutC (ι := Unit) ⟨fun _ => True, fun _ => [(114, .bool (marked && sameV y.to mark)), (15, .pointer (some ⟨b15, 0, none⟩)), (12, .slice (some ⟨bN, 0, none⟩) (y :: ys).length cN), (4, .bool marked), (6, .pointer (some ⟨b6, 0, none⟩)), (7, .pointer (some ⟨b7, 0, none⟩)), (8, .pointer (some ⟨b8, 0, none⟩)), (10, .pointer (some ⟨b10, 0, none⟩))], fun _ => [[(b15, .cells (inC y).toArray 50 (0, 0))], [(bN, .cells (insC (y :: ys) ++ junk).toArray 50 (0, 0))], [(b10, .cells inZ.toArray 50 (0, 0))], [(b8, .cells (dvC mark).toArray 45 (0, 0))], [(b7, .cells (ipC dst).toArray 39 (0, 0))], [(b6, .cells (ipC src).toArray 39 (0, 0))]]⟩ ?_ ?_
        · unfold sameV
          cases marked
          · refine g_draw 21 145 rfl (by kernel_rfl) ?_
            refine fd_run 21 rfl ?_
            refine fd_done rfl rfl ?_
            refine g_run 1 rfl ?_
            exact g_join () trivial (fun a F => F.only [114, 15, 12, 4, 6, 7, 8, 10] rfl) (by (try dsimp only); repeat (first | exact .refl _ | with_reducible exact List.nil_sublist _ | with_reducible apply List.Sublist.cons_cons | apply List.Sublist.cons))
          · cases d1 : (decide (y.to.dip = mark.dip) && decide (y.to.dbits = mark.dbits))
            · rw [d1] at q1
              refine g_draw 21 145 rfl (by kernel_rfl) ?_
              refine fd_run 3 rfl ?_
              refine fd_ixS rfl rfl (by omega) (by omega) ?_
              refine fd_run 2 rfl ?_
              refine fd_ldA 1 rfl rfl (by with_reducible assumption) ?_
              refine fd_run 1 rfl ?_
              refine fd_ldA 3 rfl rfl (dv_dst (by assumption)) ?_
              refine fd_eqA rfl rfl (by assumption) (by assumption) (by assumption) ?_
              refine fd_run 11 rfl ?_
              refine fd_done rfl rfl ?_
              refine g_run 1 rfl ?_
              exact g_join () trivial (fun a F => F.only [114, 15, 12, 4, 6, 7, 8, 10] rfl) (by (try dsimp only); repeat (first | exact .refl _ | with_reducible exact List.nil_sublist _ | with_reducible apply List.Sublist.cons_cons | apply List.Sublist.cons))
            · rw [d1] at q1
              cases d2 : (decide (y.to.sip = mark.sip) && decide (y.to.sbits = mark.sbits))
              · rw [d2] at q2
                refine g_draw 21 145 rfl (by kernel_rfl) ?_
                refine fd_run 3 rfl ?_
                refine fd_ixS rfl rfl (by omega) (by omega) ?_
                refine fd_run 2 rfl ?_
                refine fd_ldA 1 rfl rfl (by with_reducible assumption) ?_
                refine fd_run 1 rfl ?_
                refine fd_ldA 3 rfl rfl (dv_dst (by assumption)) ?_
                refine fd_eqA rfl rfl (by assumption) (by assumption) (by assumption) ?_
                refine fd_run 3 rfl ?_
                refine fd_ixS rfl rfl (by omega) (by omega) ?_
                refine fd_run 2 rfl ?_
                refine fd_ldA 1 rfl rfl (by with_reducible assumption) ?_
                refine fd_run 1 rfl ?_
                refine fd_ldA 3 rfl rfl (dv_src (by assumption)) ?_
                refine fd_eqA rfl rfl (by assumption) (by assumption) (by assumption) ?_
                refine fd_run 1 rfl ?_
                refine fd_done rfl rfl ?_
                refine g_run 1 rfl ?_
                exact g_join () trivial (fun a F => F.only [114, 15, 12, 4, 6, 7, 8, 10] rfl) (by (try dsimp only); repeat (first | exact .refl _ | with_reducible exact List.nil_sublist _ | with_reducible apply List.Sublist.cons_cons | apply List.Sublist.cons))
              · rw [d2] at q2
                refine g_draw 21 145 rfl (by kernel_rfl) ?_
                refine fd_run 3 rfl ?_
                refine fd_ixS rfl rfl (by omega) (by omega) ?_
                refine fd_run 2 rfl ?_
                refine fd_ldA 1 rfl rfl (by with_reducible assumption) ?_
                refine fd_run 1 rfl ?_
                refine fd_ldA 3 rfl rfl (dv_dst (by assumption)) ?_
                refine fd_eqA rfl rfl (by assumption) (by assumption) (by assumption) ?_
                refine fd_run 3 rfl ?_
                refine fd_ixS rfl rfl (by omega) (by omega) ?_
                refine fd_run 2 rfl ?_
                refine fd_ldA 1 rfl rfl (by with_reducible assumption) ?_
                refine fd_run 1 rfl ?_
                refine fd_ldA 3 rfl rfl (dv_src (by assumption)) ?_
                refine fd_eqA rfl rfl (by assumption) (by assumption) (by assumption) ?_
                refine fd_run 1 rfl ?_
                refine fd_done rfl rfl ?_
                refine g_run 1 rfl ?_
                exact g_join () trivial (fun a F => F.only [114, 15, 12, 4, 6, 7, 8, 10] rfl) (by (try dsimp only); repeat (first | exact .refl _ | with_reducible exact List.nil_sublist _ | with_reducible apply List.Sublist.cons_cons | apply List.Sublist.cons))
        rintro _ _
        clear q1 q2 g2 g3 g4 g5 g6 m3 m4 m5 m6
        cases hsm : (marked && sameV y.to mark)
        · dsimp only
          rw [if_neg (by simp)]
          refine g_run 10 rfl ?_
          refine g_loop (ι := Nat × InsV) ⟨fun (i, c) => (y :: ys).length - i, fun (i, c) => i ≤ (y :: ys).length ∧ c = cheap ((y :: ys).take i) y, fun (i, c) => [(127, .int .i64 i), (126, .int .i64 (y :: ys).length), (125, .slice (some ⟨bN, 0, none⟩) (y :: ys).length cN), (15, .pointer (some ⟨b15, 0, none⟩)), (10, .pointer (some ⟨b10, 0, none⟩))], fun (i, c) => [[(b15, .cells (inC c).toArray 50 (0, 0))], [(bN, .cells (insC (y :: ys) ++ junk).toArray 50 (0, 0))], [(b10, .cells inZ.toArray 50 (0, 0))]]⟩ (0, y) ⟨by omega, rfl⟩ (fun a F => F.only [127, 126, 125, 15, 10] rfl) (by repeat (first | exact .refl _ | apply List.Sublist.cons_cons | apply List.Sublist.cons)) ?_
          rintro ⟨j, c⟩ ⟨hj, hc⟩
          dsimp only
          have cI : IsIn c := by rw [hc]; exact cheap_p (fun x hx => hnI x (List.mem_of_mem_take hx)) hyv
          by_cases hlt_j : j < (y :: ys).length
          · have gi : seg (insC (y :: ys) ++ junk) (0 + (j : Int).toNat * 40) 40 = some (inC (y :: ys)[j]) := own_el hsz junk hlt_j (by omega)
            have xI := hnI _ (List.getElem_mem hlt_j)
            have hch := cheap_step (y := y) hlt_j
            rw [← hc] at hch
            obtain ⟨x, hx0⟩ : ∃ x, x = (y :: ys)[j] := ⟨_, rfl⟩
            rw [← hx0] at gi xI hch
            clear hc hx0
            by_cases k5 : x.own.met < c.own.met
            · rw [if_pos k5] at hch
              refine g_run 6 rfl ?_
              refine g_ifT rfl (decide_eq_true (by omega)) ?_
              refine g_run 6 rfl ?_
              refine g_ixS rfl rfl (by omega) (by omega) ?_
              refine g_ldA 1 rfl rfl (by with_reducible assumption) ?_
              refine g_alloc fun b19 => ?_
              refine g_stA 0 rfl rfl (in_len (by assumption)) (in_one _) rfl (put_all (by rw [in_len (by assumption)]; first | rfl | rw [in_len (by assumption)])) rfl ?_
              refine g_run 6 rfl ?_
              refine g_ld1 0 rfl rfl (in_own_met (by assumption)) ?_
              refine g_run 2 rfl ?_
              refine g_ld1 1 rfl rfl (in_own_met (by assumption)) ?_
              refine g_run 3 rfl ?_
              refine g_ifT rfl (decide_eq_true (by omega)) ?_
              refine g_run 1 rfl ?_
              refine g_ldA 0 rfl rfl (in_all (by assumption)) ?_
              refine g_stA 1 rfl rfl (in_len (by assumption)) (in_one _) rfl (put_all (by rw [in_len (by assumption)]; first | rfl | rw [in_len (by assumption)])) rfl ?_
              refine g_run 4 rfl ?_
              refine g_add rfl rfl (w_i64 (by omega) (by omega)) ?_
              refine g_run 2 rfl ?_
              exact g_next (j + 1, x) ⟨by omega, hch.symm⟩ (by dsimp only; omega) (fun a F => F.only [127, 126, 125, 15, 10] rfl) (by (try dsimp only); repeat (first | exact .refl _ | with_reducible exact List.nil_sublist _ | with_reducible apply List.Sublist.cons_cons | apply List.Sublist.cons))
            · rw [if_neg k5] at hch
              refine g_run 6 rfl ?_
              refine g_ifT rfl (decide_eq_true (by omega)) ?_
              refine g_run 6 rfl ?_
              refine g_ixS rfl rfl (by omega) (by omega) ?_
              refine g_ldA 1 rfl rfl (by with_reducible assumption) ?_
              refine g_alloc fun b19 => ?_
              refine g_stA 0 rfl rfl (in_len (by assumption)) (in_one _) rfl (put_all (by rw [in_len (by assumption)]; first | rfl | rw [in_len (by assumption)])) rfl ?_
              refine g_run 6 rfl ?_
              refine g_ld1 0 rfl rfl (in_own_met (by assumption)) ?_
              refine g_run 2 rfl ?_
              refine g_ld1 1 rfl rfl (in_own_met (by assumption)) ?_
              refine g_run 3 rfl ?_
              refine g_ifF rfl (decide_eq_false (by omega)) ?_
              refine g_run 4 rfl ?_
              refine g_add rfl rfl (w_i64 (by omega) (by omega)) ?_
              refine g_run 2 rfl ?_
              exact g_next (j + 1, c) ⟨by omega, hch.symm⟩ (by dsimp only; omega) (fun a F => F.only [127, 126, 125, 15, 10] rfl) (by (try dsimp only); repeat (first | exact .refl _ | with_reducible exact List.nil_sublist _ | with_reducible apply List.Sublist.cons_cons | apply List.Sublist.cons))
          · have hje : j = (y :: ys).length := by omega
            rw [hje, List.take_length] at hc
            refine g_run 6 rfl ?_
            refine g_ifF rfl (decide_eq_false (by omega)) ?_
            refine g_run 2 rfl ?_
            refine g_outX ?_
            refine g_run 1 rfl ?_
            exact g_join c ⟨cI, by rw [hc]⟩ (fun a F => F.only [15, 10] rfl) (by (try dsimp only); repeat (first | exact .refl _ | with_reducible exact List.nil_sublist _ | with_reducible apply List.Sublist.cons_cons | apply List.Sublist.cons))
        · dsimp only
          rw [if_pos rfl]
          cases hgv : getV (y :: ys) mark with
          | none =>
            have hG : ∀ w, Mem [] W w _ → Cal Tryz.prog 26 _ w _ := fun w M => rget_c (y :: ys) hnI _ mark hmk w (hO.slAt (l := List.flatten ([[(b15, .cells (inC y).toArray 50 (0, 0))], [(bN, .cells (insC (y :: ys) ++ junk).toArray 50 (0, 0))], [(b10, .cells inZ.toArray 50 (0, 0))], [(b8, .cells (dvC mark).toArray 45 (0, 0))], [(b7, .cells (ipC dst).toArray 39 (0, 0))], [(b6, .cells (ipC src).toArray 39 (0, 0))]])) M (fun p hp => by simp at hp; simp [hp])) (by omega)
            rw [hgv] at hG
            simp only [Option.getD_none, Option.isSome_none] at hG
            refine g_run 5 rfl ?_
            refine g_ldA 3 rfl rfl (dv_all (by assumption)) ?_
            refine g_call rfl rfl hG ?_
            refine g_run 3 rfl ?_
            refine g_alloc fun b16 => ?_
            refine g_stA 0 rfl rfl (in_len (by assumption)) (in_one _) rfl (put_all (by rw [in_len (by assumption)]; first | rfl | rw [in_len (by assumption)])) rfl ?_
            refine g_run 13 rfl ?_
            refine g_v (fun a w F M R r => o_build F rfl (by assumption) r) ?_
            refine g_stA 3 rfl rfl (in_len (by assumption)) (in_one _) rfl (put_all (by rw [in_len (by assumption)]; first | rfl | rw [in_len (by assumption)])) rfl ?_
            refine g_run 5 rfl ?_
            refine g_jR ?_
            refine g_run 1 rfl ?_
            refine g_retC2 3 rfl rfl rfl rfl (in_all (by assumption)) rfl fun w M => ?_
            exact tup_in (show endN (getV (y :: ys) mark) = _ by rw [hgv]; rfl) M.ext
          | some d =>
            have hG : ∀ w, Mem [] W w _ → Cal Tryz.prog 26 _ w _ := fun w M => rget_c (y :: ys) hnI _ mark hmk w (hO.slAt (l := List.flatten ([[(b15, .cells (inC y).toArray 50 (0, 0))], [(bN, .cells (insC (y :: ys) ++ junk).toArray 50 (0, 0))], [(b10, .cells inZ.toArray 50 (0, 0))], [(b8, .cells (dvC mark).toArray 45 (0, 0))], [(b7, .cells (ipC dst).toArray 39 (0, 0))], [(b6, .cells (ipC src).toArray 39 (0, 0))]])) M (fun p hp => by simp at hp; simp [hp])) (by omega)
            rw [hgv] at hG
            simp only [Option.getD_some, Option.isSome_some] at hG
            have dI : IsIn d := hnI _ (List.mem_of_find?_eq_some hgv)
            have hgv' : endN ((y :: ys).find? (fun e => decide (e.to = mark))) = endN (some d) := congrArg endN hgv
            refine g_run 5 rfl ?_
            refine g_ldA 3 rfl rfl (dv_all (by assumption)) ?_
            refine g_call rfl rfl hG ?_
            refine g_run 3 rfl ?_
            refine g_alloc fun b16 => ?_
            refine g_stA 0 rfl rfl (in_len (by assumption)) (in_one _) rfl (put_all (by rw [in_len (by assumption)]; first | rfl | rw [in_len (by assumption)])) rfl ?_
            refine g_run 14 rfl ?_
            refine g_ldA 0 rfl rfl (in_all (by assumption)) ?_
            refine g_stA 1 rfl rfl (in_len (by assumption)) (in_one _) rfl (put_all (by rw [in_len (by assumption)]; first | rfl | rw [in_len (by assumption)])) rfl ?_
            refine g_run 1 rfl ?_
            exact g_join d ⟨dI, hgv'⟩ (fun a F => F.only [15, 10] rfl) (by (try dsimp only); repeat (first | exact .refl _ | with_reducible exact List.nil_sublist _ | with_reducible apply List.Sublist.cons_cons | apply List.Sublist.cons))
      rintro c ⟨cI, hE⟩
      rw [hE]
      by_cases k9 : c.nb = 0
      · have k8 : (!decide (c.nb = 0)) = false := by simp [k9]
        refine g_run 4 rfl ?_
        refine g_ldA 0 rfl rfl (in_all (by assumption)) ?_
        refine g_call rfl rfl (fun w M => refreach_c _ (by assumption) _) ?_
        refine g_run 3 rfl ?_
        refine g_ifT rfl (notT (by assumption)) ?_
        refine g_run 2 rfl ?_
        refine g_v (fun a w F M R r => o_build F rfl (by assumption) r) ?_
        refine g_stA 1 rfl rfl (in_len (by assumption)) (in_one _) rfl (put_all (by rw [in_len (by assumption)]; first | rfl | rw [in_len (by assumption)])) rfl ?_
        refine g_run 5 rfl ?_
        refine g_retC2 1 rfl rfl rfl rfl (in_all (by assumption)) rfl fun w M => ?_
        exact tup_in (by unfold endN; simp [k9]) M.ext
      · have k8 : (!decide (c.nb = 0)) = true := by simp [k9]
        refine g_run 4 rfl ?_
        refine g_ldA 0 rfl rfl (in_all (by assumption)) ?_
        refine g_call rfl rfl (fun w M => refreach_c _ (by assumption) _) ?_
        refine g_run 3 rfl ?_
        refine g_ifF rfl (notF (by assumption)) ?_
        refine g_run 4 rfl ?_
        refine g_ldA 0 rfl rfl (in_all (by assumption)) ?_
        refine g_stA 1 rfl rfl (in_len (by assumption)) (in_one _) rfl (put_all (by rw [in_len (by assumption)]; first | rfl | rw [in_len (by assumption)])) rfl ?_
        refine g_run 4 rfl ?_
        refine g_retC2 1 rfl rfl rfl rfl (in_all (by assumption)) rfl fun w M => ?_
        exact tup_in (by unfold endN; simp [k9]) M.ext
end Go.Proofs.YtilgoepokaaleaaGreat
/-! ZZ -/
namespace Go.Proofs.YtilgoepokaaleaaGreat
set_option linter.unusedVariables false
set_option linter.unusedSimpArgs false
open Go.RowKit
attribute [local irreducible] OpTo wpListIn Code.wpIn MW Cal
set_option maxHeartbeats 32000000 in
theorem lookup2_c (l : List InsV) (hx : ∀ x ∈ l, IsIn x) (v : Value) (src dst : List Int) (hs : IsIP src) (hd : IsIP dst) (mark : DstV) (hmk : IsDv mark) (marked : Bool) (W : World) (hS : SlAt W 40 v l.length (insC l)) :
    Cal Tryz.prog 60 [v, .agg (ipC src).toArray, .agg (ipC dst).toArray, .agg (dvC mark).toArray, .bool marked].toArray W fun r w' => r = .tuple [.agg (inC (lookV l src dst mark marked).1).toArray, .int .i64 (lookV l src dst mark marked).2].toArray ∧ Ext [] W w' := by
  obtain ⟨q, cap, rfl, _⟩ := id hS
  have hm := hS.memB [] (by simp)
  have l3 := hs.len
  have l4 := hd.len
  have a1 : seg (ipC src) 0 16 = some (ipC src) := seg_all (ipC_len hs.len)
  have a2 : seg (ipC dst) 0 16 = some (ipC dst) := seg_all (ipC_len hd.len)
  have hz : putAll [(0, 35), (35, 1), (36, 2), (38, 1), (39, 1)] inZ [] = some (inC in0) := rfl
  have hi0 := in0_is
  refine g_start (n := 152) (S := []) fldT_ok slcT_ok Tryz.func60 rfl rfl rfl ?_
  refine g_run 2 rfl ?_
  refine g_box rfl rfl fun b6 => ?_
  refine g_box rfl rfl fun b7 => ?_
  refine g_box rfl rfl fun b8 => ?_
  refine g_alloc fun b10 => ?_
  refine g_run 4 rfl ?_
  refine g_cutC (ι := Unit) ⟨fun _ => validIs l = true ∧ lookV l src dst mark marked = lookN (nearL l src dst) mark marked, fun _ => [(0, .slice q l.length cap), (4, .bool marked), (6, .pointer (some ⟨b6, 0, none⟩)), (7, .pointer (some ⟨b7, 0, none⟩)), (8, .pointer (some ⟨b8, 0, none⟩)), (10, .pointer (some ⟨b10, 0, none⟩))], fun _ => [[(b10, .cells inZ.toArray 50 (0, 0))], [(b8, .cells (dvC mark).toArray 45 (0, 0))], [(b7, .cells (ipC dst).toArray 39 (0, 0))], [(b6, .cells (ipC src).toArray 39 (0, 0))]]⟩ ?_ ?_
  · refine g_run 3 rfl ?_
    refine g_call rfl rfl (fun w M => rtvalidI_c _ (by assumption) _ _ ((by assumption : SlAt _ _ _ _ _).later M.ext)) ?_
    refine g_run 2 rfl ?_
    refine g_split 22 rfl (fun h1 => ?_) (fun h1 => ?_)
    · skip
      replace h1 := false_of_not h1
      refine g_run 12 rfl ?_
      refine g_v (fun a w F M R r => o_build F rfl (by assumption) r) ?_
      refine g_stA 0 rfl rfl (in_len (by assumption)) (in_one _) rfl (put_all (by rw [in_len (by assumption)]; first | rfl | rw [in_len (by assumption)])) rfl ?_
      refine g_run 4 rfl ?_
      refine g_jR ?_
      refine g_run 1 rfl ?_
      refine g_retC2 0 rfl rfl rfl rfl (in_all (by assumption)) rfl fun w M => ?_
      exact tup_in (by unfold lookV; simp [*]) M.ext
    · skip
      replace h1 := true_of_not h1
      refine g_run 2 rfl ?_
      refine g_split 24 rfl (fun h2 => ?_) (fun h2 => ?_)
      · skip
        refine g_ldA 1 rfl rfl (dv_all (by assumption)) ?_
        refine g_call rfl rfl (fun w M => validTo_c _ (by assumption) _) ?_
        refine g_run 5 rfl ?_
        refine g_if rfl (fun h3 => ?_) (fun h3 => ?_)
        · skip
          replace h3 := false_of_not h3
          refine g_run 2 rfl ?_
          refine g_v (fun a w F M R r => o_build F rfl (by assumption) r) ?_
          refine g_stA 0 rfl rfl (in_len (by assumption)) (in_one _) rfl (put_all (by rw [in_len (by assumption)]; first | rfl | rw [in_len (by assumption)])) rfl ?_
          refine g_run 4 rfl ?_
          refine g_jR ?_
          refine g_run 1 rfl ?_
          refine g_retC2 0 rfl rfl rfl rfl (in_all (by assumption)) rfl fun w M => ?_
          exact tup_in (by unfold lookV; simp [*]) M.ext
        · skip
          replace h3 := true_of_not h3
          refine g_run 1 rfl ?_
          exact g_join () ⟨by assumption, by unfold lookV; simp [*]⟩ (fun a F => F.only [0, 4, 6, 7, 8, 10] rfl) (by (try dsimp only); repeat (first | exact .refl _ | with_reducible exact List.nil_sublist _ | with_reducible apply List.Sublist.cons_cons | apply List.Sublist.cons))
      · skip
        refine g_run 9 rfl ?_
        exact g_join () ⟨by assumption, by unfold lookV; simp [*]⟩ (fun a F => F.only [0, 4, 6, 7, 8, 10] rfl) (by (try dsimp only); repeat (first | exact .refl _ | with_reducible exact List.nil_sublist _ | with_reducible apply List.Sublist.cons_cons | apply List.Sublist.cons))
  rintro _ ⟨hv, hL⟩
  have hl512 := (validIs_iff.1 hv).1
  rw [hL]
  refine g_run 15 rfl ?_
  refine g_pad ?_
  refine g_loop (ι := Nat × (List InsV) × Value × (List (Nat × Obj))) ⟨fun (i, near, u, es) => l.length - i, fun (i, near, u, es) => i ≤ l.length ∧ (OwnS 50 40 u near.length (insC near) es) ∧ (near = nearL (l.take i) src dst), fun (i, near, u, es) => [(33, .int .i64 i), (32, .int .i64 l.length), (31, .slice q l.length cap), (12, u), (4, .bool marked), (6, .pointer (some ⟨b6, 0, none⟩)), (7, .pointer (some ⟨b7, 0, none⟩)), (8, .pointer (some ⟨b8, 0, none⟩)), (10, .pointer (some ⟨b10, 0, none⟩))], fun (i, near, u, es) => [es, [(b10, .cells inZ.toArray 50 (0, 0))], [(b8, .cells (dvC mark).toArray 45 (0, 0))], [(b7, .cells (ipC dst).toArray 39 (0, 0))], [(b6, .cells (ipC src).toArray 39 (0, 0))]]⟩ (0, [], _, []) ⟨by omega, OwnS.nilL _ _ _, rfl⟩ (fun a F => F.only [33, 32, 31, 12, 4, 6, 7, 8, 10] rfl) (by repeat (first | exact .refl _ | apply List.Sublist.cons_cons | apply List.Sublist.cons)) ?_
  rintro ⟨i, near, u, es⟩ ⟨hi_i, hOs, hnr⟩
  dsimp only
  by_cases hlt_i : i < l.length
  · obtain ⟨b, o, cs, t', fz, rfl, hb, hs⟩ := hm (by omega)
    obtain ⟨x, hx0⟩ : ∃ x, x = l[i] := ⟨_, rfl⟩
    have hxm : x ∈ l := by rw [hx0]; exact List.getElem_mem hlt_i
    have hxi : IsIn x := hx _ hxm
    have f1 : seg cs (o + (i : Int).toNat * 40) 40 = some (inC x) := by rw [hx0]; exact seg_el (ins_len hx) hs hlt_i (by omega)
    have hx0' := hx0
    clear hx0
    have hst := nearL_step (src := src) (dst := dst) hlt_i
    rw [← hnr, ← hx0'] at hst
    have hnI : ∀ y ∈ near, IsIn y := by rw [hnr]; exact nearL_sub fun y hy => hx y (List.mem_of_mem_take hy)
    have hnl : near.length ≤ 512 := by
      have := nearL_len (src := src) (dst := dst) (l := l.take i)
      rw [← hnr, List.length_take] at this
      omega
    have hxd : IsDv x.to := hxi.1
    have f2 := in_len hxi
    clear hnr hx0' hL
    have l1 := hxd.1.len
    have l2 := hxd.2.len
    cases c3 : containsP x.to.dip x.to.dbits dst
    · have hns : nearS src dst near x = near := by unfold nearS matchV; rw [c3]; rfl
      refine g_run 6 rfl ?_
      refine g_ifT rfl (decide_eq_true (by omega)) ?_
      refine g_run 6 rfl ?_
      refine g_ixS rfl rfl (by omega) (by omega) ?_
      refine g_leA rfl (by assumption) (by with_reducible assumption) ?_
      refine g_alloc fun b14 => ?_
      refine g_stA 0 rfl rfl (in_len (by assumption)) (in_one _) rfl (put_all (by rw [in_len (by assumption)]; first | rfl | rw [in_len (by assumption)])) rfl ?_
      refine g_run 7 rfl ?_
      refine g_ldA 0 rfl rfl (in_to_dst (by assumption)) ?_
      refine g_ldA 4 rfl rfl (by with_reducible assumption) ?_
      refine g_call rfl rfl (fun w M => contains_c _ _ (by assumption) _ (by assumption) _) ?_
      refine g_run 2 rfl ?_
      refine g_know 43 rfl (notT (by assumption)) ?_
      refine g_run 15 rfl ?_
      refine g_add rfl rfl (w_i64 (by omega) (by omega)) ?_
      refine g_run 2 rfl ?_
      exact g_next (i + 1, near, u, es) ⟨by omega, hOs, by rw [hst, hns]⟩ (by dsimp only; omega) (fun a F => F.only [33, 32, 31, 12, 4, 6, 7, 8, 10] rfl) (by (try dsimp only); repeat (first | exact .refl _ | with_reducible exact List.nil_sublist _ | with_reducible apply List.Sublist.cons_cons | apply List.Sublist.cons))
    cases c4 : containsP x.to.sip x.to.sbits src
    · have hns : nearS src dst near x = near := by unfold nearS matchV; rw [c3, c4]; rfl
      refine g_run 6 rfl ?_
      refine g_ifT rfl (decide_eq_true (by omega)) ?_
      refine g_run 6 rfl ?_
      refine g_ixS rfl rfl (by omega) (by omega) ?_
      refine g_leA rfl (by assumption) (by with_reducible assumption) ?_
      refine g_alloc fun b14 => ?_
      refine g_stA 0 rfl rfl (in_len (by assumption)) (in_one _) rfl (put_all (by rw [in_len (by assumption)]; first | rfl | rw [in_len (by assumption)])) rfl ?_
      refine g_run 7 rfl ?_
      refine g_ldA 0 rfl rfl (in_to_dst (by assumption)) ?_
      refine g_ldA 4 rfl rfl (by with_reducible assumption) ?_
      refine g_call rfl rfl (fun w M => contains_c _ _ (by assumption) _ (by assumption) _) ?_
      refine g_run 2 rfl ?_
      refine g_know 43 rfl (notF (by assumption)) ?_
      refine g_run 2 rfl ?_
      refine g_ldA 0 rfl rfl (in_to_src (by assumption)) ?_
      refine g_ldA 5 rfl rfl (by with_reducible assumption) ?_
      refine g_call rfl rfl (fun w M => contains_c _ _ (by assumption) _ (by assumption) _) ?_
      refine g_run 4 rfl ?_
      refine g_ifT rfl (notT (by assumption)) ?_
      refine g_run 5 rfl ?_
      refine g_add rfl rfl (w_i64 (by omega) (by omega)) ?_
      refine g_run 2 rfl ?_
      exact g_next (i + 1, near, u, es) ⟨by omega, hOs, by rw [hst, hns]⟩ (by dsimp only; omega) (fun a F => F.only [33, 32, 31, 12, 4, 6, 7, 8, 10] rfl) (by (try dsimp only); repeat (first | exact .refl _ | with_reducible exact List.nil_sublist _ | with_reducible apply List.Sublist.cons_cons | apply List.Sublist.cons))
    have hmt : matchV x.to src dst = true := by unfold matchV; rw [c3, c4]; rfl
    · cases near with
      | nil =>
        have hns : nearS src dst [] x = [x] := by unfold nearS; rw [hmt]; rfl
        obtain ⟨pz, cz, rfl⟩ := hOs.slice
        refine g_run 6 rfl ?_
        refine g_ifT rfl (decide_eq_true (by omega)) ?_
        refine g_run 6 rfl ?_
        refine g_ixS rfl rfl (by omega) (by omega) ?_
        refine g_leA rfl (by assumption) (by with_reducible assumption) ?_
        refine g_alloc fun b14 => ?_
        refine g_stA 0 rfl rfl (in_len (by assumption)) (in_one _) rfl (put_all (by rw [in_len (by assumption)]; first | rfl | rw [in_len (by assumption)])) rfl ?_
        refine g_run 7 rfl ?_
        refine g_ldA 0 rfl rfl (in_to_dst (by assumption)) ?_
        refine g_ldA 4 rfl rfl (by with_reducible assumption) ?_
        refine g_call rfl rfl (fun w M => contains_c _ _ (by assumption) _ (by assumption) _) ?_
        refine g_run 2 rfl ?_
        refine g_know 43 rfl (notF (by assumption)) ?_
        refine g_run 2 rfl ?_
        refine g_ldA 0 rfl rfl (in_to_src (by assumption)) ?_
        refine g_ldA 5 rfl rfl (by with_reducible assumption) ?_
        refine g_call rfl rfl (fun w M => contains_c _ _ (by assumption) _ (by assumption) _) ?_
        refine g_run 4 rfl ?_
        refine g_ifF rfl (notF (by assumption)) ?_
        refine g_run 4 rfl ?_
        refine g_draw 13 152 rfl (by kernel_rfl) ?_
        refine fd_run 13 rfl ?_
        refine fd_done rfl rfl ?_
        refine g_run 6 rfl ?_
        refine g_draw 13 152 rfl (by kernel_rfl) ?_
        refine fd_run 13 rfl ?_
        refine fd_done rfl rfl ?_
        refine g_run 5 rfl ?_
        refine g_ldA 0 rfl rfl (in_all (by assumption)) ?_
        refine g_bs rfl rfl rfl (in_build1 (by assumption)) fun b79 => ?_
        refine g_app 2 0 (enc := inC) rfl rfl (by assumption) rfl rfl (in_len (by assumption)) (by first | omega | (simp only [List.length_nil]; omega)) (fun _ => rfl) (fun v80 es80 hO80 => ?_) (in_one _)
        refine g_run 5 rfl ?_
        refine g_add rfl rfl (w_i64 (by omega) (by omega)) ?_
        refine g_run 2 rfl ?_
        exact g_next (i + 1, _, _, _) ⟨by omega, by assumption, by rw [hst, hns]; rfl⟩ (by dsimp only; omega) (fun a F => F.only [33, 32, 31, 12, 4, 6, 7, 8, 10] rfl) (by (try dsimp only); repeat (first | exact .refl _ | with_reducible exact List.nil_sublist _ | with_reducible apply List.Sublist.cons_cons | apply List.Sublist.cons))
      | cons y ys =>
        rcases hOs with ⟨_, h0, _, _⟩ | ⟨bN, cN, junk, rfl, rfl, hxl, hjl, hnc⟩
        · simp at h0
        have hyv := hnI y (by simp)
        have hyd : IsDv y.to := hyv.1
        have hsz : ∀ z ∈ y :: ys, (inC z).length = 40 := ins_len hnI
        have g1 : seg (insC (y :: ys) ++ junk) (0 + (0 : Int).toNat * 40) 40 = some (inC y) := own_el hsz junk (show 0 < (y :: ys).length by simp) (by simp)
        have g2 : seg (insC (y :: ys) ++ junk) (0 + (0 : Int).toNat * 40 + 0) 35 = some (dvC y.to) := sg_seg g1 (in_to hyv) (by omega)
        have hO : OwnS 50 40 (.slice (some ⟨bN, 0, none⟩) (y :: ys).length cN) (y :: ys).length (insC (y :: ys)) [(bN, .cells (insC (y :: ys) ++ junk).toArray 50 (0, 0))] := .inr ⟨bN, cN, junk, rfl, rfl, hxl, hjl, hnc⟩
        have hn0 : 0 < (y :: ys).length := by simp
        have hns0 : nearS src dst (y :: ys) x = if 0 < nearC x.to y.to then [x] else if nearC x.to y.to = 0 then y :: ys ++ [x] else y :: ys := by unfold nearS; rw [hmt]; rfl
        clear hxl hjl hnc hsz
        by_cases k1 : 0 < nearC x.to y.to
        · rw [if_pos k1] at hns0
          refine g_run 6 rfl ?_
          refine g_ifT rfl (decide_eq_true (by omega)) ?_
          refine g_run 6 rfl ?_
          refine g_ixS rfl rfl (by omega) (by omega) ?_
          refine g_leA rfl (by assumption) (by with_reducible assumption) ?_
          refine g_alloc fun b14 => ?_
          refine g_stA 0 rfl rfl (in_len (by assumption)) (in_one _) rfl (put_all (by rw [in_len (by assumption)]; first | rfl | rw [in_len (by assumption)])) rfl ?_
          refine g_run 7 rfl ?_
          refine g_ldA 0 rfl rfl (in_to_dst (by assumption)) ?_
          refine g_ldA 4 rfl rfl (by with_reducible assumption) ?_
          refine g_call rfl rfl (fun w M => contains_c _ _ (by assumption) _ (by assumption) _) ?_
          refine g_run 2 rfl ?_
          refine g_know 43 rfl (notF (by assumption)) ?_
          refine g_run 2 rfl ?_
          refine g_ldA 0 rfl rfl (in_to_src (by assumption)) ?_
          refine g_ldA 5 rfl rfl (by with_reducible assumption) ?_
          refine g_call rfl rfl (fun w M => contains_c _ _ (by assumption) _ (by assumption) _) ?_
          refine g_run 4 rfl ?_
          refine g_ifF rfl (notF (by assumption)) ?_
          refine g_run 4 rfl ?_
          refine g_draw 13 152 rfl (by kernel_rfl) ?_
          refine fd_run 4 rfl ?_
          refine fd_know 54 rfl (decide_eq_true (by omega)) ?_
          refine fd_run 1 rfl ?_
          refine fd_ldA 0 rfl rfl (in_to (by assumption)) ?_
          refine fd_run 1 rfl ?_
          refine fd_ixS rfl rfl (by omega) (by omega) ?_
          refine fd_run 1 rfl ?_
          refine fd_ldA 1 rfl rfl (by with_reducible assumption) ?_
          refine fd_call rfl rfl (fun w M => rnearest_c _ _ (by assumption) (by assumption) _) ?_
          refine fd_run 2 rfl ?_
          refine fd_done rfl rfl ?_
          refine g_run 2 rfl ?_
          refine g_ifT rfl (decide_eq_true (by omega)) ?_
          refine g_run 5 rfl ?_
          refine g_draw 13 152 rfl (by kernel_rfl) ?_
          refine fd_run 13 rfl ?_
          refine fd_done rfl rfl ?_
          refine g_run 5 rfl ?_
          refine g_ldA 0 rfl rfl (in_all (by assumption)) ?_
          refine g_bs rfl rfl rfl (in_build1 (by assumption)) fun b79 => ?_
          refine g_pad ?_; refine g_app 0 1 (enc := inC) rfl rfl (OwnS.nilL _ _ _) rfl rfl (in_len (by assumption)) (by first | omega | (simp only [List.length_nil]; omega)) (fun _ => rfl) (fun v80 es80 hO80 => ?_) (in_one _)
          refine g_run 5 rfl ?_
          refine g_add rfl rfl (w_i64 (by omega) (by omega)) ?_
          refine g_run 2 rfl ?_
          exact g_next (i + 1, _, _, _) ⟨by omega, by assumption, by rw [hst, hns0]; rfl⟩ (by dsimp only; omega) (fun a F => F.only [33, 32, 31, 12, 4, 6, 7, 8, 10] rfl) (by (try dsimp only); repeat (first | exact .refl _ | with_reducible exact List.nil_sublist _ | with_reducible apply List.Sublist.cons_cons | apply List.Sublist.cons))
        · rw [if_neg k1] at hns0
          by_cases k2 : nearC x.to y.to = 0
          · rw [if_pos k2] at hns0
            refine g_run 6 rfl ?_
            refine g_ifT rfl (decide_eq_true (by omega)) ?_
            refine g_run 6 rfl ?_
            refine g_ixS rfl rfl (by omega) (by omega) ?_
            refine g_leA rfl (by assumption) (by with_reducible assumption) ?_
            refine g_alloc fun b14 => ?_
            refine g_stA 0 rfl rfl (in_len (by assumption)) (in_one _) rfl (put_all (by rw [in_len (by assumption)]; first | rfl | rw [in_len (by assumption)])) rfl ?_
            refine g_run 7 rfl ?_
            refine g_ldA 0 rfl rfl (in_to_dst (by assumption)) ?_
            refine g_ldA 4 rfl rfl (by with_reducible assumption) ?_
            refine g_call rfl rfl (fun w M => contains_c _ _ (by assumption) _ (by assumption) _) ?_
            refine g_run 2 rfl ?_
            refine g_know 43 rfl (notF (by assumption)) ?_
            refine g_run 2 rfl ?_
            refine g_ldA 0 rfl rfl (in_to_src (by assumption)) ?_
            refine g_ldA 5 rfl rfl (by with_reducible assumption) ?_
            refine g_call rfl rfl (fun w M => contains_c _ _ (by assumption) _ (by assumption) _) ?_
            refine g_run 4 rfl ?_
            refine g_ifF rfl (notF (by assumption)) ?_
            refine g_run 4 rfl ?_
            refine g_draw 13 152 rfl (by kernel_rfl) ?_
            refine fd_run 4 rfl ?_
            refine fd_know 54 rfl (decide_eq_true (by omega)) ?_
            refine fd_run 1 rfl ?_
            refine fd_ldA 0 rfl rfl (in_to (by assumption)) ?_
            refine fd_run 1 rfl ?_
            refine fd_ixS rfl rfl (by omega) (by omega) ?_
            refine fd_run 1 rfl ?_
            refine fd_ldA 1 rfl rfl (by with_reducible assumption) ?_
            refine fd_call rfl rfl (fun w M => rnearest_c _ _ (by assumption) (by assumption) _) ?_
            refine fd_run 2 rfl ?_
            refine fd_done rfl rfl ?_
            refine g_run 2 rfl ?_
            refine g_ifF rfl (decide_eq_false (by omega)) ?_
            refine g_run 3 rfl ?_
            refine g_draw 13 152 rfl (by kernel_rfl) ?_
            refine fd_run 5 rfl ?_
            refine fd_ldA 0 rfl rfl (in_to (by assumption)) ?_
            refine fd_run 1 rfl ?_
            refine fd_ixS rfl rfl (by omega) (by omega) ?_
            refine fd_run 1 rfl ?_
            refine fd_ldA 1 rfl rfl (by with_reducible assumption) ?_
            refine fd_call rfl rfl (fun w M => rnearest_c _ _ (by assumption) (by assumption) _) ?_
            refine fd_run 2 rfl ?_
            refine fd_done rfl rfl ?_
            refine g_run 2 rfl ?_
            refine g_ifT rfl (decide_eq_true (by omega)) ?_
            refine g_run 2 rfl ?_
            refine g_ldA 0 rfl rfl (in_all (by assumption)) ?_
            refine g_bs rfl rfl rfl (in_build1 (by assumption)) fun b79 => ?_
            refine g_app 2 0 (enc := inC) rfl rfl (by assumption) rfl rfl (in_len (by assumption)) (by first | omega | (simp only [List.length_nil]; omega)) (fun _ => rfl) (fun v80 es80 hO80 => ?_) (in_one _)
            refine g_run 5 rfl ?_
            refine g_add rfl rfl (w_i64 (by omega) (by omega)) ?_
            refine g_run 2 rfl ?_
            exact g_next (i + 1, _, _, _) ⟨by omega, by assumption, by rw [hst, hns0]⟩ (by dsimp only; omega) (fun a F => F.only [33, 32, 31, 12, 4, 6, 7, 8, 10] rfl) (by (try dsimp only); repeat (first | exact .refl _ | with_reducible exact List.nil_sublist _ | with_reducible apply List.Sublist.cons_cons | apply List.Sublist.cons))
          · rw [if_neg k2] at hns0
            refine g_run 6 rfl ?_
            refine g_ifT rfl (decide_eq_true (by omega)) ?_
            refine g_run 6 rfl ?_
            refine g_ixS rfl rfl (by omega) (by omega) ?_
            refine g_leA rfl (by assumption) (by with_reducible assumption) ?_
            refine g_alloc fun b14 => ?_
            refine g_stA 0 rfl rfl (in_len (by assumption)) (in_one _) rfl (put_all (by rw [in_len (by assumption)]; first | rfl | rw [in_len (by assumption)])) rfl ?_
            refine g_run 7 rfl ?_
            refine g_ldA 0 rfl rfl (in_to_dst (by assumption)) ?_
            refine g_ldA 4 rfl rfl (by with_reducible assumption) ?_
            refine g_call rfl rfl (fun w M => contains_c _ _ (by assumption) _ (by assumption) _) ?_
            refine g_run 2 rfl ?_
            refine g_know 43 rfl (notF (by assumption)) ?_
            refine g_run 2 rfl ?_
            refine g_ldA 0 rfl rfl (in_to_src (by assumption)) ?_
            refine g_ldA 5 rfl rfl (by with_reducible assumption) ?_
            refine g_call rfl rfl (fun w M => contains_c _ _ (by assumption) _ (by assumption) _) ?_
            refine g_run 4 rfl ?_
            refine g_ifF rfl (notF (by assumption)) ?_
            refine g_run 4 rfl ?_
            refine g_draw 13 152 rfl (by kernel_rfl) ?_
            refine fd_run 4 rfl ?_
            refine fd_know 54 rfl (decide_eq_true (by omega)) ?_
            refine fd_run 1 rfl ?_
            refine fd_ldA 0 rfl rfl (in_to (by assumption)) ?_
            refine fd_run 1 rfl ?_
            refine fd_ixS rfl rfl (by omega) (by omega) ?_
            refine fd_run 1 rfl ?_
            refine fd_ldA 1 rfl rfl (by with_reducible assumption) ?_
            refine fd_call rfl rfl (fun w M => rnearest_c _ _ (by assumption) (by assumption) _) ?_
            refine fd_run 2 rfl ?_
            refine fd_done rfl rfl ?_
            refine g_run 2 rfl ?_
            refine g_ifF rfl (decide_eq_false (by omega)) ?_
            refine g_run 3 rfl ?_
            refine g_draw 13 152 rfl (by kernel_rfl) ?_
            refine fd_run 5 rfl ?_
            refine fd_ldA 0 rfl rfl (in_to (by assumption)) ?_
            refine fd_run 1 rfl ?_
            refine fd_ixS rfl rfl (by omega) (by omega) ?_
            refine fd_run 1 rfl ?_
            refine fd_ldA 1 rfl rfl (by with_reducible assumption) ?_
            refine fd_call rfl rfl (fun w M => rnearest_c _ _ (by assumption) (by assumption) _) ?_
            refine fd_run 2 rfl ?_
            refine fd_done rfl rfl ?_
            refine g_run 2 rfl ?_
            refine g_ifF rfl (decide_eq_false (by omega)) ?_
            refine g_run 4 rfl ?_
            refine g_add rfl rfl (w_i64 (by omega) (by omega)) ?_
            refine g_run 2 rfl ?_
            exact g_next (i + 1, _, _, _) ⟨by omega, by assumption, by rw [hst, hns0]⟩ (by dsimp only; omega) (fun a F => F.only [33, 32, 31, 12, 4, 6, 7, 8, 10] rfl) (by (try dsimp only); repeat (first | exact .refl _ | with_reducible exact List.nil_sublist _ | with_reducible apply List.Sublist.cons_cons | apply List.Sublist.cons))
  · have hil : i = l.length := by omega
    rw [hil, List.take_length] at hnr
    have hnI : ∀ y ∈ near, IsIn y := by rw [hnr]; exact nearL_sub hx
    have hnl : near.length ≤ 512 := by
      have := nearL_len (src := src) (dst := dst) (l := l)
      rw [← hnr] at this
      omega
    rw [← hnr]
    clear hnr hm hL hil
    cases near with
    | nil =>
      obtain ⟨pz, cz, rfl⟩ := hOs.slice
      refine g_run 6 rfl ?_
      refine g_ifF rfl (decide_eq_false (by omega)) ?_
      refine g_run 2 rfl ?_
      refine g_outX ?_
      refine g_run 4 rfl ?_
      refine g_draw 15 152 rfl (by kernel_rfl) ?_
      refine fd_run 15 rfl ?_
      refine fd_done rfl rfl ?_
      refine g_run 5 rfl ?_
      refine g_v (fun a w F M R r => o_build F rfl (by assumption) r) ?_
      refine g_stA 1 rfl rfl (in_len (by assumption)) (in_one _) rfl (put_all (by rw [in_len (by assumption)]; first | rfl | rw [in_len (by assumption)])) rfl ?_
      refine g_run 5 rfl ?_
      refine g_retC2 1 rfl rfl rfl rfl (in_all (by assumption)) rfl fun w M => ?_
      exact tup_in rfl M.ext
    | cons y ys =>
      rcases hOs with ⟨_, h0, _, _⟩ | ⟨bN, cN, junk, rfl, rfl, hxl, hjl, hnc⟩
      · simp at h0
      have hyv := hnI y (by simp)
      have hyd : IsDv y.to := hyv.1
      have hsz : ∀ z ∈ y :: ys, (inC z).length = 40 := ins_len hnI
      have g1 : seg (insC (y :: ys) ++ junk) (0 + (0 : Int).toNat * 40) 40 = some (inC y) := own_el hsz junk (show 0 < (y :: ys).length by simp) (by simp)
      have g2 : seg (insC (y :: ys) ++ junk) (0 + (0 : Int).toNat * 40 + 0) 35 = some (dvC y.to) := sg_seg g1 (in_to hyv) (by omega)
      have g3 : seg (insC (y :: ys) ++ junk) (0 + (0 : Int).toNat * 40 + 0 + 0) 17 = some (pfC y.to.dip y.to.dbits) := sg_seg g1 (in_to_dst hyv) (by omega)
      have g4 : seg (insC (y :: ys) ++ junk) (0 + (0 : Int).toNat * 40 + 0 + 17) 17 = some (pfC y.to.sip y.to.sbits) := sg_seg g1 (in_to_src hyv) (by omega)
      have g5 := fits_pf hyd.1.len y.to.dbits
      have g6 := fits_pf hyd.2.len y.to.sbits
      have m3 := dv_dst hmk
      have m4 := dv_src hmk
      have m5 := fits_pf hmk.1.len mark.dbits
      have m6 := fits_pf hmk.2.len mark.sbits
      have q1 := eq_pfD (a := y.to.dip) (b := mark.dip) (n := y.to.dbits) (m := mark.dbits) (by rw [hyd.1.len, hmk.1.len])
      have q2 := eq_pfD (a := y.to.sip) (b := mark.sip) (n := y.to.sbits) (m := mark.sbits) (by rw [hyd.2.len, hmk.2.len])
      have hO : OwnS 50 40 (.slice (some ⟨bN, 0, none⟩) (y :: ys).length cN) (y :: ys).length (insC (y :: ys)) [(bN, .cells (insC (y :: ys) ++ junk).toArray 50 (0, 0))] := .inr ⟨bN, cN, junk, rfl, rfl, hxl, hjl, hnc⟩
      have hn0 : 0 < (y :: ys).length := by simp
      clear hxl hjl hnc
      refine g_run 6 rfl ?_
      refine g_ifF rfl (decide_eq_false (by omega)) ?_
      refine g_run 2 rfl ?_
      refine g_outX ?_
      refine g_run 3 rfl ?_
      refine g_cutC (ι := Unit) ⟨fun _ => (marked && decide (nearC y.to mark < 0)) = false, fun _ => [(12, .slice (some ⟨bN, 0, none⟩) (y :: ys).length cN), (4, .bool marked), (6, .pointer (some ⟨b6, 0, none⟩)), (7, .pointer (some ⟨b7, 0, none⟩)), (8, .pointer (some ⟨b8, 0, none⟩)), (10, .pointer (some ⟨b10, 0, none⟩))], fun _ => [[(bN, .cells (insC (y :: ys) ++ junk).toArray 50 (0, 0))], [(b10, .cells inZ.toArray 50 (0, 0))], [(b8, .cells (dvC mark).toArray 45 (0, 0))], [(b7, .cells (ipC dst).toArray 39 (0, 0))], [(b6, .cells (ipC src).toArray 39 (0, 0))]]⟩ ?_ ?_
      · cases marked
        · refine g_run 1 rfl ?_
          refine g_draw 15 152 rfl (by kernel_rfl) ?_
          refine fd_run 15 rfl ?_
          refine fd_done rfl rfl ?_
          refine g_run 4 rfl ?_
          exact g_join () rfl (fun a F => F.only [12, 4, 6, 7, 8, 10] rfl) (by (try dsimp only); repeat (first | exact .refl _ | with_reducible exact List.nil_sublist _ | with_reducible apply List.Sublist.cons_cons | apply List.Sublist.cons))
        · by_cases k : nearC y.to mark < 0
          · refine g_run 1 rfl ?_
            refine g_draw 15 152 rfl (by kernel_rfl) ?_
            refine fd_run 7 rfl ?_
            refine fd_ixS rfl rfl (by omega) (by omega) ?_
            refine fd_run 1 rfl ?_
            refine fd_ldA 0 rfl rfl (by with_reducible assumption) ?_
            refine fd_ldA 2 rfl rfl (dv_all (by assumption)) ?_
            refine fd_call rfl rfl (fun w M => rnearest_c _ _ (by assumption) (by assumption) _) ?_
            refine fd_run 3 rfl ?_
            refine fd_done rfl rfl ?_
            refine g_run 2 rfl ?_
            refine g_ifT rfl (decide_eq_true (by omega)) ?_
            refine g_run 2 rfl ?_
            refine g_v (fun a w F M R r => o_build F rfl (by assumption) r) ?_
            refine g_stA 1 rfl rfl (in_len (by assumption)) (in_one _) rfl (put_all (by rw [in_len (by assumption)]; first | rfl | rw [in_len (by assumption)])) rfl ?_
            refine g_run 4 rfl ?_
            refine g_jR ?_
            refine g_run 1 rfl ?_
            refine g_retC2 1 rfl rfl rfl rfl (in_all (by assumption)) rfl fun w M => ?_
            exact tup_in (lookN_far (by simp [k])) M.ext
          · refine g_run 1 rfl ?_
            refine g_draw 15 152 rfl (by kernel_rfl) ?_
            refine fd_run 7 rfl ?_
            refine fd_ixS rfl rfl (by omega) (by omega) ?_
            refine fd_run 1 rfl ?_
            refine fd_ldA 0 rfl rfl (by with_reducible assumption) ?_
            refine fd_ldA 2 rfl rfl (dv_all (by assumption)) ?_
            refine fd_call rfl rfl (fun w M => rnearest_c _ _ (by assumption) (by assumption) _) ?_
            refine fd_run 3 rfl ?_
            refine fd_done rfl rfl ?_
            refine g_run 2 rfl ?_
            refine g_ifF rfl (decide_eq_false (by omega)) ?_
            refine g_run 1 rfl ?_
            exact g_join () (by simp [k]) (fun a F => F.only [12, 4, 6, 7, 8, 10] rfl) (by (try dsimp only); repeat (first | exact .refl _ | with_reducible exact List.nil_sublist _ | with_reducible apply List.Sublist.cons_cons | apply List.Sublist.cons))
      rintro _ hk
      rw [lookN_near hk]
      clear hk
      refine g_run 4 rfl ?_
      refine g_ixS rfl rfl (by omega) (by omega) ?_
      refine g_ldA 0 rfl rfl (by with_reducible assumption) ?_
      refine g_alloc fun b15 => ?_
      refine g_stA 0 rfl rfl (in_len (by assumption)) (in_one _) rfl (put_all (by rw [in_len (by assumption)]; first | rfl | rw [in_len (by assumption)])) rfl ?_
      refine g_run 3 rfl ?_
      refine g_cutC (ι := InsV) ⟨fun c => IsIn c ∧ endN (if (marked && sameV y.to mark) = true then (y :: ys).find? (fun e => decide (e.to = mark)) else some (cheap (y :: ys) y)) = endN (some c), fun _ => [(15, .pointer (some ⟨b15, 0, none⟩)), (10, .pointer (some ⟨b10, 0, none⟩))], fun c => [[(b15, .cells (inC c).toArray 50 (0, 0))], [(b10, .cells inZ.toArray 50 (0, 0))]]⟩ ?_ ?_
      · refine g_run 1 rfl ?_
        refine g_cutC (ι := Unit) ⟨fun _ => True, fun _ => [(121, .bool (marked && sameV y.to mark)), (15, .pointer (some ⟨b15, 0, none⟩)), (12, .slice (some ⟨bN, 0, none⟩) (y :: ys).length cN), (4, .bool marked), (6, .pointer (some ⟨b6, 0, none⟩)), (7, .pointer (some ⟨b7, 0, none⟩)), (8, .pointer (some ⟨b8, 0, none⟩)), (10, .pointer (some ⟨b10, 0, none⟩))], fun _ => [[(b15, .cells (inC y).toArray 50 (0, 0))], [(bN, .cells (insC (y :: ys) ++ junk).toArray 50 (0, 0))], [(b10, .cells inZ.toArray 50 (0, 0))], [(b8, .cells (dvC mark).toArray 45 (0, 0))], [(b7, .cells (ipC dst).toArray 39 (0, 0))], [(b6, .cells (ipC src).toArray 39 (0, 0))]]⟩ ?_ ?_
        · unfold sameV
          cases marked
          · refine g_draw 21 152 rfl (by kernel_rfl) ?_
            refine fd_run 21 rfl ?_
            refine fd_done rfl rfl ?_
            refine g_run 1 rfl ?_
            exact g_join () trivial (fun a F => F.only [121, 15, 12, 4, 6, 7, 8, 10] rfl) (by (try dsimp only); repeat (first | exact .refl _ | with_reducible exact List.nil_sublist _ | with_reducible apply List.Sublist.cons_cons | apply List.Sublist.cons))
          · cases d1 : (decide (y.to.dip = mark.dip) && decide (y.to.dbits = mark.dbits))
            · rw [d1] at q1
              refine g_draw 21 152 rfl (by kernel_rfl) ?_
              refine fd_run 3 rfl ?_
              refine fd_ixS rfl rfl (by omega) (by omega) ?_
              refine fd_run 2 rfl ?_
              refine fd_ldA 1 rfl rfl (by with_reducible assumption) ?_
              refine fd_run 1 rfl ?_
              refine fd_ldA 3 rfl rfl (dv_dst (by assumption)) ?_
              refine fd_eqA rfl rfl (by assumption) (by assumption) (by assumption) ?_
              refine fd_run 11 rfl ?_
              refine fd_done rfl rfl ?_
              refine g_run 1 rfl ?_
              exact g_join () trivial (fun a F => F.only [121, 15, 12, 4, 6, 7, 8, 10] rfl) (by (try dsimp only); repeat (first | exact .refl _ | with_reducible exact List.nil_sublist _ | with_reducible apply List.Sublist.cons_cons | apply List.Sublist.cons))
            · rw [d1] at q1
              cases d2 : (decide (y.to.sip = mark.sip) && decide (y.to.sbits = mark.sbits))
              · rw [d2] at q2
                refine g_draw 21 152 rfl (by kernel_rfl) ?_
                refine fd_run 3 rfl ?_
                refine fd_ixS rfl rfl (by omega) (by omega) ?_
                refine fd_run 2 rfl ?_
                refine fd_ldA 1 rfl rfl (by with_reducible assumption) ?_
                refine fd_run 1 rfl ?_
                refine fd_ldA 3 rfl rfl (dv_dst (by assumption)) ?_
                refine fd_eqA rfl rfl (by assumption) (by assumption) (by assumption) ?_
                refine fd_run 3 rfl ?_
                refine fd_ixS rfl rfl (by omega) (by omega) ?_
                refine fd_run 2 rfl ?_
                refine fd_ldA 1 rfl rfl (by with_reducible assumption) ?_
                refine fd_run 1 rfl ?_
                refine fd_ldA 3 rfl rfl (dv_src (by assumption)) ?_
                refine fd_eqA rfl rfl (by assumption) (by assumption) (by assumption) ?_
                refine fd_run 1 rfl ?_
                refine fd_done rfl rfl ?_
                refine g_run 1 rfl ?_
                exact g_join () trivial (fun a F => F.only [121, 15, 12, 4, 6, 7, 8, 10] rfl) (by (try dsimp only); repeat (first | exact .refl _ | with_reducible exact List.nil_sublist _ | with_reducible apply List.Sublist.cons_cons | apply List.Sublist.cons))
              · rw [d2] at q2
                refine g_draw 21 152 rfl (by kernel_rfl) ?_
                refine fd_run 3 rfl ?_
                refine fd_ixS rfl rfl (by omega) (by omega) ?_
                refine fd_run 2 rfl ?_
                refine fd_ldA 1 rfl rfl (by with_reducible assumption) ?_
                refine fd_run 1 rfl ?_
                refine fd_ldA 3 rfl rfl (dv_dst (by assumption)) ?_
                refine fd_eqA rfl rfl (by assumption) (by assumption) (by assumption) ?_
                refine fd_run 3 rfl ?_
                refine fd_ixS rfl rfl (by omega) (by omega) ?_
                refine fd_run 2 rfl ?_
                refine fd_ldA 1 rfl rfl (by with_reducible assumption) ?_
                refine fd_run 1 rfl ?_
                refine fd_ldA 3 rfl rfl (dv_src (by assumption)) ?_
                refine fd_eqA rfl rfl (by assumption) (by assumption) (by assumption) ?_
                refine fd_run 1 rfl ?_
                refine fd_done rfl rfl ?_
                refine g_run 1 rfl ?_
                exact g_join () trivial (fun a F => F.only [121, 15, 12, 4, 6, 7, 8, 10] rfl) (by (try dsimp only); repeat (first | exact .refl _ | with_reducible exact List.nil_sublist _ | with_reducible apply List.Sublist.cons_cons | apply List.Sublist.cons))
        rintro _ _
        clear q1 q2 g2 g3 g4 g5 g6 m3 m4 m5 m6
        cases hsm : (marked && sameV y.to mark)
        · dsimp only
          rw [if_neg (by simp)]
          refine g_run 10 rfl ?_
          refine g_loop (ι := Nat × InsV) ⟨fun (i, c) => (y :: ys).length - i, fun (i, c) => i ≤ (y :: ys).length ∧ c = cheap ((y :: ys).take i) y, fun (i, c) => [(134, .int .i64 i), (133, .int .i64 (y :: ys).length), (132, .slice (some ⟨bN, 0, none⟩) (y :: ys).length cN), (15, .pointer (some ⟨b15, 0, none⟩)), (10, .pointer (some ⟨b10, 0, none⟩))], fun (i, c) => [[(b15, .cells (inC c).toArray 50 (0, 0))], [(bN, .cells (insC (y :: ys) ++ junk).toArray 50 (0, 0))], [(b10, .cells inZ.toArray 50 (0, 0))]]⟩ (0, y) ⟨by omega, rfl⟩ (fun a F => F.only [134, 133, 132, 15, 10] rfl) (by repeat (first | exact .refl _ | apply List.Sublist.cons_cons | apply List.Sublist.cons)) ?_
          rintro ⟨j, c⟩ ⟨hj, hc⟩
          dsimp only
          have cI : IsIn c := by rw [hc]; exact cheap_p (fun x hx => hnI x (List.mem_of_mem_take hx)) hyv
          by_cases hlt_j : j < (y :: ys).length
          · have gi : seg (insC (y :: ys) ++ junk) (0 + (j : Int).toNat * 40) 40 = some (inC (y :: ys)[j]) := own_el hsz junk hlt_j (by omega)
            have xI := hnI _ (List.getElem_mem hlt_j)
            have hch := cheap_step (y := y) hlt_j
            rw [← hc] at hch
            obtain ⟨x, hx0⟩ : ∃ x, x = (y :: ys)[j] := ⟨_, rfl⟩
            rw [← hx0] at gi xI hch
            clear hc hx0
            by_cases k5 : x.own.met < c.own.met
            · rw [if_pos k5] at hch
              refine g_run 6 rfl ?_
              refine g_ifT rfl (decide_eq_true (by omega)) ?_
              refine g_run 6 rfl ?_
              refine g_ixS rfl rfl (by omega) (by omega) ?_
              refine g_ldA 1 rfl rfl (by with_reducible assumption) ?_
              refine g_alloc fun b18 => ?_
              refine g_stA 0 rfl rfl (in_len (by assumption)) (in_one _) rfl (put_all (by rw [in_len (by assumption)]; first | rfl | rw [in_len (by assumption)])) rfl ?_
              refine g_run 6 rfl ?_
              refine g_ld1 0 rfl rfl (in_own_met (by assumption)) ?_
              refine g_run 2 rfl ?_
              refine g_ld1 1 rfl rfl (in_own_met (by assumption)) ?_
              refine g_run 3 rfl ?_
              refine g_ifT rfl (decide_eq_true (by omega)) ?_
              refine g_run 1 rfl ?_
              refine g_ldA 0 rfl rfl (in_all (by assumption)) ?_
              refine g_stA 1 rfl rfl (in_len (by assumption)) (in_one _) rfl (put_all (by rw [in_len (by assumption)]; first | rfl | rw [in_len (by assumption)])) rfl ?_
              refine g_run 4 rfl ?_
              refine g_add rfl rfl (w_i64 (by omega) (by omega)) ?_
              refine g_run 2 rfl ?_
              exact g_next (j + 1, x) ⟨by omega, hch.symm⟩ (by dsimp only; omega) (fun a F => F.only [134, 133, 132, 15, 10] rfl) (by (try dsimp only); repeat (first | exact .refl _ | with_reducible exact List.nil_sublist _ | with_reducible apply List.Sublist.cons_cons | apply List.Sublist.cons))
            · rw [if_neg k5] at hch
              refine g_run 6 rfl ?_
              refine g_ifT rfl (decide_eq_true (by omega)) ?_
              refine g_run 6 rfl ?_
              refine g_ixS rfl rfl (by omega) (by omega) ?_
              refine g_ldA 1 rfl rfl (by with_reducible assumption) ?_
              refine g_alloc fun b18 => ?_
              refine g_stA 0 rfl rfl (in_len (by assumption)) (in_one _) rfl (put_all (by rw [in_len (by assumption)]; first | rfl | rw [in_len (by assumption)])) rfl ?_
              refine g_run 6 rfl ?_
              refine g_ld1 0 rfl rfl (in_own_met (by assumption)) ?_
              refine g_run 2 rfl ?_
              refine g_ld1 1 rfl rfl (in_own_met (by assumption)) ?_
              refine g_run 3 rfl ?_
              refine g_ifF rfl (decide_eq_false (by omega)) ?_
              refine g_run 4 rfl ?_
              refine g_add rfl rfl (w_i64 (by omega) (by omega)) ?_
              refine g_run 2 rfl ?_
              exact g_next (j + 1, c) ⟨by omega, hch.symm⟩ (by dsimp only; omega) (fun a F => F.only [134, 133, 132, 15, 10] rfl) (by (try dsimp only); repeat (first | exact .refl _ | with_reducible exact List.nil_sublist _ | with_reducible apply List.Sublist.cons_cons | apply List.Sublist.cons))
          · have hje : j = (y :: ys).length := by omega
            rw [hje, List.take_length] at hc
            refine g_run 6 rfl ?_
            refine g_ifF rfl (decide_eq_false (by omega)) ?_
            refine g_run 2 rfl ?_
            refine g_outX ?_
            refine g_run 1 rfl ?_
            exact g_join c ⟨cI, by rw [hc]⟩ (fun a F => F.only [15, 10] rfl) (by (try dsimp only); repeat (first | exact .refl _ | with_reducible exact List.nil_sublist _ | with_reducible apply List.Sublist.cons_cons | apply List.Sublist.cons))
        · dsimp only
          rw [if_pos rfl]
          have hcl : ∀ w, Mem [] W w (List.flatten [[(b15, .cells (inC y).toArray 50 (0, 0))], [(bN, .cells (insC (y :: ys) ++ junk).toArray 50 (0, 0))], [(b10, .cells inZ.toArray 50 (0, 0))], [(b8, .cells (dvC mark).toArray 45 (0, 0))], [(b7, .cells (ipC dst).toArray 39 (0, 0))], [(b6, .cells (ipC src).toArray 39 (0, 0))]]) → ∀ w' (e : InsV), Ext [] w w' → e ∈ y :: ys → Cal Tryz.prog 110 [.agg (inC e).toArray, .pointer (some ⟨b8, 0, none⟩)].toArray w' fun v w'' => v = .bool (decide (e.to = mark)) ∧ Ext [] w' w'' := fun w M w' e E he =>
            lookup1_c e (hnI e he) mark hmk w' ((M.later E).at_ _ (nthO_mem (l := [[(b15, .cells (inC y).toArray 50 (0, 0))], [(bN, .cells (insC (y :: ys) ++ junk).toArray 50 (0, 0))], [(b10, .cells inZ.toArray 50 (0, 0))], [(b8, .cells (dvC mark).toArray 45 (0, 0))], [(b7, .cells (ipC dst).toArray 39 (0, 0))], [(b6, .cells (ipC src).toArray 39 (0, 0))]]) (i := 3) rfl))
          refine g_run 5 rfl ?_
          refine g_v (fun a w F M R r => o_makeFunc (F.evs (xs := []) rfl) (F.evs (xs := [.tmp 8]) rfl) r) ?_
          refine g_call rfl rfl (fun w M => indexI_c (ls := y :: ys) w (hO.slAt M (fun p hp => by simp at hp; simp [hp])) hnI (by omega) 110 [.pointer (some ⟨b8, 0, none⟩)] (fun e => decide (e.to = mark)) (hcl w M)) ?_
          rcases findI_find (p := fun e : InsV => decide (e.to = mark)) (ls := y :: ys) with ⟨h1, h2⟩ | ⟨i, hi, h1, h2⟩
          · rw [h1]
            refine g_run 13 rfl ?_
            refine g_v (fun a w F M R r => o_build F rfl (by assumption) r) ?_
            refine g_stA 2 rfl rfl (in_len (by assumption)) (in_one _) rfl (put_all (by rw [in_len (by assumption)]; first | rfl | rw [in_len (by assumption)])) rfl ?_
            refine g_run 5 rfl ?_
            refine g_jR ?_
            refine g_run 1 rfl ?_
            refine g_retC2 2 rfl rfl rfl rfl (in_all (by assumption)) rfl fun w M => ?_
            exact tup_in (by rw [h2]; rfl) M.ext
          · rw [h1]
            have gi : seg (insC (y :: ys) ++ junk) (0 + (i : Int).toNat * 40) 40 = some (inC (y :: ys)[i]) := own_el hsz junk hi (by omega)
            have cI := hnI _ (List.getElem_mem hi)
            obtain ⟨c, hc⟩ : ∃ c, c = (y :: ys)[i] := ⟨_, rfl⟩
            rw [← hc] at gi cI h2
            refine g_run 16 rfl ?_
            refine g_ixS rfl rfl (by omega) (by omega) ?_
            refine g_ldA 1 rfl rfl (by with_reducible assumption) ?_
            refine g_stA 0 rfl rfl (in_len (by assumption)) (in_one _) rfl (put_all (by rw [in_len (by assumption)]; first | rfl | rw [in_len (by assumption)])) rfl ?_
            refine g_run 1 rfl ?_
            exact g_join c ⟨cI, by rw [h2]⟩ (fun a F => F.only [15, 10] rfl) (by (try dsimp only); repeat (first | exact .refl _ | with_reducible exact List.nil_sublist _ | with_reducible apply List.Sublist.cons_cons | apply List.Sublist.cons))
      rintro c ⟨cI, hE⟩
      rw [hE]
      by_cases k9 : c.nb = 0
      · have k8 : (!decide (c.nb = 0)) = false := by simp [k9]
        refine g_run 4 rfl ?_
        refine g_ldA 0 rfl rfl (in_all (by assumption)) ?_
        refine g_call rfl rfl (fun w M => rtreach_c _ (by assumption) _) ?_
        refine g_run 3 rfl ?_
        refine g_ifT rfl (notT (by assumption)) ?_
        refine g_run 2 rfl ?_
        refine g_v (fun a w F M R r => o_build F rfl (by assumption) r) ?_
        refine g_stA 1 rfl rfl (in_len (by assumption)) (in_one _) rfl (put_all (by rw [in_len (by assumption)]; first | rfl | rw [in_len (by assumption)])) rfl ?_
        refine g_run 5 rfl ?_
        refine g_retC2 1 rfl rfl rfl rfl (in_all (by assumption)) rfl fun w M => ?_
        exact tup_in (by unfold endN; simp [k9]) M.ext
      · have k8 : (!decide (c.nb = 0)) = true := by simp [k9]
        refine g_run 4 rfl ?_
        refine g_ldA 0 rfl rfl (in_all (by assumption)) ?_
        refine g_call rfl rfl (fun w M => rtreach_c _ (by assumption) _) ?_
        refine g_run 3 rfl ?_
        refine g_ifF rfl (notF (by assumption)) ?_
        refine g_run 4 rfl ?_
        refine g_ldA 0 rfl rfl (in_all (by assumption)) ?_
        refine g_stA 1 rfl rfl (in_len (by assumption)) (in_one _) rfl (put_all (by rw [in_len (by assumption)]; first | rfl | rw [in_len (by assumption)])) rfl ?_
        refine g_run 4 rfl ?_
        refine g_retC2 1 rfl rfl rfl rfl (in_all (by assumption)) rfl fun w M => ?_
        exact tup_in (by unfold endN; simp [k9]) M.ext
end Go.Proofs.YtilgoepokaaleaaGreat
/-! Y8 -/
namespace Go.Proofs.YtilgoepokaaleaaGreat
set_option linter.unusedVariables false
set_option linter.unusedSimpArgs false
open Go.RowKit
attribute [local irreducible] OpTo wpListIn Code.wpIn MW Cal
/-! the reference's steps through both lists -/
def x0 : AdvV := ⟨⟨[], 0, [], 0, 0⟩, ⟨0, 0⟩⟩
def LoK (T l : List AdvV) (i k : Nat) : Prop := ∀ j (hj : j < T.length) i' (hi : i' < l.length), j < k → i ≤ i' → cmpD T[j].to l[i'].to < 0
theorem asc_at {l : List AdvV} (h : AscA l) {i j : Nat} (hi : i < l.length) (hj : j < l.length) (hij : i < j) : cmpD l[i].to l[j].to < 0 := List.pairwise_iff_getElem.1 h i j hi hj hij
theorem LoK.next {T l : List AdvV} {i k : Nat} (h : LoK T l i k) : LoK T l (i + 1) k := fun j hj i' hi h1 h2 => h j hj i' hi h1 (by omega)
theorem LoK.skip {T l : List AdvV} {i k : Nat} (h : LoK T l i k) (hl : AscA l) (hk : k < T.length) (hlt : ∀ hi : i < l.length, cmpD T[k].to l[i].to < 0) : LoK T l i (k + 1) := fun j hj i' hi' h1 h2 => by
  rcases Nat.lt_or_ge j k with h3 | h3
  · exact h j hj i' hi' h3 h2
  · obtain rfl : j = k := by omega
    rcases Nat.lt_or_ge i i' with h4 | h4
    · exact cmpD_trans (hlt (by omega)) (asc_at hl (by omega) hi' h4)
    · obtain rfl : i = i' := by omega
      exact hlt hi'
theorem Mem.empty (w : World) : Mem [] w w [] := ⟨Ext.refl _ _, fun p hp => (by cases hp), by simp, fun p hp => (by cases hp)⟩
end Go.Proofs.YtilgoepokaaleaaGreat
/-! Y9 -/
namespace Go.Proofs.YtilgoepokaaleaaGreat
set_option linter.unusedVariables false
set_option linter.unusedSimpArgs false
open Go.RowKit
attribute [local irreducible] OpTo wpListIn Code.wpIn MW Cal
theorem MapIn.mk {κ : Type} {w : World} {kv : κ → Value} {b : Nat} {o : Obj} {m : List (κ × Value)} (h : w.heap[b]? = some o) (hA : MapAt kv m o) : MapIn w kv (.map (some b)) m := ⟨b, o, rfl, h, hA⟩
end Go.Proofs.YtilgoepokaaleaaGreat
/-! YD -/
namespace Go.Proofs.YtilgoepokaaleaaGreat
set_option linter.unusedVariables false
set_option linter.unusedSimpArgs false
open Go.RowKit
attribute [local irreducible] OpTo wpListIn Code.wpIn MW Cal
/-! Vary -/
def VarI (l s m : List AdvV) : Prop := (m.map AdvV.to).Sublist (s.map AdvV.to) ∧ ∀ y ∈ m, IsAv y ∧ (validM y.own.met = true ∨ ∃ z ∈ l, z.own = y.own)
theorem VarI.add {l s m : List AdvV} {x y : AdvV} (h : VarI l s m) (e : y.to = x.to) (hy : IsAv y ∧ (validM y.own.met = true ∨ ∃ z ∈ l, z.own = y.own)) : VarI l (s ++ [x]) (m ++ [y]) := by
  refine ⟨?_, fun z hz => ?_⟩
  · rw [List.map_append, List.map_append, List.map_singleton, List.map_singleton, e]
    exact h.1.append (List.Sublist.refl _)
  · rcases List.mem_append.1 hz with h1 | h1
    · exact h.2 z h1
    · simp only [List.mem_singleton] at h1
      rw [h1]; exact hy
theorem VarI.skip {l s m : List AdvV} {x : AdvV} (h : VarI l s m) : VarI l (s ++ [x]) m := ⟨by rw [List.map_append]; exact h.1.trans (List.sublist_append_left _ _), h.2⟩
end Go.Proofs.YtilgoepokaaleaaGreat
/-! YE -/
namespace Go.Proofs.YtilgoepokaaleaaGreat
set_option linter.unusedVariables false
set_option linter.unusedSimpArgs false
open Go.RowKit
attribute [local irreducible] OpTo wpListIn Code.wpIn MW Cal
def SlV (n : Nat) (cs : List Value) : Pred := fun v w => SlAt w 37 v n cs
theorem SlV.stays (n : Nat) (cs : List Value) : Stays keepAll (SlV n cs) := fun _ _ _ h E => SlAt.later h E
/-! alike -/
end Go.Proofs.YtilgoepokaaleaaGreat
/-! YL -/
namespace Go.Proofs.YtilgoepokaaleaaGreat
set_option linter.unusedVariables false
set_option linter.unusedSimpArgs false
open Go.RowKit
attribute [local irreducible] OpTo wpListIn Code.wpIn MW Cal
/-- one block may be turned, but keeps C -/
def keepRv (b : Nat) (t : TypeId) (C : List Value → Prop) : Keep where
  r := Ext []
  e w w' := Ext [b] w w' ∧ ∀ cs, C cs → w.heap[b]? = some (.cells cs.toArray t (0, 0)) → ∃ cs', C cs' ∧ w'.heap[b]? = some (.cells cs'.toArray t (0, 0))
  refl w := Ext.refl [] w
  re h := ⟨h.any, fun cs hc hb => ⟨cs, hc, by rw [h.block b (Array.getElem?_eq_some_iff.1 hb).1 (by simp)]; exact hb⟩⟩
  trans h k := ⟨h.1.trans k.1, fun cs hc hb => by
    obtain ⟨c1, h1, h2⟩ := h.2 cs hc hb
    exact k.2 c1 h1 h2⟩
  size h := h.1.size
def RvC {α : Type} (Is : α → Prop) (enc : α → List Value) (n : Nat) (junk : List Value) (cs : List Value) : Prop := ∃ l : List α, l.length = n ∧ (∀ x ∈ l, Is x) ∧ cs = encL enc l ++ junk
def ElP {α : Type} (Is : α → Prop) (enc : α → List Value) : Pred := fun v _ => ∃ x, Is x ∧ v = .agg (enc x).toArray
theorem ElP.stays {α : Type} {Is : α → Prop} {enc : α → List Value} (K : Keep) : Stays K (ElP Is enc) := fun _ _ _ h _ => h
theorem mem_set {α : Type} {Is : α → Prop} {l : List α} {q : Nat} {x : α} (h : ∀ y ∈ l, Is y) (hx : Is x) : ∀ y ∈ l.set q x, Is y := fun y hy => by
  rcases List.mem_or_eq_of_mem_set hy with h1 | rfl
  · exact h y h1
  · exact hx
theorem kS_ip : IsIP [255, 0, 0, 0, 0, 0, 0, 0, 0, 0, 0, 0, 0, 0, 0, 0] := ⟨rfl, by intro x hx; simp at hx; omega⟩
def kSI : InsV := ⟨⟨[255, 0, 0, 0, 0, 0, 0, 0, 0, 0, 0, 0, 0, 0, 0, 0], 8, nul16, 0, 1⟩, 1, di0, -1, 0⟩
set_option maxHeartbeats 4000000 in
theorem reverseI_c {l : List InsV} (hx : ∀ x ∈ l, IsIn x) (hlen : l.length ≤ 100000) {b cp : Nat} (junk : List Value) (W : World) (hb : W.heap[b]? = some (.cells (insC l ++ junk).toArray 50 (0, 0))) :
    Cal Tryz.prog 65 [.slice (some ⟨b, 0, none⟩) l.length cp].toArray W fun _ w' => ∃ l', l'.length = l.length ∧ (∀ x ∈ l', IsIn x) ∧ Mem [b] W w' [(b, .cells (insC l' ++ junk).toArray 50 (0, 0))] := by
  refine fn_ofM (n := 28) [b] Tryz.func65 rfl rfl rfl ?_
  intro a w F M hwW
  replace M := M.came hwW hb (by simp) (by simp)
  clear hb
  refine c_seq (c_region ?_)
  refine sD F (o_move (F.ev rfl) ?_); clear F a; intro a F
  refine sD F (o_lenSl (F.ev rfl) ?_); clear F a; intro a F
  refine sD F (o_sub (F.ev rfl) (F.ev rfl) (w_i64 (by omega) (by omega)) ?_); clear F a; intro a F
  refine sD F (o_assign (F.ev rfl) ?_); clear F a; intro a F
  refine sD F (o_assign (F.ev rfl) ?_); clear F a; intro a F
  with_reducible refine l_nil (q_then (c_block ?_))
  refine c_loop (fun m a w => ∃ (i : Nat) (j : Int) (l' : List InsV), m = (j + 1 - i).toNat ∧ j < l.length ∧ -1 ≤ j ∧ l'.length = l.length ∧ (∀ x ∈ l', IsIn x) ∧ Frm a 28 [] [(2, .int .i64 i), (3, .int .i64 j), (0, .slice (some ⟨b, 0, none⟩) l.length cp)] ∧ Mem [b] W w [(b, .cells (insC l' ++ junk).toArray 50 (0, 0))]) _ ⟨0, (l.length : Int) - 1, l, rfl, by omega, by omega, rfl, hx, F.only [2, 3, 0] rfl, M⟩ ?_
  clear F M a
  rintro m a w ⟨i, j, l1, rfl, hj1, hj0, hl1, hx1, F, M⟩
  by_cases hlt : (i : Int) < j
  · refine c_seq ?_
    refine c_seq (c_region ?_)
    refine sD F (o_move (F.ev rfl) ?_); clear F a; intro a F
    refine sD F (o_move (F.ev rfl) ?_); clear F a; intro a F
    refine sD F (o_lssT (F.ev rfl) (F.ev rfl) (by omega) ?_); clear F a; intro a F
    with_reducible refine l_nil (q_then ?_)
    refine c_true F rfl rfl ?_
    with_reducible refine c_skip (q_then (c_seq (c_block ?_)))
    replace F := F.only [2, 3, 0] rfl
    · refine c_drawK (keepRv b 50 (RvC IsIn inC l.length junk)) [13, 15] [] noT 16 F (by kernel_rfl) rfl (fun h => absurd rfl h) (fun h => absurd rfl h) (noT.stays _) (fun _ _ _ => trivial) ?_
      intro w1 hE hsz hok hef
      have M1 := M.later hE
      have blk : ∀ w', (keepRv b 50 (RvC IsIn inC l.length junk)).e w1 w' → ∃ cs, RvC IsIn inC l.length junk cs ∧ w'.heap[b]? = some (.cells cs.toArray 50 (0, 0)) := fun w' e => e.2 _ ⟨l1, hl1, hx1, rfl⟩ (M1.heap .here)
      refine mK hok rfl rfl (fun a' w' F' E' => o_move (F'.ev rfl) ⟨Ext.refl _ _, rfl⟩) ?_
      refine mK hok rfl rfl (fun a' w' F' E' => o_move (F'.ev rfl) ⟨Ext.refl _ _, rfl⟩) ?_
      refine mK hok rfl rfl (fun a' w' F' E' => o_move (F'.ev rfl) ⟨Ext.refl _ _, rfl⟩) ?_
      refine mK hok rfl rfl (fun a' w' F' E' => o_move (F'.ev rfl) ⟨Ext.refl _ _, rfl⟩) ?_
      refine mK hok rfl rfl (fun a' w' F' E' => o_move (F'.ev rfl) ⟨Ext.refl _ _, rfl⟩) ?_
      refine mK hok rfl rfl (fun a' w' F' E' => o_move (F'.ev rfl) ⟨Ext.refl _ _, rfl⟩) ?_
      refine mK hok rfl rfl (fun a' w' F' E' => o_indexSl (F'.ev rfl) (F'.ev rfl) (by omega) (by omega) ⟨Ext.refl _ _, rfl⟩) ?_
      refine mX (V := ElP IsIn inC) hok rfl rfl (ElP.stays _) (fun a' w' F' E' D' => by
        obtain ⟨cs, ⟨l', h1, h2, rfl⟩, hh⟩ := blk w' E'
        exact o_loadHA (F'.ev rfl) hh (own_el (ins_len h2) junk (i := j.toNat) (by omega) (by omega)) ⟨Ext.refl _ _, _, h2 _ (List.getElem_mem _), rfl⟩) ?_
      refine mK hok rfl rfl (fun a' w' F' E' => o_move (F'.ev rfl) ⟨Ext.refl _ _, rfl⟩) ?_
      refine mK hok rfl rfl (fun a' w' F' E' => o_move (F'.ev rfl) ⟨Ext.refl _ _, rfl⟩) ?_
      refine mK hok rfl rfl (fun a' w' F' E' => o_indexSl (F'.ev rfl) (F'.ev rfl) (by omega) (by omega) ⟨Ext.refl _ _, rfl⟩) ?_
      refine mX (V := ElP IsIn inC) hok rfl rfl (ElP.stays _) (fun a' w' F' E' D' => by
        obtain ⟨cs, ⟨l', h1, h2, rfl⟩, hh⟩ := blk w' E'
        exact o_loadHA (F'.ev rfl) hh (own_el (ins_len h2) junk (i := i) (by omega) (by omega)) ⟨Ext.refl _ _, _, h2 _ (List.getElem_mem _), rfl⟩) ?_
      refine mK hok rfl rfl (fun a' w' F' E' => o_indexSl (F'.ev rfl) (F'.ev rfl) (by omega) (by omega) ⟨Ext.refl _ _, rfl⟩) ?_
      refine mENX (V := fun _ _ => True) (T' := noT) hok rfl (fun _ _ _ _ _ => trivial) (noT.stays _) (fun a' w' σ' F' E' D' S' T' => by
        obtain ⟨x, hx1, e⟩ := D' 7 (memDep rfl) (ElP IsIn inC) (by kernel_rfl)
        have F2 := F'.know (d := 21) e
        obtain ⟨cs, ⟨l', h1, h2, rfl⟩, hh⟩ := blk w' E'
        exact o_storeA ((Mem.start [b] w').came rfl hh (by simp) (by simp)) (F2.ev rfl) (F2.ev rfl) (in_len hx1) (in_one x) .here (encL_put (enc := inC) (ins_len h2) junk (i := i) (by omega) (put_all (by rw [in_len hx1, in_len (h2 _ (List.getElem_mem _))])) (by omega)) .here fun w'' M' => ⟨⟨M'.ext, fun _ _ _ => ⟨_, ⟨_, by simpa using h1, mem_set h2 hx1, rfl⟩, M'.heap .here⟩⟩, trivial, trivial⟩) ?_
      refine mK hok rfl rfl (fun a' w' F' E' => o_indexSl (F'.ev rfl) (F'.ev rfl) (by omega) (by omega) ⟨Ext.refl _ _, rfl⟩) ?_
      refine mENX (V := fun _ _ => True) (T' := noT) hok rfl (fun _ _ _ _ _ => trivial) (noT.stays _) (fun a' w' σ' F' E' D' S' T' => by
        obtain ⟨x, hx1, e⟩ := D' 11 (memDep rfl) (ElP IsIn inC) (by kernel_rfl)
        have F2 := F'.know (d := 25) e
        obtain ⟨cs, ⟨l', h1, h2, rfl⟩, hh⟩ := blk w' E'
        exact o_storeA ((Mem.start [b] w').came rfl hh (by simp) (by simp)) (F2.ev rfl) (F2.ev rfl) (in_len hx1) (in_one x) .here (encL_put (enc := inC) (ins_len h2) junk (i := j.toNat) (by omega) (put_all (by rw [in_len hx1, in_len (h2 _ (List.getElem_mem _))])) (by omega)) .here fun w'' M' => ⟨⟨M'.ext, fun _ _ _ => ⟨_, ⟨_, by simpa using h1, mem_set h2 hx1, rfl⟩, M'.heap .here⟩⟩, trivial, trivial⟩) ?_
      refine mDone rfl hef ?_
      clear F M
      intro a w F hE2 hX MT hDD hPP
      obtain ⟨cs, ⟨l2, h1, h2, rfl⟩, hh⟩ := blk w hE2
      have M : Mem [b] W w [(b, .cells (insC l2 ++ junk).toArray 50 (0, 0))] := M1.turned .here hE2.1 hh
      clear hX hDD hPP MT hE2 M1 hE hsz hok hef blk hh
      (try dsimp only at F)
      with_reducible refine l_nil (q_inB (q_then (c_region ?_)))
      refine sD F (o_move (F.ev rfl) ?_); clear F a; intro a F
      refine sD F (o_add (F.ev rfl) (F.ev rfl) (w_i64 (by omega) (by omega)) ?_); clear F a; intro a F
      refine sD F (o_move (F.ev rfl) ?_); clear F a; intro a F
      refine sD F (o_sub (F.ev rfl) (F.ev rfl) (w_i64 (by omega) (by omega)) ?_); clear F a; intro a F
      refine sD F (o_assign (F.ev rfl) ?_); clear F a; intro a F
      refine sD F (o_assign (F.ev rfl) ?_); clear F a; intro a F
      with_reducible refine l_nil (q_then ?_)
      exact ⟨_, by omega, i + 1, j - 1, l2, rfl, by omega, by omega, h1, h2, F.only [2, 3, 0] rfl, M⟩
  · refine c_seq ?_
    refine c_seq (c_region ?_)
    refine sD F (o_move (F.ev rfl) ?_); clear F a; intro a F
    refine sD F (o_move (F.ev rfl) ?_); clear F a; intro a F
    refine sD F (o_lssF (F.ev rfl) (F.ev rfl) (by omega) ?_); clear F a; intro a F
    with_reducible refine l_nil (q_then ?_)
    refine c_false F rfl rfl ?_
    with_reducible refine c_exit (q_thenX (q_thenX (q_inBX ?_)))
    refine p_ret F rfl .nil ?_
    exact ⟨l1, hl1, hx1, M⟩
set_option maxHeartbeats 2000000 in
theorem cloneI_c (l : List InsV) (hlen : l.length ≤ 100000) (v : Value) (W : World) (hS : SlAt W 40 v l.length (insC l)) :
    Cal Tryz.prog 64 [v].toArray W fun r w' => ∃ ent, OwnS 50 40 r l.length (insC l) ent ∧ (∀ b o s c, r = .slice (some ⟨b, o, s⟩) l.length c → l.length = 0 → c = 0) ∧ Mem [] W w' ent := by
  obtain ⟨q, cap, hq, _⟩ := id hS
  cases q with
  | none =>
    have hn : l.length = 0 := by
      obtain ⟨q', cap', h2, _, _, _, h3⟩ := hS
      rw [hq] at h2
      cases h2
      rcases Nat.eq_zero_or_pos l.length with h | h
      · exact h
      · obtain ⟨_, _, _, _, _, h4, _⟩ := h3 h
        cases h4
    have hxs : l = [] := List.length_eq_zero_iff.1 hn
    subst hxs
    rw [hq]
    refine fn_ofM (n := 8) [] Tryz.func64 rfl rfl rfl ?_
    intro a w F M hwW
    refine c_seq (c_region ?_)
    refine sD F (o_assign (F.ev rfl) ?_); clear F a; intro a F
    with_reducible refine l_nil (q_then (c_seq (c_seq (c_region ?_))))
    refine sD F (o_move (F.ev rfl) ?_); clear F a; intro a F
    (refine sD F (o_eqlNil (F.ev rfl) (F.ev rfl) ?_); clear F a; intro a F)
    with_reducible refine l_nil (q_then ?_)
    refine c_true F rfl rfl ?_
    refine c_seq (c_region ?_)
    refine sD F (o_assign (F.ev rfl) ?_); clear F a; intro a F
    with_reducible refine l_nil (q_then (c_ret (q_thenR ?_)))
    refine p_ret F rfl (.cons (.tmp (F.ev rfl)) .nil) ?_
    exact ⟨[], OwnS.nil _ _, fun b o s c h => (by cases h), M⟩
  | some a0 =>
    rw [hq] at hS ⊢
    refine fn_ofM (n := 8) [] Tryz.func64 rfl rfl rfl ?_
    intro a w F M hwW
    refine c_seq (c_region ?_)
    refine sD F (o_assign (F.ev rfl) ?_); clear F a; intro a F
    with_reducible refine l_nil (q_then (c_seq (c_seq (c_region ?_))))
    refine sD F (o_move (F.ev rfl) ?_); clear F a; intro a F
    (refine sD F (o_eqlNil (F.ev rfl) (F.ev rfl) ?_); clear F a; intro a F)
    with_reducible refine l_nil (q_then ?_)
    refine c_false F rfl rfl ?_
    with_reducible refine c_skip (q_then (c_seq (c_region ?_)))
    (refine sD F (o_buildSlice F M rfl rfl rfl rfl ?_); clear F M; intro b5 w M a F)
    refine sD F (o_move (F.ev rfl) ?_); clear F a; intro a F
    have hSw := hS.later M.ext
    by_cases hn : l.length = 0
    · have hxs : l = [] := List.length_eq_zero_iff.1 hn
      subst hxs
      (refine sD F (o_append0 (F.ev rfl) (F.ev rfl) (by omega) (hSw.src (by simp [encL])) ?_); clear F a; intro a F)
      refine sD F (o_assign (F.ev rfl) ?_); clear F a; intro a F
      with_reducible refine l_nil (q_then (c_ret ?_))
      refine p_ret F rfl (.cons (.tmp (F.ev rfl)) .nil) ?_
      exact ⟨[(b5, _)], .inr ⟨b5, 0, [], rfl, rfl, by simp [encL], by simp, by simp⟩, fun b o s c h _ => (by cases h; rfl), M⟩
    · have hO5 : OwnS 50 40 (.slice (some ⟨b5, 0, none⟩) 0 0) 0 [] [(b5, .cells ([] : List Value).toArray 50 (0, 0))] := .inr ⟨b5, 0, [], rfl, rfl, by simp, by simp, by simp⟩
      (refine sD F (o_append hO5 M .here (F.ev rfl) (F.ev rfl) (hSw.src ins_one) (by omega) (by omega) ?_); clear F M; intro u ent w hO M a F)
      rw [Nat.zero_add, List.nil_append] at hO
      refine sD F (o_assign (F.ev rfl) ?_); clear F a; intro a F
      with_reducible refine l_nil (q_then (c_ret ?_))
      refine p_ret F rfl (.cons (.tmp (F.ev rfl)) .nil) ?_
      exact ⟨ent, hO, fun b o s c _ h => absurd h hn, M⟩
set_option maxHeartbeats 16000000 in
theorem spoiledI_c {bt : Nat} {p : Option Addr} {len cap k : Nat} {xs : List Int} (l : List InsV) (hx : ∀ x ∈ l, IsIn x) (hlen : l.length ≤ 1000) (v : Value) (W : World) (hS : SlAt W 40 v l.length (insC l)) (hnb : ∀ b o s k c, v = .slice (some ⟨b, o, s⟩) k c → b ∉ [bt]) (hT : TapeS W bt p len xs) (hb : W.heap[bt]? = some (tobj p len cap k)) :
    Cal Tryz.prog 25 [.pointer (some ⟨bt, 0, none⟩), v].toArray W fun r w' => ∃ (m : List InsV) (k' : Nat), SlN W.heap.size w' 40 r m.length (insC m) ∧ (∀ x ∈ m, IsIn x) ∧ m.length ≤ l.length + 1 ∧ Mem [bt] W w' [(bt, tobj p len cap k')] := by
  have hbt : bt < W.heap.size := (Array.getElem?_eq_some_iff.1 hb).1
  have kI : IsIn kSI := ⟨⟨kS_ip, nul16_is⟩, trivial⟩
  refine fn_ofM (n := 63) [bt] Tryz.func25 rfl rfl rfl ?_
  intro a w F M hwW
  replace M := M.came hwW hb (by simp) (by simp)
  refine c_seq (c_region ?_)
  refine sD F (o_assign (F.ev rfl) ?_); clear F a; intro a F
  with_reducible refine l_nil (q_then (c_seq (c_region ?_)))
  refine sD F (o_move (F.ev rfl) ?_); clear F a; intro a F
  (refine sD F (o_call (F.ev rfl) (F.evs rfl) (Cal.mono (cloneI_c l (by omega) v _ (hS.laterB hnb M.ext) ) ?_)); clear F; clear a; rintro _ w ⟨es, hO, _, N⟩ a F; replace M := M.joins N; clear N)
  obtain ⟨p0, c0, rfl⟩ := hO.slice
  replace M := M.perm (l' := (bt, tobj p len cap k) :: es) (by classical exact List.perm_iff_count.2 fun _ => by simp only [List.count_append, List.count_cons, List.count_nil, Nat.add_zero, Nat.zero_add] <;> ac_rfl)
  refine sD F (o_build F rfl rfl ?_); clear F a; intro a F
  refine sD F (o_build F rfl rfl ?_); clear F a; intro a F
  refine sD F (o_build F rfl rfl ?_); clear F a; intro a F
  refine sD F (o_build F rfl rfl ?_); clear F a; intro a F
  (refine sD F (o_buildSlice F M rfl rfl rfl (in_build1 kI) ?_); clear F M; intro b13 w M a F)
  (refine sD F (o_append hO M (.cons (.cons .here)) (F.ev rfl) (F.ev rfl) (SrcOf.cells' (M.heap .here) (sg_all (in_len kI)) (in_one _)) (by omega) (by omega) ?_); clear F M; intro u es1 w hO1 M a F)
  replace hO1 : OwnS 50 40 u (l ++ [kSI]).length (insC (l ++ [kSI])) es1 := by
    show OwnS _ 40 _ (l ++ [kSI]).length (encL inC (l ++ [kSI])) _
    rw [show (l ++ [kSI]).length = l.length + 1 by simp, encL_app, encL_one]
    exact hO1
  have hoi : ∀ y ∈ l ++ [kSI], IsIn y := fun y hy => by
    rcases List.mem_append.1 hy with h | h
    · exact hx y h
    · simp only [List.mem_singleton] at h
      rw [h]; exact kI
  have hol : (l ++ [kSI]).length = l.length + 1 := by simp
  generalize l ++ [kSI] = out at *
  rcases hO1 with ⟨_, h0, _, _⟩ | ⟨b, cp, junk, rfl, rfl, hxl, hjl, hnc⟩
  · omega
  replace M := M.sub (l' := [(bt, tobj p len cap k), (b, .cells (insC out ++ junk).toArray 50 (0, 0))]) (.cons _ (.refl _))
  replace F := F.only [14, 0] rfl
  have hol2 : (0 : Int) < out.length := by omega
  refine sD F (o_assign (F.ev rfl) ?_); clear F a; intro a F
  with_reducible refine l_nil (q_then (c_seq (c_region ?_)))
  refine sD F (o_move (F.ev rfl) ?_); clear F a; intro a F
  refine sD F (o_move (F.ev rfl) ?_); clear F a; intro a F
  refine sD F (o_move (F.ev rfl) ?_); clear F a; intro a F
  refine sD F (o_lenSl (F.ev rfl) ?_); clear F a; intro a F
  (refine sD F (o_call (F.ev rfl) (F.evs rfl) (Cal.mono (nextE_c out.length hol2 (by omega) _ (hT.later M.ext) (M.heap .here) ) ?_)); clear F; clear a; have M0 := M; clear M; rintro _ w ⟨q, k2, rfl, hq, N⟩ a F)
  replace M := M0.turn1 N .here
  clear M0 N
  obtain ⟨qn, rfl⟩ := Int.eq_ofNat_of_zero_le hq.1
  have hqn : qn < out.length := by omega
  have hqi : IsIn out[qn] := hoi _ (List.getElem_mem hqn)
  have hsz := ins_len hoi
  refine sD F (o_indexSl (F.ev rfl) (F.ev rfl) (by omega) (by omega) ?_); clear F a; intro a F
  refine sD F (o_assign (F.ev rfl) ?_); clear F a; intro a F
  with_reducible refine l_nil (q_then (c_seq (c_seq (c_region ?_))))
  refine sD F (o_move (F.ev rfl) ?_); clear F a; intro a F
  (refine sD F (o_call (F.ev rfl) (F.evs rfl) (Cal.mono (nextE_c 7 (by omega) (by omega) _ (hT.later M.ext) (M.heap .here) ) ?_)); clear F; clear a; have M0 := M; clear M; rintro _ w ⟨z, k3, rfl, hz, N⟩ a F)
  replace M := M0.turn1 N .here
  clear M0 N
  have fin : ∀ o' : List InsV, o'.length = out.length → (∀ y ∈ o', IsIn y) → OwnS 50 40 (.slice (some ⟨b, 0, none⟩) out.length cp) o'.length (insC o') [(b, .cells (insC o' ++ junk).toArray 50 (0, 0))] := fun o' e i => .inr ⟨b, cp, junk, by rw [e], rfl, encL_len (ins_len i), by rw [e]; exact hjl, by rw [e]; exact hnc⟩
  refine l_nil ?_
  refine q_then ?_
  repeat (refine c_seq ?_)
  refine c_cut (fun a w => ∃ (k4 : Nat) (m : List InsV), m.length = out.length ∧ (∀ x ∈ m, IsIn x) ∧ Frm a 63 [] [(5, .slice (some ⟨b, 0, none⟩) out.length cp)] ∧ Mem [bt] W w [(bt, tobj p len cap k4), (b, .cells (insC m ++ junk).toArray 50 (0, 0))]) ?_ ?_
  · by_cases z0 : z = 0
    · have ph : put (insC out ++ junk) (0 + (qn : Int).toNat * 40 + 35) [.int .u64 0] = some (insC (out.set qn { out[qn] with nb := 0 }) ++ junk) := encL_put (enc := inC) hsz junk hqn (in_put_nb hqi 0) (by omega)
      with_reducible refine c_block (c_seq (c_region ?_))
      refine sD F (o_eqlT (F.ev rfl) (F.ev rfl) (by omega) ?_); clear F a; intro a F
      refine sD F (o_assign (F.ev rfl) ?_); clear F a; intro a F
      with_reducible refine l_nil (q_then ?_)
      refine c_true F rfl rfl ?_
      refine c_region ?_
      refine sD F (o_move (F.ev rfl) ?_); clear F a; intro a F
      refine sD F (o_nilCheck (F.ev rfl) rfl ?_); clear F a; intro a F
      refine sD F (o_fieldAddr (F.ev rfl) ?_); clear F a; intro a F
      (refine stepN rfl F (o_store1 M (F.ev rfl) (F.ev rfl) rfl (by repeat constructor) (ph) (by repeat constructor) ?_); clear F M; intro w M a F)
      with_reducible refine l_nil (q_inB ?_)
      exact ⟨k3, _, by simp, mem_set hoi (x := { out[qn] with nb := 0 }) hqi, F.only [5] rfl, M⟩
    by_cases z1 : z = 1
    · have ph : put (insC out ++ junk) (0 + (qn : Int).toNat * 40 + 36 + 1) [.int .i64 65535] = some (insC (out.set qn { out[qn] with own := { out[qn].own with met := 65535 } }) ++ junk) := encL_put (enc := inC) hsz junk hqn (in_put_own_met hqi 65535) (by omega)
      with_reducible refine c_block (c_seq (c_region ?_))
      refine sD F (o_eqlF (F.ev rfl) (F.ev rfl) (by omega) ?_); clear F a; intro a F
      refine sD F (o_assign (F.ev rfl) ?_); clear F a; intro a F
      with_reducible refine l_nil (q_then ?_)
      refine c_false F rfl rfl ?_
      refine c_seq (c_region ?_)
      refine sD F (o_eqlT (F.ev rfl) (F.ev rfl) (by omega) ?_); clear F a; intro a F
      refine sD F (o_assign (F.ev rfl) ?_); clear F a; intro a F
      with_reducible refine l_nil (q_then ?_)
      refine c_true F rfl rfl ?_
      refine c_region ?_
      refine sD F (o_move (F.ev rfl) ?_); clear F a; intro a F
      refine sD F (o_nilCheck (F.ev rfl) rfl ?_); clear F a; intro a F
      refine sD F (o_fieldAddr (F.ev rfl) ?_); clear F a; intro a F
      refine sD F (o_fieldAddr (F.ev rfl) ?_); clear F a; intro a F
      (refine stepN rfl F (o_store1 M (F.ev rfl) (F.ev rfl) rfl (by repeat constructor) (ph) (by repeat constructor) ?_); clear F M; intro w M a F)
      with_reducible refine l_nil (q_inB ?_)
      exact ⟨k3, _, by simp, mem_set hoi (x := { out[qn] with own := { out[qn].own with met := 65535 } }) hqi, F.only [5] rfl, M⟩
    by_cases z2 : z = 2
    · refine c_block ?_
      refine c_seq (c_region ?_)
      refine sD F (o_eqlF (F.ev rfl) (F.ev rfl) (by omega) ?_); clear F a; intro a F
      refine sD F (o_assign (F.ev rfl) ?_); clear F a; intro a F
      with_reducible refine l_nil (q_then ?_)
      refine c_false F rfl rfl ?_
      refine c_seq (c_region ?_)
      refine sD F (o_eqlF (F.ev rfl) (F.ev rfl) (by omega) ?_); clear F a; intro a F
      refine sD F (o_assign (F.ev rfl) ?_); clear F a; intro a F
      with_reducible refine l_nil (q_then ?_)
      refine c_false F rfl rfl ?_
      refine c_seq (c_region ?_)
      refine sD F (o_eqlT (F.ev rfl) (F.ev rfl) (by omega) ?_); clear F a; intro a F
      refine sD F (o_assign (F.ev rfl) ?_); clear F a; intro a F
      with_reducible refine l_nil (q_then ?_)
      refine c_true F rfl rfl ?_
      refine c_region ?_
      refine sD F (o_move (F.ev rfl) ?_); clear F a; intro a F
      refine sD F (o_move (F.ev rfl) ?_); clear F a; intro a F
      (refine sD F (o_call (F.ev rfl) (F.evs rfl) (Cal.mono (nextE_c 2 (by omega) (by omega) _ (hT.later M.ext) (M.heap .here) ) ?_)); clear F; clear a; have M0 := M; clear M; rintro _ w ⟨z9, k9, rfl, hz9, N⟩ a F)
      replace M := M0.turn1 N .here
      clear M0 N
      have ph : put (insC out ++ junk) (0 + (qn : Int).toNat * 40 + 39) [.int .i64 (5 - 6 * z9)] = some (insC (out.set qn { out[qn] with til := (5 - 6 * z9) }) ++ junk) := encL_put (enc := inC) hsz junk hqn (in_put_til hqi (5 - 6 * z9)) (by omega)
      refine sD F (o_mul (F.ev rfl) (F.ev rfl) (w_i64 (by omega) (by omega)) ?_); clear F a; intro a F
      refine sD F (o_sub (F.ev rfl) (F.ev rfl) (w_i64 (by omega) (by omega)) ?_); clear F a; intro a F
      refine sD F (o_nilCheck (F.ev rfl) rfl ?_); clear F a; intro a F
      refine sD F (o_fieldAddr (F.ev rfl) ?_); clear F a; intro a F
      (refine stepN rfl F (o_store1 M (F.ev rfl) (F.ev rfl) rfl (by repeat constructor) (ph) (by repeat constructor) ?_); clear F M; intro w M a F)
      with_reducible refine l_nil (q_inB ?_)
      exact ⟨k9, _, by simp, mem_set hoi (x := { out[qn] with til := (5 - 6 * z9) }) hqi, F.only [5] rfl, M⟩
    by_cases z3 : z = 3
    · have ph : put (insC out ++ junk) (0 + (qn : Int).toNat * 40 + 0 + 34) [.int .u64 0] = some (insC (out.set qn { out[qn] with to := { out[qn].to with rt := 0 } }) ++ junk) := encL_put (enc := inC) hsz junk hqn (in_put_to_rt hqi 0) (by omega)
      with_reducible refine c_block (c_seq (c_region ?_))
      refine sD F (o_eqlF (F.ev rfl) (F.ev rfl) (by omega) ?_); clear F a; intro a F
      refine sD F (o_assign (F.ev rfl) ?_); clear F a; intro a F
      with_reducible refine l_nil (q_then ?_)
      refine c_false F rfl rfl ?_
      refine c_seq (c_region ?_)
      refine sD F (o_eqlF (F.ev rfl) (F.ev rfl) (by omega) ?_); clear F a; intro a F
      refine sD F (o_assign (F.ev rfl) ?_); clear F a; intro a F
      with_reducible refine l_nil (q_then ?_)
      refine c_false F rfl rfl ?_
      refine c_seq (c_region ?_)
      refine sD F (o_eqlF (F.ev rfl) (F.ev rfl) (by omega) ?_); clear F a; intro a F
      refine sD F (o_assign (F.ev rfl) ?_); clear F a; intro a F
      with_reducible refine l_nil (q_then ?_)
      refine c_false F rfl rfl ?_
      refine c_seq (c_region ?_)
      refine sD F (o_eqlT (F.ev rfl) (F.ev rfl) (by omega) ?_); clear F a; intro a F
      refine sD F (o_assign (F.ev rfl) ?_); clear F a; intro a F
      with_reducible refine l_nil (q_then ?_)
      refine c_true F rfl rfl ?_
      refine c_region ?_
      refine sD F (o_move (F.ev rfl) ?_); clear F a; intro a F
      refine sD F (o_nilCheck (F.ev rfl) rfl ?_); clear F a; intro a F
      refine sD F (o_fieldAddr (F.ev rfl) ?_); clear F a; intro a F
      refine sD F (o_fieldAddr (F.ev rfl) ?_); clear F a; intro a F
      (refine stepN rfl F (o_store1 M (F.ev rfl) (F.ev rfl) rfl (by repeat constructor) (ph) (by repeat constructor) ?_); clear F M; intro w M a F)
      with_reducible refine l_nil (q_inB ?_)
      exact ⟨k3, _, by simp, mem_set hoi (x := { out[qn] with to := { out[qn].to with rt := 0 } }) hqi, F.only [5] rfl, M⟩
    by_cases z4 : z = 4
    · have ph : put (insC out ++ junk) (0 + (qn : Int).toNat * 40 + 38) [.int .i64 (-2)] = some (insC (out.set qn { out[qn] with btn := (-2) }) ++ junk) := encL_put (enc := inC) hsz junk hqn (in_put_btn hqi (-2)) (by omega)
      with_reducible refine c_block (c_seq (c_region ?_))
      refine sD F (o_eqlF (F.ev rfl) (F.ev rfl) (by omega) ?_); clear F a; intro a F
      refine sD F (o_assign (F.ev rfl) ?_); clear F a; intro a F
      with_reducible refine l_nil (q_then ?_)
      refine c_false F rfl rfl ?_
      refine c_seq (c_region ?_)
      refine sD F (o_eqlF (F.ev rfl) (F.ev rfl) (by omega) ?_); clear F a; intro a F
      refine sD F (o_assign (F.ev rfl) ?_); clear F a; intro a F
      with_reducible refine l_nil (q_then ?_)
      refine c_false F rfl rfl ?_
      refine c_seq (c_region ?_)
      refine sD F (o_eqlF (F.ev rfl) (F.ev rfl) (by omega) ?_); clear F a; intro a F
      refine sD F (o_assign (F.ev rfl) ?_); clear F a; intro a F
      with_reducible refine l_nil (q_then ?_)
      refine c_false F rfl rfl ?_
      refine c_seq (c_region ?_)
      refine sD F (o_eqlF (F.ev rfl) (F.ev rfl) (by omega) ?_); clear F a; intro a F
      refine sD F (o_assign (F.ev rfl) ?_); clear F a; intro a F
      with_reducible refine l_nil (q_then ?_)
      refine c_false F rfl rfl ?_
      refine c_seq (c_region ?_)
      refine sD F (o_eqlT (F.ev rfl) (F.ev rfl) (by omega) ?_); clear F a; intro a F
      refine sD F (o_assign (F.ev rfl) ?_); clear F a; intro a F
      with_reducible refine l_nil (q_then ?_)
      refine c_true F rfl rfl ?_
      refine c_region ?_
      refine sD F (o_move (F.ev rfl) ?_); clear F a; intro a F
      refine sD F (o_nilCheck (F.ev rfl) rfl ?_); clear F a; intro a F
      refine sD F (o_fieldAddr (F.ev rfl) ?_); clear F a; intro a F
      (refine stepN rfl F (o_store1 M (F.ev rfl) (F.ev rfl) rfl (by repeat constructor) (ph) (by repeat constructor) ?_); clear F M; intro w M a F)
      with_reducible refine l_nil (q_inB ?_)
      exact ⟨k3, _, by simp, mem_set hoi (x := { out[qn] with btn := (-2) }) hqi, F.only [5] rfl, M⟩
    by_cases z5 : z = 5
    · have ph : put (insC out ++ junk) (0 + (qn : Int).toNat * 40 + 36 + 1) [.int .i64 5] = some (insC (out.set qn { out[qn] with own := { out[qn].own with met := 5 } }) ++ junk) := encL_put (enc := inC) hsz junk hqn (in_put_own_met hqi 5) (by omega)
      with_reducible refine c_block (c_seq (c_region ?_))
      refine sD F (o_eqlF (F.ev rfl) (F.ev rfl) (by omega) ?_); clear F a; intro a F
      refine sD F (o_assign (F.ev rfl) ?_); clear F a; intro a F
      with_reducible refine l_nil (q_then ?_)
      refine c_false F rfl rfl ?_
      refine c_seq (c_region ?_)
      refine sD F (o_eqlF (F.ev rfl) (F.ev rfl) (by omega) ?_); clear F a; intro a F
      refine sD F (o_assign (F.ev rfl) ?_); clear F a; intro a F
      with_reducible refine l_nil (q_then ?_)
      refine c_false F rfl rfl ?_
      refine c_seq (c_region ?_)
      refine sD F (o_eqlF (F.ev rfl) (F.ev rfl) (by omega) ?_); clear F a; intro a F
      refine sD F (o_assign (F.ev rfl) ?_); clear F a; intro a F
      with_reducible refine l_nil (q_then ?_)
      refine c_false F rfl rfl ?_
      refine c_seq (c_region ?_)
      refine sD F (o_eqlF (F.ev rfl) (F.ev rfl) (by omega) ?_); clear F a; intro a F
      refine sD F (o_assign (F.ev rfl) ?_); clear F a; intro a F
      with_reducible refine l_nil (q_then ?_)
      refine c_false F rfl rfl ?_
      refine c_seq (c_region ?_)
      refine sD F (o_eqlF (F.ev rfl) (F.ev rfl) (by omega) ?_); clear F a; intro a F
      refine sD F (o_assign (F.ev rfl) ?_); clear F a; intro a F
      with_reducible refine l_nil (q_then ?_)
      refine c_false F rfl rfl ?_
      refine c_seq (c_region ?_)
      refine sD F (o_eqlT (F.ev rfl) (F.ev rfl) (by omega) ?_); clear F a; intro a F
      refine sD F (o_assign (F.ev rfl) ?_); clear F a; intro a F
      with_reducible refine l_nil (q_then ?_)
      refine c_true F rfl rfl ?_
      refine c_region ?_
      refine sD F (o_move (F.ev rfl) ?_); clear F a; intro a F
      refine sD F (o_nilCheck (F.ev rfl) rfl ?_); clear F a; intro a F
      refine sD F (o_fieldAddr (F.ev rfl) ?_); clear F a; intro a F
      refine sD F (o_fieldAddr (F.ev rfl) ?_); clear F a; intro a F
      (refine stepN rfl F (o_store1 M (F.ev rfl) (F.ev rfl) rfl (by repeat constructor) (ph) (by repeat constructor) ?_); clear F M; intro w M a F)
      with_reducible refine l_nil (q_inB ?_)
      exact ⟨k3, _, by simp, mem_set hoi (x := { out[qn] with own := { out[qn].own with met := 5 } }) hqi, F.only [5] rfl, M⟩
    · refine c_block ?_
      refine c_seq (c_region ?_)
      refine sD F (o_eqlF (F.ev rfl) (F.ev rfl) (by omega) ?_); clear F a; intro a F
      refine sD F (o_assign (F.ev rfl) ?_); clear F a; intro a F
      with_reducible refine l_nil (q_then ?_)
      refine c_false F rfl rfl ?_
      refine c_seq (c_region ?_)
      refine sD F (o_eqlF (F.ev rfl) (F.ev rfl) (by omega) ?_); clear F a; intro a F
      refine sD F (o_assign (F.ev rfl) ?_); clear F a; intro a F
      with_reducible refine l_nil (q_then ?_)
      refine c_false F rfl rfl ?_
      refine c_seq (c_region ?_)
      refine sD F (o_eqlF (F.ev rfl) (F.ev rfl) (by omega) ?_); clear F a; intro a F
      refine sD F (o_assign (F.ev rfl) ?_); clear F a; intro a F
      with_reducible refine l_nil (q_then ?_)
      refine c_false F rfl rfl ?_
      refine c_seq (c_region ?_)
      refine sD F (o_eqlF (F.ev rfl) (F.ev rfl) (by omega) ?_); clear F a; intro a F
      refine sD F (o_assign (F.ev rfl) ?_); clear F a; intro a F
      with_reducible refine l_nil (q_then ?_)
      refine c_false F rfl rfl ?_
      refine c_seq (c_region ?_)
      refine sD F (o_eqlF (F.ev rfl) (F.ev rfl) (by omega) ?_); clear F a; intro a F
      refine sD F (o_assign (F.ev rfl) ?_); clear F a; intro a F
      with_reducible refine l_nil (q_then ?_)
      refine c_false F rfl rfl ?_
      refine c_seq (c_region ?_)
      refine sD F (o_eqlF (F.ev rfl) (F.ev rfl) (by omega) ?_); clear F a; intro a F
      refine sD F (o_assign (F.ev rfl) ?_); clear F a; intro a F
      with_reducible refine l_nil (q_then ?_)
      refine c_false F rfl rfl ?_
      refine c_region ?_
      refine sD F (o_move (F.ev rfl) ?_); clear F a; intro a F
      (refine sD F (o_call (F.ev rfl) (F.evs rfl) (Cal.mono (reverseI_c hoi (by omega) junk _ (M.heap (.there .here)) ) ?_)); clear F; clear a; have M0 := M; clear M; rintro _ w ⟨o', l1, i1, N⟩ a F)
      replace M := M0.turn1 N (.there .here)
      clear M0 N
      with_reducible refine l_nil (q_inB ?_)
      exact ⟨k3, o', l1, i1, F.only [5] rfl, M⟩
  clear F M a
  rintro a w ⟨k4, m, hm1, hm2, F, M⟩
  have hO3 := (fin m hm1 hm2).slN M (fun q hq => by simp [hq]) (nd_not M.nd (fun q hq => hq))
  with_reducible refine q_then (c_seq (c_region ?_))
  refine sD F (o_move (F.ev rfl) ?_); clear F a; intro a F
  refine sD F (o_assign (F.ev rfl) ?_); clear F a; intro a F
  with_reducible refine l_nil (q_then (c_ret ?_))
  refine p_ret F rfl (.cons (.tmp (F.ev rfl)) .nil) ?_
  exact ⟨m, k4, hO3, hm2, by omega, M.sub (.cons_cons _ (List.nil_sublist _))⟩
end Go.Proofs.YtilgoepokaaleaaGreat
/-! YM -/
namespace Go.Proofs.YtilgoepokaaleaaGreat
set_option linter.unusedVariables false
set_option linter.unusedSimpArgs false
open Go.RowKit
attribute [local irreducible] OpTo wpListIn Code.wpIn MW Cal
set_option maxHeartbeats 8000000 in
theorem finds_c (l : List InsV) (hx : ∀ x ∈ l, IsIn x) (v : Value) (src dst : List Int) (hs : IsIP src) (hd : IsIP dst) (mark : DstV) (hmk : IsDv mark) (marked : Bool) (W : World) (hS : SlAt W 40 v l.length (insC l)) :
    Cal Tryz.prog 23 [v, .agg (ipC src).toArray, .agg (ipC dst).toArray, .agg (dvC mark).toArray, .bool marked].toArray W fun r w' => r = .bool true ∧ Ext [] W w' := by
  obtain ⟨q, cap, rfl, _⟩ := id hS
  have a1 : seg (ipC src) 0 16 = some (ipC src) := seg_all (ipC_len hs.len)
  have a2 : seg (ipC dst) 0 16 = some (ipC dst) := seg_all (ipC_len hd.len)
  have hr : IsIn (lookV l src dst mark marked).1 := look_is hx
  refine g_start (n := 41) (S := []) fldT_ok slcT_ok Tryz.func23 rfl rfl rfl ?_
  generalize hg : lookV l src dst mark marked = g at hr
  have c1 : ∀ w, SlAt w 40 (.slice q l.length cap) l.length (insC l) → Cal Tryz.prog 60 _ w _ := fun w h => lookup2_c l hx _ src dst hs hd mark hmk marked w h
  have c2 : ∀ w, SlAt w 40 (.slice q l.length cap) l.length (insC l) → Cal Tryz.prog 63 _ w _ := fun w h => rlookup_c l hx _ src dst hs hd mark hmk marked w h
  rw [hg] at c1 c2
  refine g_run 2 rfl ?_
  refine g_box rfl rfl fun b6 => ?_
  refine g_box rfl rfl fun b7 => ?_
  refine g_box rfl rfl fun b8 => ?_
  refine g_run 6 rfl ?_
  refine g_ldA 2 rfl rfl (by with_reducible assumption) ?_
  refine g_ldA 1 rfl rfl (by with_reducible assumption) ?_
  refine g_ldA 0 rfl rfl (dv_all (by assumption)) ?_
  refine g_run 1 rfl ?_
  refine g_call rfl rfl (fun w M => c1 w (hS.later M.ext)) ?_
  refine g_run 3 rfl ?_
  refine g_alloc fun b11 => ?_
  refine g_stA 0 rfl rfl (in_len (by assumption)) (in_one _) rfl (put_all (by rw [in_len (by assumption)]; first | rfl | rw [in_len (by assumption)])) rfl ?_
  refine g_run 6 rfl ?_
  refine g_ldA 3 rfl rfl (by with_reducible assumption) ?_
  refine g_ldA 2 rfl rfl (by with_reducible assumption) ?_
  refine g_ldA 1 rfl rfl (dv_all (by assumption)) ?_
  refine g_run 1 rfl ?_
  refine g_call rfl rfl (fun w M => c2 w (hS.later M.ext)) ?_
  refine g_run 3 rfl ?_
  refine g_alloc fun b13 => ?_
  refine g_stA 0 rfl rfl (in_len (by assumption)) (in_one _) rfl (put_all (by rw [in_len (by assumption)]; first | rfl | rw [in_len (by assumption)])) rfl ?_
  refine g_run 9 rfl ?_
  refine g_know 36 rfl (decide_eq_true (by omega)) ?_
  refine g_ldA 1 rfl rfl (in_all (by assumption)) ?_
  refine g_ldA 0 rfl rfl (in_all (by assumption)) ?_
  refine g_eqA rfl rfl (in_fits (by assumption)) (in_fits (by assumption)) (in_eq (by assumption) (by assumption)) ?_
  refine g_run 5 rfl ?_
  refine g_ret1 rfl rfl rfl fun w M => ?_
  exact ⟨by simp [*], M.ext⟩
/-- c_drawB, with what stays from ahead of the region on -/
theorem c_drawBF {P : Program} {r : Option Nat} {Q : Exit → Act → World → Prop} {a : Act} {w W0 : World} {S : List Nat} {nt : Nat} {df : List Deferred} {fr : List (Nat × Value)} {id : Nat} {ol : List Oper} {l : List (Nat × Obj)} {l0 : List (Nat × Obj)} (B : List Nat) (Ef : List Nat) (M : Mem S W0 w (l0 ++ l)) (n : Nat) [hm : TMix P] (F : Frm a nt df fr)
    (hchk : (regOk ol.toArray n && tailOk ol.toArray n && Nat.ble n ol.length && dstOk ol.toArray n nt && effOk ol.toArray n Ef) = true)
    (h : ∀ w1, Ext [] w w1 → Mem S W0 w1 (l0 ++ l) → regOk ol.toArray n = true → effOk ol.toArray n Ef = true → MW ⟨keepBut B, Ef, [], P, r, ol.toArray, n, nt, df, a, w1, Q, [], []⟩ 0 ol fr [] (fun _ w => Mem S W0 w (l0 ++ l))) : Wp r P (.region id ol.toArray true) Q a w :=
  c_drawK (keepBut B) Ef [] (fun _ w => Mem S W0 w (l0 ++ l)) n F hchk rfl (fun h => absurd rfl h) (fun h => absurd rfl h) (fun _ _ _ h k => h.later k) (fun _ d hd => M.later (Ext.drawn w d hd)) fun w1 hE _ hok hef => h w1 hE (M.later hE) hok hef
/-- installed destinations in new memory, as an answer -/
def InsP (n0 : Nat) : Pred := fun v w => ∃ m : List InsV, (∀ x ∈ m, IsIn x) ∧ SlN n0 w 40 v m.length (insC m)
theorem InsP.staysBut {n0 bt : Nat} (hbt : bt < n0) : Stays (keepBut [bt]) (InsP n0) := fun v w w' ⟨m, h1, h2⟩ h => ⟨m, h1, h2.laterB hbt h⟩
set_option maxHeartbeats 32000000 in
theorem lookupsL_c (raw : List InsV) (hrx : ∀ x ∈ raw, IsIn x) (vr : Value) (src dst : List Int) (hs : IsIP src) (hd : IsIP dst) (mark : DstV) (hmk : IsDv mark) (marked : Bool) (pt : Option Addr) (cap : Nat) (xs0 : List Int) (W : World) (hSr : SlAt W 40 vr raw.length (insC raw)) (hI : IntsAt W (.slice pt xs0.length cap) xs0) (hcap : xs0.length ≤ cap) :
    Cal Tryz.prog 4 [.slice pt xs0.length cap, vr, .agg (ipC src).toArray, .agg (ipC dst).toArray, .agg (dvC mark).toArray, .bool marked].toArray W fun v w' => v = .bool true ∧ Ext [] W w' := by
  have hmem : 0 < xs0.length → ∃ b o cs t fz, pt = some ⟨b, o, none⟩ ∧ W.heap[b]? = some (.cells cs t fz) ∧ seg cs.toList o xs0.length = some (i64C xs0) := fun hl => by
    obtain ⟨p', cap', h1, _, h3⟩ := hI.ex
    cases h1
    exact h3 hl
  obtain ⟨qr, cr, rfl, _⟩ := id hSr
  have a1 : seg (ipC src) 0 16 = some (ipC src) := seg_all (ipC_len hs.len)
  have a2 : seg (ipC dst) 0 16 = some (ipC dst) := seg_all (ipC_len hd.len)
  have a3 := dv_all hmk
  refine fn_ofM (n := 106) [] Tryz.func4 rfl rfl rfl ?_
  intro a w F M hwW
  refine c_seq ?_
  refine c_region ?_
  (refine sD F (o_box M (F.ev rfl) rfl ?_); clear F M; intro b8 w M a F)
  (refine sD F (o_box M (F.ev rfl) rfl ?_); clear F M; intro b9 w M a F)
  (refine sD F (o_box M (F.ev rfl) rfl ?_); clear F M; intro b10 w M a F)
  by_cases s1 : 40 < raw.length
  · refine sD F (o_assign (F.ev rfl) ?_); clear F a; intro a F
    with_reducible refine l_nil (q_then (c_seq (c_seq (c_region ?_))))
    refine sD F (o_move (F.ev rfl) ?_); clear F a; intro a F
    refine sD F (o_lenSl (F.ev rfl) ?_); clear F a; intro a F
    refine sD F (o_gtrT (F.ev rfl) (F.ev rfl) (by omega) ?_); clear F a; intro a F
    with_reducible refine l_nil (q_then ?_)
    refine c_true F rfl rfl ?_
    refine c_seq (c_region ?_)
    (refine sD F (o_call (F.ev rfl) (F.evs rfl) (Cal.mono (known27_c _) ?_)); clear F; clear a; rintro _ w ⟨rfl, hE⟩ a F; replace M := M.later hE; clear hE)
    refine sD F (o_assign (F.ev rfl) ?_); clear F a; intro a F
    with_reducible refine l_nil (q_then (c_ret (q_thenR ?_)))
    refine p_ret F rfl (.cons (.tmp (F.ev rfl)) .nil) ?_
    exact ⟨rfl, M.ext⟩
  refine sD F (o_assign (F.ev rfl) ?_); clear F a; intro a F
  with_reducible refine l_nil (q_then (c_seq (c_seq (c_region ?_))))
  refine sD F (o_move (F.ev rfl) ?_); clear F a; intro a F
  refine sD F (o_lenSl (F.ev rfl) ?_); clear F a; intro a F
  refine sD F (o_gtrF (F.ev rfl) (F.ev rfl) (by omega) ?_); clear F a; intro a F
  with_reducible refine l_nil (q_then ?_)
  refine c_false F rfl rfl ?_
  with_reducible refine c_skip (q_then (c_seq (c_region ?_)))
  refine sD F (o_move (F.ev rfl) ?_); clear F a; intro a F
  (refine sD F (o_call (F.ev rfl) (F.evs rfl) (Cal.mono (new_c xs0 _ (hI.later M.ext) hcap ) ?_)); clear F; clear a; rintro _ w ⟨bt, rfl, N⟩ a F; replace M := M.joins N; clear N)
  have hbt : W.heap.size ≤ bt := (M.own _ List.mem_cons_self).resolve_left (by simp)
  have hT : TapeS W bt pt (cut400 xs0).length (cut400 xs0) := tape_new (Ext.refl [] W) hbt hI.bd hmem
  generalize hxs : cut400 xs0 = xs at *
  generalize hlen : xs.length = len at *
  clear hxs hI hmem hcap
  simp only [List.cons_append, List.nil_append] at M
  refine sD F (o_assign (F.ev rfl) ?_); clear F a; intro a F
  with_reducible refine l_nil (q_then (c_seq (c_region ?_)))
  refine sD F (o_move (F.ev rfl) ?_); clear F a; intro a F
  have hbw := M.lt List.mem_cons_self
  have hlt3 : ∀ b ∈ [bt, b10, b9, b8], b < w.heap.size := fun b hb => by
    rcases List.mem_cons.1 hb with rfl | hb
    · exact hbw
    · obtain ⟨q, hq, rfl⟩ : ∃ q ∈ ([(b10, .cells (dvC mark).toArray 45 (0, 0)), (b9, .cells (ipC dst).toArray 39 (0, 0)), (b8, .cells (ipC src).toArray 39 (0, 0))] : List (Nat × Obj)), q.1 = b := by simpa [eq_comm] using hb
      exact M.lt (List.mem_cons_of_mem _ hq)
  (refine sD F (o_call (F.ev rfl) (F.evs rfl) (Cal.mono (installedR_c 100 (by omega) (by omega) _ (hT.later M.ext.any) (M.heap .here) ) ?_)); clear F; clear a; have M0 := M; clear M; rintro _ w ⟨l, k1, hO, hl7, N⟩ a F)
  replace M := M0.turn1 N .here
  clear M0 N
  obtain ⟨pl, cl, rfl, _⟩ := id hO.at_.1
  have hnI : ∀ x ∈ l, IsIn x := fun x hx => (hO.ok x hx).1
  have E0 := M.ext
  have hS0 : ∀ b ∈ [bt, b10, b9, b8], W.heap.size ≤ b := fun b hb => by
    obtain ⟨q, hq, rfl⟩ : ∃ q ∈ ((bt, tobj pt len cap k1) :: [(b10, .cells (dvC mark).toArray 45 (0, 0)), (b9, .cells (ipC dst).toArray 39 (0, 0)), (b8, .cells (ipC src).toArray 39 (0, 0))] : List (Nat × Obj)), q.1 = b := by simpa [eq_comm] using hb
    exact (M.own q hq).resolve_left (by simp)
  obtain ⟨wb, hwb, M⟩ : ∃ wb, wb = w ∧ Mem [bt, b10, b9, b8] wb w ((bt, tobj pt len cap k1) :: [(b10, .cells (dvC mark).toArray 45 (0, 0)), (b9, .cells (ipC dst).toArray 39 (0, 0)), (b8, .cells (ipC src).toArray 39 (0, 0))]) := ⟨w, rfl, M.reR [bt, b10, b9, b8] (by simp)⟩
  rw [← hwb] at E0 hO
  clear hwb
  have hIn : ∀ w', Ext [bt, b10, b9, b8] wb w' → SlAt w' 40 (.slice pl l.length cl) l.length (insC l) := fun w' E => hO.at_.1.laterB (fun b o s k c e hb => Nat.lt_irrefl _ (Nat.lt_of_lt_of_le (hlt3 b hb) (hO.at_.2 b o s k c e))) E
  have hWw : ∀ w', Ext [bt, b10, b9, b8] wb w' → Ext [] W w' := fun w' E => (E0.any.trans E).fresh fun k hk => .inr (hS0 k hk)
  have hno : ∀ b o s k c, Value.slice pl l.length cl = .slice (some ⟨b, o, s⟩) k c → b ∉ [bt] := fun b o s k c e hb => Nat.lt_irrefl _ (Nat.lt_of_lt_of_le (hlt3 b (by simp at hb; simp [hb])) (hO.at_.2 b o s k c e))
  clear hO hlt3 hbw
  refine sD F (o_assign (F.ev rfl) ?_); clear F a; intro a F
  with_reducible refine l_nil (q_then (c_seq (c_seq (c_region ?_))))
  refine sD F (o_assign (F.ev rfl) ?_); clear F a; intro a F
  with_reducible refine l_nil (q_then (c_block ?_))
  refine c_loop (fun m a w => ∃ (i k : Nat), m = 6 - i ∧ i ≤ 6 ∧ Frm a 106 [] [(15, .int .i64 i), (13, .pointer (some ⟨bt, 0, none⟩)), (14, .slice pl l.length cl), (1, .slice qr raw.length cr), (5, .bool marked), (8, .pointer (some ⟨b8, 0, none⟩)), (9, .pointer (some ⟨b9, 0, none⟩)), (10, .pointer (some ⟨b10, 0, none⟩))] ∧ Mem [bt, b10, b9, b8] wb w ((bt, tobj pt len cap k) :: [(b10, .cells (dvC mark).toArray 45 (0, 0)), (b9, .cells (ipC dst).toArray 39 (0, 0)), (b8, .cells (ipC src).toArray 39 (0, 0))])) 6 ⟨0, k1, rfl, by omega, F.only [15, 13, 14, 1, 5, 8, 9, 10] rfl, M⟩ ?_
  clear F M
  rintro m a w ⟨i, k1, hm, hi, F, M⟩
  by_cases hlt : i < 6
  · refine c_seq ?_
    refine c_seq (c_region ?_)
    refine sD F (o_move (F.ev rfl) ?_); clear F a; intro a F
    refine sD F (o_lssT (F.ev rfl) (F.ev rfl) (by omega) ?_); clear F a; intro a F
    with_reducible refine l_nil (q_then ?_)
    refine c_true F rfl rfl ?_
    with_reducible refine c_skip (q_then (c_seq (c_block (c_seq (c_region ?_)))))
    refine sD F (o_move (F.ev rfl) ?_); clear F a; intro a F
    (refine sD F (o_call (F.ev rfl) (F.evs rfl) (Cal.mono (toE_c _ (hT.later (hWw _ M.ext).any) (M.heap .here) ) ?_)); clear F; clear a; have M0 := M; clear M; rintro _ w ⟨x0, k2, rfl, hx0, _, N⟩ a F)
    replace M := M0.turn1 N .here
    clear M0 N
    unfold dvV at F
    skip
    (refine sD F (o_alloc M ?_); clear F M; intro b16 w M a F)
    (refine stepN rfl F (o_storeA M (F.ev rfl) (F.ev rfl) (dv_len hx0) (dv_one _)  (by repeat constructor)  (put_all (by rw [dv_len hx0]; rfl)) (by repeat constructor) ?_); clear F M; intro w M a F)
    refine l_nil ?_
    refine q_then ?_
    refine c_seq ?_
    refine c_cut (fun a w => ∃ (x : DstV) (k : Nat), IsDv x ∧ Frm a 106 [] [(16, .pointer (some ⟨b16, 0, none⟩)), (15, .int .i64 i), (13, .pointer (some ⟨bt, 0, none⟩)), (14, .slice pl l.length cl), (1, .slice qr raw.length cr), (5, .bool marked), (8, .pointer (some ⟨b8, 0, none⟩)), (9, .pointer (some ⟨b9, 0, none⟩)), (10, .pointer (some ⟨b10, 0, none⟩))] ∧ Mem [bt, b10, b9, b8] wb w ((b16, Obj.cells (dvC x).toArray 45 (0, 0)) :: (bt, tobj pt len cap k) :: [(b10, .cells (dvC mark).toArray 45 (0, 0)), (b9, .cells (ipC dst).toArray 39 (0, 0)), (b8, .cells (ipC src).toArray 39 (0, 0))])) ?_ ?_
    · by_cases hl0 : 0 < l.length
      · refine c_seq ?_
        refine c_region ?_
        refine sD F (o_move (F.ev rfl) ?_); clear F a; intro a F
        refine sD F (o_lenSl (F.ev rfl) ?_); clear F a; intro a F
        refine sD F (o_gtrT (F.ev rfl) (F.ev rfl) (by omega) ?_); clear F a; intro a F
        refine sD F (o_move (F.ev rfl) ?_); clear F a; intro a F
        refine sG F (o_move (F.ev rfl) ?_); clear F a; intro a F
        (refine sG F (o_call (F.ev rfl) (F.evs rfl) (Cal.mono (boolE_c 2 (by omega) (by omega) _ (hT.later (hWw _ M.ext).any) (M.heap (.there .here))) ?_)); clear F; clear a; have M0 := M; clear M; rintro _ w ⟨c, k3, rfl, N⟩ a F)
        replace M := M0.turn1 N (.there .here)
        clear M0 N
        cases c
        · refine sD F (o_pickT (F.ev rfl) (F.ev rfl) ?_); clear F a; intro a F
          with_reducible refine l_nil (q_then ?_)
          refine c_false F rfl rfl ?_
          with_reducible refine c_skip ?_
          exact ⟨x0, k3, hx0, F.only [16, 15, 13, 14, 1, 5, 8, 9, 10] rfl, M⟩
        · refine sD F (o_pickT (F.ev rfl) (F.ev rfl) ?_); clear F a; intro a F
          with_reducible refine l_nil (q_then ?_)
          refine c_true F rfl rfl ?_
          refine c_region ?_
          refine sD F (o_move (F.ev rfl) ?_); clear F a; intro a F
          refine sD F (o_move (F.ev rfl) ?_); clear F a; intro a F
          refine sD F (o_move (F.ev rfl) ?_); clear F a; intro a F
          refine sD F (o_lenSl (F.ev rfl) ?_); clear F a; intro a F
          (refine sD F (o_call (F.ev rfl) (F.evs rfl) (Cal.mono (nextE_c l.length (by omega) (by omega) _ (hT.later (hWw _ M.ext).any) (M.heap (.there .here)) ) ?_)); clear F; clear a; have M0 := M; clear M; rintro _ w ⟨q, k4, rfl, hq, N⟩ a F)
          replace M := M0.turn1 N (.there .here)
          clear M0 N
          obtain ⟨qn, rfl⟩ := Int.eq_ofNat_of_zero_le hq.1
          have hqn : qn < l.length := by omega
          obtain ⟨q0, cap0, hv0, _, _, _, hm1⟩ := hIn _ M.ext
          cases hv0
          obtain ⟨b, o, cs, t, fz, rfl, hb, hsg⟩ := hm1 (by omega)
          have hqi := hnI _ (List.getElem_mem hqn)
          have f1 : seg cs (o + (qn : Int).toNat * 40) 40 = some (inC l[qn]) := seg_el (ins_len hnI) hsg hqn (by omega)
          have f2 : seg cs (o + (qn : Int).toNat * 40 + 0) 35 = some (dvC l[qn].to) := sg_seg f1 (in_to hqi) (by omega)
          refine sD F (o_indexSl (F.ev rfl) (F.ev rfl) (by omega) (by omega) ?_); clear F a; intro a F
          refine sD F (o_fieldAddr (F.ev rfl) ?_); clear F a; intro a F
          (refine sD F (o_loadHA (F.ev rfl) hb f2 ?_); clear F a; intro a F)
          (refine stepN rfl F (o_storeA M (F.ev rfl) (F.ev rfl) (dv_len hqi.1) (dv_one _)  (by repeat constructor)  (put_all (by rw [dv_len hx0, dv_len hqi.1])) (by repeat constructor) ?_); clear F M; intro w M a F)
          with_reducible refine l_nil ?_
          exact ⟨_, k4, hqi.1, F.only [16, 15, 13, 14, 1, 5, 8, 9, 10] rfl, M⟩
      · refine c_seq ?_
        refine c_region ?_
        refine sD F (o_move (F.ev rfl) ?_); clear F a; intro a F
        refine sD F (o_lenSl (F.ev rfl) ?_); clear F a; intro a F
        refine sD F (o_gtrF (F.ev rfl) (F.ev rfl) (by omega) ?_); clear F a; intro a F
        refine sD F (o_move (F.ev rfl) ?_); clear F a; intro a F
        refine sO F ?_; clear F a; intro a F
        refine sO F ?_; clear F a; intro a F
        refine sD F (o_pickF (F.ev rfl) (F.ev rfl) ?_); clear F a; intro a F
        with_reducible refine l_nil (q_then ?_)
        refine c_false F rfl rfl ?_
        with_reducible refine c_skip ?_
        exact ⟨x0, k2, hx0, F.only [16, 15, 13, 14, 1, 5, 8, 9, 10] rfl, M⟩
    clear F M
    rintro a w ⟨x, k2, hxd, F, M⟩
    refine q_then ?_
    refine c_seq ?_
    replace M : Mem [bt, b10, b9, b8] wb w ([(bt, tobj pt len cap k2)] ++ ((b16, Obj.cells (dvC x).toArray 45 (0, 0)) :: [(b10, .cells (dvC mark).toArray 45 (0, 0)), (b9, .cells (ipC dst).toArray 39 (0, 0)), (b8, .cells (ipC src).toArray 39 (0, 0))])) := M.perm (List.Perm.swap _ _ _)
    have x1 := dv_all hxd
    have x2 := dv_sip hxd
    have x3 := dv_dip hxd
    refine c_drawBF (l0 := [(bt, tobj pt len cap k2)]) [bt] [2, 4, 7] M 34 F (by kernel_rfl) ?_
    intro w1 hE1 M1 hok hef
    have hB : ∀ k' ∈ [bt], k' ∈ ([(bt, tobj pt len cap k2)] : List (Nat × Obj)).map (·.1) := by simp
    have hMw : ∀ w', Ext [bt] w1 w' → Ext [bt, b10, b9, b8] wb w' := fun w' E => M1.ext.trans (E.mono fun k hk => by simp at hk; simp [hk])
    refine mK hok rfl rfl (fun a' w' F' E' => o_move (F'.ev rfl) ⟨Ext.refl _ _, rfl⟩) ?_
    refine mK hok rfl rfl (fun a' w' F' E' => o_move (F'.ev rfl) ⟨Ext.refl _ _, rfl⟩) ?_
    refine mE (T' := fun _ w => Mem _ _ w ([(bt, tobj pt len cap (wipK xs k2))] ++ _)) hok rfl rfl (fun _ _ _ h k => h.later k) (fun a' w' σ' F' E' T' => o_call (F'.ev rfl) (F'.evs rfl) (Cal.mono (wipD_c _ (hT.later (hWw _ (hMw _ E')).any) (T'.heap .here)) fun _ _ hh => ⟨hh.2.ext, hh.1, Mem.turn1 T' hh.2 .here⟩)) ?_
    refine mK hok rfl rfl (fun a' w' F' E' => o_move (F'.ev rfl) ⟨Ext.refl _ _, rfl⟩) ?_
    refine mE (T' := fun _ w => Mem _ _ w ([(bt, tobj pt len cap (wipK xs (wipK xs k2)))] ++ _)) hok rfl rfl (fun _ _ _ h k => h.later k) (fun a' w' σ' F' E' T' => o_call (F'.ev rfl) (F'.evs rfl) (Cal.mono (wipD_c _ (hT.later (hWw _ (hMw _ E')).any) (T'.heap .here)) fun _ _ hh => ⟨hh.2.ext, hh.1, Mem.turn1 T' hh.2 .here⟩)) ?_
    refine mK hok rfl rfl (fun a' w' F' E' => o_loadA (M1.laterBut E' hB) (F'.ev rfl) (by repeat constructor) (by first | assumption | rfl) ⟨Ext.refl _ _, rfl⟩) ?_
    refine mK hok rfl rfl (fun a' w' F' E' => o_move (F'.ev rfl) ⟨Ext.refl _ _, rfl⟩) ?_
    refine mE (T' := fun _ w => Mem _ _ w ([(bt, tobj pt len cap (nxK xs (wipK xs (wipK xs k2))))] ++ _)) hok rfl rfl (fun _ _ _ h k => h.later k) (fun a' w' σ' F' E' T' => o_call (F'.ev rfl) (F'.evs rfl) (Cal.mono (bool_c 2 (by omega) (by omega) _ (hT.later (hWw _ (hMw _ E')).any) (T'.heap .here)) fun _ _ hh => ⟨hh.2.ext, hh.1, Mem.turn1 T' hh.2 .here⟩)) ?_
    skip
    (refine mK hok rfl rfl (fun a' w' F' E' => o_call (F'.ev rfl) (F'.evs rfl) (Cal.mono (finds_c l hnI _ _ _ (wipV_is xs _) (wipV_is xs _) x hxd _ _ (hIn _ (hMw _ E'))) fun _ _ hh => ⟨hh.2, hh.1⟩)) ?_)
    refine mK hok rfl rfl (fun a' w' F' E' => o_not (F'.ev rfl) ⟨Ext.refl _ _, rfl⟩) ?_
    refine mK hok rfl rfl (fun a' w' F' E' => o_move (F'.ev rfl) ⟨Ext.refl _ _, rfl⟩) ?_
    refine mKG hok rfl rfl rfl rfl (fun a' w' F' E' => o_move (F'.ev rfl) ⟨Ext.refl _ _, rfl⟩) ?_
    refine mKG hok rfl rfl rfl rfl (fun a' w' F' E' => o_fieldAddr (F'.ev rfl) ⟨Ext.refl _ _, rfl⟩) ?_
    refine mKG hok rfl rfl rfl rfl (fun a' w' F' E' => o_fieldAddr (F'.ev rfl) ⟨Ext.refl _ _, rfl⟩) ?_
    refine mKG hok rfl rfl rfl rfl (fun a' w' F' E' => o_loadA (M1.laterBut E' hB) (F'.ev rfl) (by repeat constructor) (by first | assumption | rfl) ⟨Ext.refl _ _, rfl⟩) ?_
    refine mKG hok rfl rfl rfl rfl (fun a' w' F' E' => o_fieldAddr (F'.ev rfl) ⟨Ext.refl _ _, rfl⟩) ?_
    refine mKG hok rfl rfl rfl rfl (fun a' w' F' E' => o_fieldAddr (F'.ev rfl) ⟨Ext.refl _ _, rfl⟩) ?_
    refine mKG hok rfl rfl rfl rfl (fun a' w' F' E' => o_loadA (M1.laterBut E' hB) (F'.ev rfl) (by repeat constructor) (by first | assumption | rfl) ⟨Ext.refl _ _, rfl⟩) ?_
    refine mKG hok rfl rfl rfl rfl (fun a' w' F' E' => o_loadA (M1.laterBut E' hB) (F'.ev rfl) (by repeat constructor) (by first | assumption | rfl) ⟨Ext.refl _ _, rfl⟩) ?_
    (refine mKG hok rfl rfl rfl rfl (fun a' w' F' E' => o_call (F'.ev rfl) (F'.evs rfl) (Cal.mono (finds_c l hnI _ _ _ hxd.2 hxd.1 x hxd true _ (hIn _ (hMw _ E'))) fun _ _ hh => ⟨hh.2, hh.1⟩)) ?_)
    refine mKG hok rfl rfl rfl rfl (fun a' w' F' E' => o_not (F'.ev rfl) ⟨Ext.refl _ _, rfl⟩) ?_
    refine mK hok rfl rfl (fun a' w' F' E' => o_pickF (F'.ev rfl) (F'.ev rfl) ⟨Ext.refl _ _, rfl⟩) ?_
    refine mK hok rfl rfl (fun a' w' F' E' => o_move (F'.ev rfl) ⟨Ext.refl _ _, rfl⟩) ?_
    refine mKG hok rfl rfl rfl rfl (fun a' w' F' E' => o_move (F'.ev rfl) ⟨Ext.refl _ _, rfl⟩) ?_
    refine mKG hok rfl rfl rfl rfl (fun a' w' F' E' => o_fieldAddr (F'.ev rfl) ⟨Ext.refl _ _, rfl⟩) ?_
    refine mKG hok rfl rfl rfl rfl (fun a' w' F' E' => o_fieldAddr (F'.ev rfl) ⟨Ext.refl _ _, rfl⟩) ?_
    refine mKG hok rfl rfl rfl rfl (fun a' w' F' E' => o_loadA (M1.laterBut E' hB) (F'.ev rfl) (by repeat constructor) (by first | assumption | rfl) ⟨Ext.refl _ _, rfl⟩) ?_
    refine mKG hok rfl rfl rfl rfl (fun a' w' F' E' => o_fieldAddr (F'.ev rfl) ⟨Ext.refl _ _, rfl⟩) ?_
    refine mKG hok rfl rfl rfl rfl (fun a' w' F' E' => o_fieldAddr (F'.ev rfl) ⟨Ext.refl _ _, rfl⟩) ?_
    refine mKG hok rfl rfl rfl rfl (fun a' w' F' E' => o_loadA (M1.laterBut E' hB) (F'.ev rfl) (by repeat constructor) (by first | assumption | rfl) ⟨Ext.refl _ _, rfl⟩) ?_
    refine mKG hok rfl rfl rfl rfl (fun a' w' F' E' => o_loadA (M1.laterBut E' hB) (F'.ev rfl) (by repeat constructor) (by first | assumption | rfl) ⟨Ext.refl _ _, rfl⟩) ?_
    (refine mKG hok rfl rfl rfl rfl (fun a' w' F' E' => o_call (F'.ev rfl) (F'.evs rfl) (Cal.mono (finds_c l hnI _ _ _ hxd.2 hxd.1 mark hmk false _ (hIn _ (hMw _ E'))) fun _ _ hh => ⟨hh.2, hh.1⟩)) ?_)
    refine mKG hok rfl rfl rfl rfl (fun a' w' F' E' => o_not (F'.ev rfl) ⟨Ext.refl _ _, rfl⟩) ?_
    refine mK hok rfl rfl (fun a' w' F' E' => o_pickF (F'.ev rfl) (F'.ev rfl) ⟨Ext.refl _ _, rfl⟩) ?_
    (refine mDone rfl hef ?_; clear F M; intro a w F hE2 hX M hDD hPP; clear hMw; clear M1; clear hX; clear hE2; clear hok; clear hef; clear hB; clear hDD; clear hPP; (try dsimp only at F); (try simp only [List.cons_append, List.nil_append] at M))
    with_reducible refine l_nil (q_then ?_)
    refine c_false F rfl rfl ?_
    with_reducible refine c_skip (q_inB (q_then (c_region ?_)))
    refine sD F (o_move (F.ev rfl) ?_); clear F a; intro a F
    refine sD F (o_add (F.ev rfl) (F.ev rfl) (w_i64 (by omega) (by omega)) ?_); clear F a; intro a F
    refine sD F (o_assign (F.ev rfl) ?_); clear F a; intro a F
    with_reducible refine l_nil (q_then ?_)
    exact ⟨_, by omega, i + 1, _, rfl, by omega, F.only [15, 13, 14, 1, 5, 8, 9, 10] rfl, M.sub (.cons_cons _ (.cons _ (.refl _)))⟩
  · refine c_seq ?_
    refine c_seq (c_region ?_)
    refine sD F (o_move (F.ev rfl) ?_); clear F a; intro a F
    refine sD F (o_lssF (F.ev rfl) (F.ev rfl) (by omega) ?_); clear F a; intro a F
    with_reducible refine l_nil (q_then ?_)
    refine c_false F rfl rfl ?_
    with_reducible refine c_exit (q_thenX (q_thenX (q_inBX (q_then (c_seq ?_)))))
    replace F := F.only [13, 14, 1, 5, 8, 9, 10] rfl
    replace M : Mem [bt, b10, b9, b8] wb w ([(bt, tobj pt len cap k1)] ++ [(b10, .cells (dvC mark).toArray 45 (0, 0)), (b9, .cells (ipC dst).toArray 39 (0, 0)), (b8, .cells (ipC src).toArray 39 (0, 0))]) := M
    refine c_drawBF (l0 := [(bt, tobj pt len cap k1)]) [bt] [17] M 27 F (by kernel_rfl) ?_
    intro w1 hE1 M1 hok hef
    have hB : ∀ k' ∈ [bt], k' ∈ ([(bt, tobj pt len cap k1)] : List (Nat × Obj)).map (·.1) := by simp
    have hMw : ∀ w', Ext [bt] w1 w' → Ext [bt, b10, b9, b8] wb w' := fun w' E => M1.ext.trans (E.mono fun k hk => by simp at hk; simp [hk])
    have hbw : bt < w1.heap.size := M1.lt List.mem_cons_self
    refine mK hok rfl rfl (fun a' w' F' E' => o_move (F'.ev rfl) ⟨Ext.refl _ _, rfl⟩) ?_
    refine mK hok rfl rfl (fun a' w' F' E' => o_loadA (M1.laterBut E' hB) (F'.ev rfl) (by repeat constructor) (by first | assumption | rfl) ⟨Ext.refl _ _, rfl⟩) ?_
    refine mK hok rfl rfl (fun a' w' F' E' => o_loadA (M1.laterBut E' hB) (F'.ev rfl) (by repeat constructor) (by first | assumption | rfl) ⟨Ext.refl _ _, rfl⟩) ?_
    refine mK hok rfl rfl (fun a' w' F' E' => o_loadA (M1.laterBut E' hB) (F'.ev rfl) (by repeat constructor) (by first | assumption | rfl) ⟨Ext.refl _ _, rfl⟩) ?_
    refine mK hok rfl rfl (fun a' w' F' E' => o_move (F'.ev rfl) ⟨Ext.refl _ _, rfl⟩) ?_
    (refine mK hok rfl rfl (fun a' w' F' E' => o_call (F'.ev rfl) (F'.evs rfl) (Cal.mono (finds_c raw hrx _ src dst hs hd mark hmk marked _ (hSr.later (hWw _ (hMw _ E')))) fun _ _ hh => ⟨hh.2, hh.1⟩)) ?_)
    refine mK hok rfl rfl (fun a' w' F' E' => o_move (F'.ev rfl) ⟨Ext.refl _ _, rfl⟩) ?_
    refine mKG hok rfl rfl rfl rfl (fun a' w' F' E' => o_move (F'.ev rfl) ⟨Ext.refl _ _, rfl⟩) ?_
    refine mKG hok rfl rfl rfl rfl (fun a' w' F' E' => o_loadA (M1.laterBut E' hB) (F'.ev rfl) (by repeat constructor) (by first | assumption | rfl) ⟨Ext.refl _ _, rfl⟩) ?_
    refine mKG hok rfl rfl rfl rfl (fun a' w' F' E' => o_loadA (M1.laterBut E' hB) (F'.ev rfl) (by repeat constructor) (by first | assumption | rfl) ⟨Ext.refl _ _, rfl⟩) ?_
    refine mKG hok rfl rfl rfl rfl (fun a' w' F' E' => o_loadA (M1.laterBut E' hB) (F'.ev rfl) (by repeat constructor) (by first | assumption | rfl) ⟨Ext.refl _ _, rfl⟩) ?_
    refine mKG hok rfl rfl rfl rfl (fun a' w' F' E' => o_move (F'.ev rfl) ⟨Ext.refl _ _, rfl⟩) ?_
    (refine mKG hok rfl rfl rfl rfl (fun a' w' F' E' => o_call (F'.ev rfl) (F'.evs rfl) (Cal.mono (finds_c l hnI _ src dst hs hd mark hmk marked _ (hIn _ (hMw _ E'))) fun _ _ hh => ⟨hh.2, hh.1⟩)) ?_)
    refine mK hok rfl rfl (fun a' w' F' E' => o_pickT (F'.ev rfl) (F'.ev rfl) ⟨Ext.refl _ _, rfl⟩) ?_
    refine mK hok rfl rfl (fun a' w' F' E' => o_move (F'.ev rfl) ⟨Ext.refl _ _, rfl⟩) ?_
    refine mKG hok rfl rfl rfl rfl (fun a' w' F' E' => o_move (F'.ev rfl) ⟨Ext.refl _ _, rfl⟩) ?_
    refine mKG hok rfl rfl rfl rfl (fun a' w' F' E' => o_move (F'.ev rfl) ⟨Ext.refl _ _, rfl⟩) ?_
    refine mEXG (V := InsP w1.heap.size) (T' := fun _ w => ∃ k, Mem _ _ w ([(bt, tobj pt len cap k)] ++ _)) hok rfl rfl rfl rfl (InsP.staysBut hbw) (fun _ _ _ h e => h.elim fun k hk => ⟨k, hk.later e⟩) (fun a' w' σ' F' E' D' hσ' T' => o_call (F'.ev rfl) (F'.evs rfl) (Cal.mono (spoiledI_c l hnI (by omega) _ _ (hIn _ (hMw _ E')) hno (hT.later (hWw _ (hMw _ E')).any) (T'.heap .here)) fun x w'' hh => by
      obtain ⟨z, kz, hz, hz2, _, N⟩ := hh
      exact ⟨N.ext, ⟨z, hz2, hz.mono E'.size⟩, kz, Mem.turn1 T' N .here⟩)) ?_
    refine mKG hok rfl rfl rfl rfl (fun a' w' F' E' => o_loadA (M1.laterBut E' hB) (F'.ev rfl) (by repeat constructor) (by first | assumption | rfl) ⟨Ext.refl _ _, rfl⟩) ?_
    refine mKG hok rfl rfl rfl rfl (fun a' w' F' E' => o_loadA (M1.laterBut E' hB) (F'.ev rfl) (by repeat constructor) (by first | assumption | rfl) ⟨Ext.refl _ _, rfl⟩) ?_
    refine mKG hok rfl rfl rfl rfl (fun a' w' F' E' => o_loadA (M1.laterBut E' hB) (F'.ev rfl) (by repeat constructor) (by first | assumption | rfl) ⟨Ext.refl _ _, rfl⟩) ?_
    refine mKXG (v := .bool true) hok rfl rfl rfl rfl (fun a' w' F' E' D' => by
      obtain ⟨z, g1, g2⟩ := D' 17 (memDep rfl) (InsP w1.heap.size) (by kernel_rfl)
      obtain ⟨q, c, e, _⟩ := id g2.1
      have F2 := F'.know (d := 97) e
      exact o_call (F2.ev rfl) (F2.evs rfl) (Cal.mono (finds_c z g1 _ src dst hs hd mark hmk false _ (e ▸ g2.1)) fun _ _ hh => ⟨hh.2, hh.1⟩)) ?_
    refine mK hok rfl rfl (fun a' w' F' E' => o_pickT (F'.ev rfl) (F'.ev rfl) ⟨Ext.refl _ _, rfl⟩) ?_
    refine mK hok rfl rfl (fun a' w' F' E' => o_move (F'.ev rfl) ⟨Ext.refl _ _, rfl⟩) ?_
    (refine mKG hok rfl rfl rfl rfl (fun a' w' F' E' => o_call (F'.ev rfl) (F'.evs rfl) (Cal.mono (known27_c _) fun _ _ hh => ⟨hh.2, hh.1⟩)) ?_)
    refine mK hok rfl rfl (fun a' w' F' E' => o_pickT (F'.ev rfl) (F'.ev rfl) ⟨Ext.refl _ _, rfl⟩) ?_
    refine mK hok rfl rfl (fun a' w' F' E' => o_assign (F'.ev rfl) ⟨Ext.refl _ _, rfl⟩) ?_
    (refine mDone rfl hef ?_; clear F M; intro a w F hE2 hX MT hDD hPP; obtain ⟨k6, M⟩ := MT; clear hMw; clear M1; clear hX; clear hE2; clear hok; clear hef; clear hB; clear hDD; clear hPP; (try dsimp only at F))
    with_reducible refine l_nil (q_then (c_ret ?_))
    refine p_ret F rfl (.cons (.tmp (F.ev rfl)) .nil) ?_
    exact ⟨rfl, hWw _ M.ext⟩
end Go.Proofs.YtilgoepokaaleaaGreat
namespace Go.Proofs.YtilgoepokaaleaaGreat
set_option linter.unusedVariables false
set_option linter.unusedSimpArgs false
open Go.ChangeShapes Go.WideShapes Go.ChangeAt Go.RowKit
set_option maxRecDepth 100000 in
theorem routesLookups_contract (H : Type) (enc : TypeId × Value → H) (W : World) (base : Nat) (args : Array Value) (ds gs : List (DataW H)) (before : List MemPlace)
    (hval : ∀ (j : Nat) t v, Tryz.f4.params[j]? = some t → args[j]? = some v → Value.okWide Tryz.prog W .any base t v)
    (hW : DataW.Whole enc Tryz.prog Tryz.f4.params.toList Rows.routesLookupsSpec.vars false W args.toList ds gs before) (hL : laidMetH Tryz.prog seatLaid W) (hS : W.ShapedOpen Tryz.prog) :
    Calls Tryz.prog 4 args W fun e W' => ∃ v, e = .returned v ∧ Rows.routesLookupsSpec.post enc Tryz.prog Tryz.f4 false true false false W args v W' := by
  have hW' := hW
  obtain ⟨p, q, hA0, hV, rfl, hfz, hnd⟩ := hW
  have hA : DataW.TrodAll enc Tryz.prog W 0 (fun _ => true) true Tryz.f4.params.toList args.toList ds p := hA0
  rw [Tryz.params4] at hA hval
  obtain ⟨v0, vs0, d0, ds0, p0, q0, hargs, rfl, rfl, h0, r0⟩ := trodAll_cons hA
  obtain ⟨v1, vs1, d1, ds1, p1, q1, rfl, rfl, rfl, h1, r1⟩ := trodAll_cons r0
  obtain ⟨v2, vs2, d2, ds2, p2, q2, rfl, rfl, rfl, h2, r2⟩ := trodAll_cons r1
  obtain ⟨v3, vs3, d3, ds3, p3, q3, rfl, rfl, rfl, h3, r3⟩ := trodAll_cons r2
  obtain ⟨v4, vs4, d4, ds4, p4, q4, rfl, rfl, rfl, h4, r4⟩ := trodAll_cons r3
  obtain ⟨v5, vs5, d5, ds5, p5, q5, rfl, rfl, rfl, h5, r5⟩ := trodAll_cons r4
  obtain ⟨rfl, rfl, rfl⟩ := trodAll_nil r5
  obtain rfl : args = #[v0, v1, v2, v3, v4, v5] := by cases args; simp_all
  obtain ⟨l0, q0p, cap0, rfl, hc0, hx0⟩ := open_il (hval 0 _ v0 rfl rfl) h0
  obtain ⟨l1, hx1, hs1⟩ := open_ins (hval 1 _ v1 rfl rfl) h1
  obtain ⟨x2, hx2, rfl⟩ := open_ip (hval 2 _ v2 rfl rfl) h2
  obtain ⟨x3, hx3, rfl⟩ := open_ip (hval 3 _ v3 rfl rfl) h3
  obtain ⟨x4, hx4, rfl⟩ := open_dv (hval 4 _ v4 rfl rfl) h4
  obtain ⟨x5, rfl⟩ := okWide_bool Tryz.underlying4 (hval 5 _ v5 rfl rfl)
  refine ((lookupsL_c l1 hx1 v1 x2 x3 hx2 hx3 x4 hx4 x5 q0p cap0 l0 W hs1 hx0 hc0).calls).mono ?_
  rintro e W' ⟨v, rfl, rfl, hE⟩
  exact ⟨_, rfl, law_post (tb := 4) laidOut (by kernel_rfl) rfl (by kernel_rfl) Tryz.underlying4 (fun xs hx => by rw [Tryz.params4] at hx; match xs, hx with | [_, _, _, _, _, _], _ => rfl) hW' hE⟩
set_option maxRecDepth 100000 in
theorem routesLookups_lifted (os : Os) (started : os.Started) (H : Type) (enc : TypeId × Value → H) (F : Stop.Interp) :
    ReturnsInHanded {} Tryz.checked os 4 .any ((OpenSpec.ofChange Rows.routesLookupsSpec).preRow enc Tryz.prog Tryz.f4 Rows.routesLookupsRow.domain false Rows.routesLookupsRow.laid) (((OpenSpec.ofChange Rows.routesLookupsSpec).at F).post enc Tryz.prog Tryz.f4 false true false false) := by
  have hx : ∃ places ds, DataW.whole enc Tryz.prog ((laidWorld os).forCall (fun _ _ => 0) ⟨#[], #[.slice none 0 0, .slice none 0 0, .agg (ipC (List.replicate 16 0)).toArray, .agg (ipC (List.replicate 16 0)).toArray, .agg (dvC ⟨List.replicate 16 0, 0, List.replicate 16 0, 0, 0⟩).toArray, .bool false], []⟩).memory Tryz.f4.params.toList Rows.routesLookupsSpec.vars false #[Value.slice none 0 0, .slice none 0 0, .agg (ipC (List.replicate 16 0)).toArray, .agg (ipC (List.replicate 16 0)).toArray, .agg (dvC ⟨List.replicate 16 0, 0, List.replicate 16 0, 0, 0⟩).toArray, .bool false].toList 8 = some (ds, [], places) ∧ ds = [.nil, .nil, .agg (List.replicate 16 (.lit (.int .u8 0))), .agg (List.replicate 16 (.lit (.int .u8 0))), .agg [.agg [.agg (List.replicate 16 (.lit (.int .u8 0))), .lit (.int .i64 0)], .agg [.agg (List.replicate 16 (.lit (.int .u8 0))), .lit (.int .i64 0)], .lit (.int .u64 0)], .lit (.bool false)] := ⟨[], [.nil, .nil, .agg (List.replicate 16 (.lit (.int .u8 0))), .agg (List.replicate 16 (.lit (.int .u8 0))), .agg [.agg [.agg (List.replicate 16 (.lit (.int .u8 0))), .lit (.int .i64 0)], .agg [.agg (List.replicate 16 (.lit (.int .u8 0))), .lit (.int .i64 0)], .lit (.int .u64 0)], .lit (.bool false)], by kernel_rfl, rfl⟩
  obtain ⟨places, ds, hx, rfl⟩ := hx
  refine returnsInHanded_of_row (C := Tryz.checked) (s := OpenSpec.ofChange Rows.routesLookupsSpec) own started (by kernel_rfl) Tryz.func4
    (witness_row_at (enc := enc) (C := Tryz.checked) false (laidWorld os) #[.slice none 0 0, .slice none 0 0, .agg (ipC (List.replicate 16 0)).toArray, .agg (ipC (List.replicate 16 0)).toArray, .agg (dvC ⟨List.replicate 16 0, 0, List.replicate 16 0, 0, 0⟩).toArray, .bool false] rfl (by kernel_rfl) (by kernel_rfl) (by kernel_rfl)
      (OpenSpec.preRow_of_cond 8 hx (by kernel_rfl) (fun k hk => by cases hk) (by kernel_rfl) (laid_met os _))) ?_
  intro W base args ds gs before hval hW _ hcond _ hL hS _
  exact routesLookups_contract H enc W base args ds gs before hval hW hL hS
theorem routesLookups_said : Rows.RoutesLookupsSaid :=
  OpenClaim.holds_of_cond 4 Tryz.f4 rfl rfl rfl rfl rfl rfl rfl ⟨rfl, rfl, rfl, rfl, rfl⟩ rfl rfl rfl rfl rfl (by kernel_rfl) Tryz.func4 (by kernel_rfl)
    (of_decide_eq_true (by kernel_rfl)) (by unfold Func.isWrapper; first | (rw [if_pos (by decide +kernel)]; kernel_rfl) | (rw [if_neg (by decide +kernel)]; exact ⟨rfl, rfl⟩))
    (fun os started H enc _ F => by rw [OpenClaim.pre_eq_preRow]; exact routesLookups_lifted os started H enc F)
#print axioms routesLookups_said
end Go.Proofs.YtilgoepokaaleaaGreat

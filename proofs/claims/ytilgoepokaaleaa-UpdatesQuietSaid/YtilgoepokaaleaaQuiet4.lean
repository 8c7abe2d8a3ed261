/-
  PROVED: for every input UpdatesQuiet answers true, and each argument reads afterwards as it read before.
-/
import Derived.Test.YtilgoepokaaleaaQuiet3
import Derived.Shelf.SlSortCmp.WholeK
import Derived.Shelf.SlSortCmp.NoneTotal
import Derived.Test.YtilgoepokaaleaaProg
/-! YB -/
namespace Go.Proofs.Ytilgoepokaaleaa
set_option linter.unusedVariables false
set_option linter.unusedSimpArgs false
open Go.RowKit
attribute [local irreducible] OpTo wpListIn Code.wpIn MW Cal
/-! slices in new memory -/
def SlN (n0 : Nat) (W : World) (sz : Nat) (v : Value) (n : Nat) (cs : List Value) : Prop := SlAt W sz v n cs ∧ NewV n0 v
section
variable {n0 n1 bt sz n : Nat} {W w : World} {v : Value} {cs : List Value}
theorem SlN.mono (h : SlN n1 W sz v n cs) (hle : n0 ≤ n1) : SlN n0 W sz v n cs := ⟨h.1, fun b o s k c e => Nat.le_trans hle (h.2 b o s k c e)⟩
theorem SlN.notIn (h : SlN n0 W sz v n cs) (hbt : bt < n0) : ∀ b o s k c, v = .slice (some ⟨b, o, s⟩) k c → b ∉ [bt] := fun b o s k c e hb => by
  have := h.2 b o s k c e
  simp only [List.mem_singleton] at hb
  omega
theorem SlN.laterB (h : SlN n0 W sz v n cs) (hbt : bt < n0) (E : Ext [bt] W w) : SlN n0 w sz v n cs := ⟨h.1.laterB (h.notIn hbt) E, h.2⟩
theorem SlN.later (h : SlN n0 W sz v n cs) (E : Ext [] W w) : SlN n0 w sz v n cs := ⟨h.1.later E, h.2⟩
theorem SlN.nil (n0 sz : Nat) (W : World) : SlN n0 W sz (.slice none 0 0) 0 [] := ⟨SlAt.nil _ _, NewV.nil _ _ _⟩
theorem OwnS.slN {e : TypeId} {ent : List (Nat × Obj)} (h : OwnS e sz v n cs ent) {S : List Nat} {W0 : World} {l : List (Nat × Obj)} (M : Mem S W0 w l) (hs : ∀ p ∈ ent, p ∈ l) (hS : ∀ p ∈ ent, p.1 ∉ S) : SlN W0.heap.size w sz v n cs := by
  refine ⟨h.slAt M hs, ?_⟩
  rcases h with ⟨rfl, _, _, rfl⟩ | ⟨b, cap, junk, rfl, rfl, _, _, _⟩
  · exact NewV.nil _ _ _
  · intro b' o s n c h
    cases h
    exact (M.own _ (hs _ List.mem_cons_self)).resolve_left (hS _ List.mem_cons_self)
theorem SlAt.mem {q : Option Addr} {cap : Nat} (h : SlAt W sz (.slice q n cap) n cs) : 0 < n → ∃ b o xs t fz, q = some ⟨b, o, none⟩ ∧ W.heap[b]? = some (.cells (List.toArray xs) t fz) ∧ seg xs o (n * sz) = some cs := by
  obtain ⟨p, cap', e, _, _, _, h5⟩ := h
  cases e
  exact h5
theorem nd_not {b : Nat} {o : Obj} {l ent : List (Nat × Obj)} (h : (((b, o) :: l).map (·.1)).Nodup) (hs : ∀ p ∈ ent, p ∈ l) : ∀ p ∈ ent, p.1 ∉ [b] := fun p hp hb => by
  simp only [List.mem_singleton] at hb
  exact (List.nodup_cons.1 h).1 (List.mem_map.2 ⟨p, hs p hp, hb⟩)
end
/-! PutInstalled, plain -/
def putG (x : InsV) : Bool → List InsV → List InsV
  | done, [] => if done then [] else [x]
  | done, y :: l => (if decide (0 ≤ cmpD y.to x.to) && !done then [x] else []) ++ ((if cmpD y.to x.to = 0 then [] else [y]) ++ putG x (done || decide (0 ≤ cmpD y.to x.to)) l)
theorem putG_cons {x y : InsV} {l : List InsV} {done : Bool} : putG x done (y :: l) = (if decide (0 ≤ cmpD y.to x.to) && !done then [x] else []) ++ ((if cmpD y.to x.to = 0 then [] else [y]) ++ putG x (done || decide (0 ≤ cmpD y.to x.to)) l) := by
  conv => lhs; unfold putG
theorem putG_mem {x : InsV} : ∀ {done : Bool} {l : List InsV} {z : InsV}, z ∈ putG x done l → z = x ∨ z ∈ l
  | done, [], z, h => by
    unfold putG at h
    cases done <;> simp_all
  | done, y :: l, z, h => by
    unfold putG at h
    rcases List.mem_append.1 h with h | h
    · split at h
      · exact .inl (by simpa using h)
      · cases h
    · rcases List.mem_append.1 h with h | h
      · split at h
        · cases h
        · exact .inr (by simp at h; simp [h])
      · exact (putG_mem h).imp_right fun h => List.mem_cons_of_mem _ h
theorem putG_len {x : InsV} : ∀ {done : Bool} {l : List InsV}, (putG x done l).length ≤ l.length + (if done then 0 else 1)
  | done, [] => by
    unfold putG
    cases done <;> simp
  | done, y :: l => by
    rw [putG_cons]
    have := putG_len (x := x) (done := done || decide (0 ≤ cmpD y.to x.to)) (l := l)
    generalize decide (0 ≤ cmpD y.to x.to) = g at *
    have h1 : (if cmpD y.to x.to = 0 then [] else [y]).length ≤ 1 := by split <;> simp
    generalize (if cmpD y.to x.to = 0 then [] else [y]) = ys at *
    rw [List.length_append, List.length_append, List.length_cons]
    cases done <;> cases g <;> simp at this ⊢ <;> omega
theorem putG_done {x : InsV} : ∀ {l : List InsV}, (∀ y ∈ l, cmpD x.to y.to < 0) → putG x true l = l
  | [], _ => rfl
  | y :: l, h => by
    have h1 := h y List.mem_cons_self
    have h2 := cmpD_anti x.to y.to
    rw [putG_cons, Bool.true_or, putG_done fun z hz => h z (List.mem_cons_of_mem _ hz), Bool.not_true, Bool.and_false, if_neg Bool.false_ne_true, if_neg (show ¬ cmpD y.to x.to = 0 by omega)]
    rfl
theorem putG_asc {x : InsV} (hx : IsDv x.to) : ∀ {l : List InsV}, AscK InsV.to l → (∀ y ∈ l, IsDv y.to) → AscK InsV.to (putG x false l)
  | [], _, _ => by
    unfold putG
    exact List.pairwise_singleton _ _
  | y :: l, h, hd => by
    obtain ⟨h1, h2⟩ := List.pairwise_cons.1 h
    have ih := putG_asc hx h2 fun z hz => hd z (List.mem_cons_of_mem _ hz)
    have ha := cmpD_anti y.to x.to
    rw [putG_cons]
    rcases Int.lt_trichotomy (cmpD y.to x.to) 0 with hc | hc | hc
    · rw [decide_eq_false (by omega), if_neg (show ¬ cmpD y.to x.to = 0 by omega)]
      simp only [Bool.false_and, Bool.false_or, Bool.false_eq_true, if_false, List.nil_append, List.cons_append]
      refine List.pairwise_cons.2 ⟨fun z hz => ?_, ih⟩
      rcases putG_mem hz with rfl | hz
      · exact hc
      · exact h1 z hz
    · have e := cmpD_zero (hd y List.mem_cons_self) hx hc
      rw [decide_eq_true (by omega), if_pos hc]
      have hl : ∀ z ∈ l, cmpD x.to z.to < 0 := fun z hz => by rw [← e]; exact h1 z hz
      simp only [Bool.not_false, Bool.true_and, if_true, Bool.or_true, List.nil_append, putG_done hl, List.singleton_append]
      exact List.pairwise_cons.2 ⟨hl, h2⟩
    · rw [decide_eq_true (by omega), if_neg (show ¬ cmpD y.to x.to = 0 by omega)]
      have hl : ∀ z ∈ l, cmpD x.to z.to < 0 := fun z hz => cmpD_trans (show cmpD x.to y.to < 0 by omega) (h1 z hz)
      simp only [Bool.not_false, Bool.true_and, if_true, Bool.or_true, putG_done hl, List.singleton_append]
      refine List.pairwise_cons.2 ⟨fun z hz => ?_, h⟩
      rcases List.mem_cons.1 hz with rfl | hz
      · omega
      · exact hl z hz
set_option maxHeartbeats 4000000 in
theorem put_c (l : List InsV) (hl : ∀ x ∈ l, IsIn x) (x : InsV) (hx : IsIn x) (hlen : l.length ≤ 100000) (v : Value) (W : World) (hS : SlAt W 40 v l.length (insC l)) :
    Cal Try.prog 55 [v, .agg (inC x).toArray].toArray W fun r w' => ∃ ent, OwnS 62 40 r (putG x false l).length (insC (putG x false l)) ent ∧ Mem [] W w' ent := by
  obtain ⟨q, cap, rfl, hcap, hsp, hll, hm⟩ := hS
  have x1 : (inC x).length = 40 := in_len hx
  have x2 := in_all hx
  have x3 := in_to hx
  have hpl := putG_len (x := x) (done := false) (l := l)
  rw [if_neg (by simp)] at hpl
  refine fn_ofM (n := 45) [] Try.func55 rfl rfl rfl ?_
  intro a w F M hwW
  refine c_seq ?_
  refine c_region ?_
  (refine stepD rfl F rfl (o_box M (F.ev rfl) rfl ?_); clear F; clear M; intro b3 w M a F)
  refine stepD rfl F rfl (o_assign (F.ev rfl) ?_); clear F; clear a; intro a F
  with_reducible refine l_nil ?_
  with_reducible refine q_then ?_
  with_reducible refine c_seq ?_
  with_reducible refine c_region ?_
  refine stepD rfl F rfl (o_assign (F.ev rfl) ?_); clear F; clear a; intro a F
  with_reducible refine l_nil ?_
  with_reducible refine q_then ?_
  with_reducible refine c_seq ?_
  with_reducible refine c_region ?_
  refine stepD rfl F rfl (o_assign (F.ev rfl) ?_); clear F; clear a; intro a F
  with_reducible refine l_nil ?_
  with_reducible refine q_then ?_
  with_reducible refine c_seq ?_
  with_reducible refine c_seq ?_
  with_reducible refine c_region ?_
  refine stepD rfl F rfl (o_move (F.ev rfl) ?_); clear F; clear a; intro a F
  refine stepD rfl F rfl (o_lenSl (F.ev rfl) ?_); clear F; clear a; intro a F
  refine stepD rfl F rfl (o_move (F.ev rfl) ?_); clear F; clear a; intro a F
  with_reducible refine l_nil ?_
  with_reducible refine q_then ?_
  with_reducible refine c_block ?_
  obtain ⟨u, hu⟩ : ∃ u, u = Value.slice none 0 0 := ⟨_, rfl⟩
  rw [← hu] at F
  obtain ⟨es, hes⟩ : ∃ es : List (Nat × Obj), es = [] := ⟨_, rfl⟩
  replace M : Mem [] W w ((b3, .cells (inC x).toArray 62 (0, 0)) :: es) := by
    rw [hes]
    exact M
  have hOs : OwnS 62 40 u ([] : List InsV).length (insC []) es := by
    rw [hu, hes]
    exact OwnS.nil _ _
  clear hu hes
  refine c_loop (fun m a w => ∃ (i : Nat) (u : Value) (dn : Bool) (out : List InsV) (es : List (Nat × Obj)), m = l.length - i ∧ i ≤ l.length ∧ out ++ putG x dn (l.drop i) = putG x false l ∧ OwnS 62 40 u out.length (insC out) es ∧ Frm a 45 [] [(12, .int .i64 i), (11, .int .i64 l.length), (10, .slice q l.length cap), (5, u), (6, .bool dn), (3, .pointer (some ⟨b3, 0, none⟩))] ∧ Mem [] W w ((b3, .cells (inC x).toArray 62 (0, 0)) :: es)) l.length ⟨0, u, false, [], es, rfl, by omega, rfl, hOs, F.only [12, 11, 10, 5, 6, 3] rfl, M⟩ ?_
  clear F M a w hOs u es
  rintro m a w ⟨i, u, dn, out, es, hm', hi, hout, hOs, F, M⟩
  have hol : out.length ≤ 100001 := by
    have := congrArg List.length hout
    rw [List.length_append] at this
    omega
  by_cases hlt : i < l.length
  · obtain ⟨b, o, cs, t, fz, rfl, hb, hs⟩ := hm (by omega)
    obtain ⟨y, hy0⟩ : ∃ y, y = l[i] := ⟨_, rfl⟩
    have hyi : IsIn y := by rw [hy0]; exact hl _ (List.getElem_mem hlt)
    have f1 : seg cs (o + (i : Int).toNat * 40) 40 = some (inC y) := by rw [hy0]; exact seg_el (ins_len hl) hs hlt (by omega)
    rw [← List.getElem_cons_drop hlt, ← hy0, putG_cons] at hout
    have f2 : (inC y).length = 40 := in_len hyi
    have f3 := in_to hyi
    have f4 := in_all hyi
    with_reducible refine c_seq ?_
    with_reducible refine c_region ?_
    refine stepD rfl F rfl (o_lssT (F.ev rfl) (F.ev rfl) (by omega) ?_); clear F; clear a; intro a F
    with_reducible refine l_nil ?_
    with_reducible refine q_then ?_
    with_reducible refine c_seq ?_
    refine c_true F rfl rfl ?_
    with_reducible refine c_skip ?_
    with_reducible refine q_then ?_
    with_reducible refine c_seq ?_
    with_reducible refine c_block ?_
    with_reducible refine c_seq ?_
    with_reducible refine c_region ?_
    refine stepD rfl F rfl (o_indexSl (F.ev rfl) (F.ev rfl) (by omega) (by omega) ?_); clear F; clear a; intro a F
    refine stepD rfl F rfl (o_loadWA M (F.ev rfl) (by assumption) (by first | assumption | rfl) ?_); clear F; clear a; intro a F
    (refine stepD rfl F rfl (o_alloc M ?_); clear F; clear M; intro b8 w M a F)
    skip
    (refine stepN rfl F (o_storeA M (F.ev rfl) (F.ev rfl) (f2) (in_one y)  (by repeat (first | exact .here | apply Has.there))  (put_all (by rw [f2]; rfl)) (by repeat (first | exact .here | apply Upd.there)) ?_); clear F; clear M; intro w M a F)
    with_reducible refine l_nil ?_
    with_reducible refine q_then ?_
    with_reducible refine c_seq ?_
    with_reducible refine c_region ?_
    refine stepD rfl F rfl (o_fieldAddr (F.ev rfl) ?_); clear F; clear a; intro a F
    refine stepD rfl F rfl (o_loadA M (F.ev rfl) (by repeat (first | exact .here | apply Has.there)) (by first | assumption | rfl) ?_); clear F; clear a; intro a F
    refine stepD rfl F rfl (o_fieldAddr (F.ev rfl) ?_); clear F; clear a; intro a F
    refine stepD rfl F rfl (o_loadA M (F.ev rfl) (by repeat (first | exact .here | apply Has.there)) (by first | assumption | rfl) ?_); clear F; clear a; intro a F
    (refine stepD rfl F rfl (o_call (F.ev rfl) (F.evs rfl) (Cal.mono (rcompare_c y.to x.to hyi.1 hx.1 _) ?_)); clear F; clear a; rintro _ w ⟨rfl, hE⟩ a F; replace M := M.later hE; clear hE)
    generalize cmpD y.to x.to = cc at *
    refine stepD rfl F rfl (o_assign (F.ev rfl) ?_); clear F; clear a; intro a F
    with_reducible refine l_nil ?_
    refine q_then ?_
    refine c_seq ?_
    refine c_cut (fun a w => ∃ (u : Value) (out2 : List InsV) (es : List (Nat × Obj)), out2 = out ++ (if decide (0 ≤ cc) && !dn then [x] else []) ∧ OwnS 62 40 u out2.length (insC out2) es ∧ Frm a 45 [] [(9, .int .i64 cc), (12, .int .i64 i), (11, .int .i64 l.length), (10, .slice (some ⟨b, o, none⟩) l.length cap), (5, u), (6, .bool (dn || decide (0 ≤ cc))), (3, .pointer (some ⟨b3, 0, none⟩)), (8, .pointer (some ⟨b8, 0, none⟩))] ∧ Mem [] W w ((b8, .cells (inC y).toArray 62 (0, 0)) :: (b3, .cells (inC x).toArray 62 (0, 0)) :: es)) ?_ ?_
    · by_cases hc : 0 ≤ cc
      · rw [decide_eq_true hc]
        cases dn
        · with_reducible refine c_seq ?_
          with_reducible refine c_region ?_
          refine stepD rfl F rfl (o_move (F.ev rfl) ?_); clear F; clear a; intro a F
          refine stepD rfl F rfl (o_geqT (F.ev rfl) (F.ev rfl) (by omega) ?_); clear F; clear a; intro a F
          refine stepD rfl F rfl (o_move (F.ev rfl) ?_); clear F; clear a; intro a F
          refine stepG rfl F rfl rfl rfl (o_move (F.ev rfl) ?_); clear F; clear a; intro a F
          refine stepG rfl F rfl rfl rfl (o_not (F.ev rfl) ?_); clear F; clear a; intro a F
          refine stepD rfl F rfl (o_pickT (F.ev rfl) (F.ev rfl) ?_); clear F; clear a; intro a F
          with_reducible refine l_nil ?_
          with_reducible refine q_then ?_
          refine c_true F rfl rfl ?_
          with_reducible refine c_seq ?_
          with_reducible refine c_region ?_
          refine stepD rfl F rfl (o_move (F.ev rfl) ?_); clear F; clear a; intro a F
          refine stepD rfl F rfl (o_loadA M (F.ev rfl) (by repeat (first | exact .here | apply Has.there)) (by first | assumption | rfl) ?_); clear F; clear a; intro a F
          (refine stepD rfl F rfl (o_buildSlice F M rfl rfl rfl (in_build1 hx) ?_); clear F; clear M; intro bs w M a F)
          (refine stepD rfl F rfl (o_append hOs M (.cons (.cons (.cons .here))) (F.ev rfl) (F.ev rfl) (SrcOf.cells' (M.heap .here) (sg_all (by omega)) (in_one _)) (by omega) (by omega) ?_); clear F; clear M; intro v2 es2 w hO2 M a F)
          refine stepD rfl F rfl (o_assign (F.ev rfl) ?_); clear F; clear a; intro a F
          with_reducible refine l_nil ?_
          with_reducible refine q_then ?_
          with_reducible refine c_region ?_
          refine stepD rfl F rfl (o_assign (F.ev rfl) ?_); clear F; clear a; intro a F
          with_reducible refine l_nil ?_
          exact ⟨v2, _, es2, rfl, by show OwnS _ 40 _ (out ++ [x]).length (encL inC (out ++ [x])) _; rw [show (out ++ [x]).length = out.length + 1 by simp, encL_app, encL_one]; exact hO2, F.only [9, 12, 11, 10, 5, 6, 3, 8] rfl, M.sub (.cons _ (.refl _))⟩
        · with_reducible refine c_seq ?_
          with_reducible refine c_region ?_
          refine stepD rfl F rfl (o_move (F.ev rfl) ?_); clear F; clear a; intro a F
          refine stepD rfl F rfl (o_geqT (F.ev rfl) (F.ev rfl) (by omega) ?_); clear F; clear a; intro a F
          refine stepD rfl F rfl (o_move (F.ev rfl) ?_); clear F; clear a; intro a F
          refine stepG rfl F rfl rfl rfl (o_move (F.ev rfl) ?_); clear F; clear a; intro a F
          refine stepG rfl F rfl rfl rfl (o_not (F.ev rfl) ?_); clear F; clear a; intro a F
          refine stepD rfl F rfl (o_pickT (F.ev rfl) (F.ev rfl) ?_); clear F; clear a; intro a F
          with_reducible refine l_nil ?_
          with_reducible refine q_then ?_
          refine c_false F rfl rfl ?_
          with_reducible refine c_skip ?_
          exact ⟨u, _, es, rfl, by rw [if_neg (by simp), List.append_nil]; exact hOs, F.only [9, 12, 11, 10, 5, 6, 3, 8] rfl, M⟩
      · rw [decide_eq_false hc]
        with_reducible refine c_seq ?_
        with_reducible refine c_region ?_
        refine stepD rfl F rfl (o_move (F.ev rfl) ?_); clear F; clear a; intro a F
        refine stepD rfl F rfl (o_geqF (F.ev rfl) (F.ev rfl) (by omega) ?_); clear F; clear a; intro a F
        refine stepD rfl F rfl (o_move (F.ev rfl) ?_); clear F; clear a; intro a F
        refine stepOff F rfl rfl rfl rfl ?_; clear F; clear a; intro a F
        refine stepOff F rfl rfl rfl rfl ?_; clear F; clear a; intro a F
        refine stepD rfl F rfl (o_pickF (F.ev rfl) (F.ev rfl) ?_); clear F; clear a; intro a F
        with_reducible refine l_nil ?_
        with_reducible refine q_then ?_
        refine c_false F rfl rfl ?_
        with_reducible refine c_skip ?_
        exact ⟨u, _, es, rfl, by rw [if_neg (by simp), List.append_nil]; exact hOs, by rw [Bool.or_false]; exact F.only [9, 12, 11, 10, 5, 6, 3, 8] rfl, M⟩
    clear F M a w hOs u es
    rintro a w ⟨u, out2, es, hout2, hOs, F, M⟩
    rw [← List.append_assoc, ← hout2] at hout
    have hol2 : out2.length ≤ 100001 := by
      have := congrArg List.length hout
      rw [List.length_append] at this
      omega
    generalize (dn || decide (0 ≤ cc)) = dn2 at *
    by_cases hc : cc = 0
    · rw [if_pos hc, List.nil_append] at hout
      with_reducible refine q_then ?_
      with_reducible refine c_seq ?_
      with_reducible refine c_region ?_
      refine stepD rfl F rfl (o_move (F.ev rfl) ?_); clear F; clear a; intro a F
      refine stepD rfl F rfl (o_neqF (F.ev rfl) (F.ev rfl) (by omega) ?_); clear F; clear a; intro a F
      with_reducible refine l_nil ?_
      with_reducible refine q_then ?_
      refine c_false F rfl rfl ?_
      with_reducible refine c_skip ?_
      with_reducible refine q_inB ?_
      with_reducible refine q_then ?_
      with_reducible refine c_region ?_
      refine stepD rfl F rfl (o_add (F.ev rfl) (F.ev rfl) (w_i64 (by omega) (by omega)) ?_); clear F; clear a; intro a F
      refine stepD rfl F rfl (o_move (F.ev rfl) ?_); clear F; clear a; intro a F
      with_reducible refine l_nil ?_
      with_reducible refine q_then ?_
      exact ⟨_, by omega, i + 1, u, dn2, out2, es, rfl, by omega, hout, hOs, F.only [12, 11, 10, 5, 6, 3] rfl, M.sub (.cons _ (.refl _))⟩
    · rw [if_neg hc, ← List.append_assoc] at hout
      with_reducible refine q_then ?_
      with_reducible refine c_seq ?_
      with_reducible refine c_region ?_
      refine stepD rfl F rfl (o_move (F.ev rfl) ?_); clear F; clear a; intro a F
      refine stepD rfl F rfl (o_neqT (F.ev rfl) (F.ev rfl) (by omega) ?_); clear F; clear a; intro a F
      with_reducible refine l_nil ?_
      with_reducible refine q_then ?_
      refine c_true F rfl rfl ?_
      with_reducible refine c_region ?_
      refine stepD rfl F rfl (o_move (F.ev rfl) ?_); clear F; clear a; intro a F
      refine stepD rfl F rfl (o_loadA M (F.ev rfl) (by repeat (first | exact .here | apply Has.there)) (by first | assumption | rfl) ?_); clear F; clear a; intro a F
      (refine stepD rfl F rfl (o_buildSlice F M rfl rfl rfl (in_build1 hyi) ?_); clear F; clear M; intro bs w M a F)
      (refine stepD rfl F rfl (o_append hOs M (.cons (.cons (.cons .here))) (F.ev rfl) (F.ev rfl) (SrcOf.cells' (M.heap .here) (sg_all (by omega)) (in_one _)) (by omega) (by omega) ?_); clear F; clear M; intro v2 es2 w hO2 M a F)
      refine stepD rfl F rfl (o_assign (F.ev rfl) ?_); clear F; clear a; intro a F
      with_reducible refine l_nil ?_
      with_reducible refine q_inB ?_
      with_reducible refine q_then ?_
      with_reducible refine c_region ?_
      refine stepD rfl F rfl (o_add (F.ev rfl) (F.ev rfl) (w_i64 (by omega) (by omega)) ?_); clear F; clear a; intro a F
      refine stepD rfl F rfl (o_move (F.ev rfl) ?_); clear F; clear a; intro a F
      with_reducible refine l_nil ?_
      with_reducible refine q_then ?_
      exact ⟨_, by omega, i + 1, v2, dn2, out2 ++ [y], es2, rfl, by omega, hout, by show OwnS _ 40 _ (out2 ++ [y]).length (encL inC (out2 ++ [y])) _; rw [show (out2 ++ [y]).length = out2.length + 1 by simp, encL_app, encL_one]; exact hO2, F.only [12, 11, 10, 5, 6, 3] rfl, M.sub (.cons _ (.cons _ (.refl _)))⟩
  · obtain rfl : i = l.length := by omega
    rw [List.drop_length] at hout
    cases dn
    · have hout : out ++ [x] = putG x false l := hout
      rw [← hout]
      with_reducible refine c_seq ?_
      with_reducible refine c_region ?_
      refine stepD rfl F rfl (o_lssF (F.ev rfl) (F.ev rfl) (by omega) ?_); clear F; clear a; intro a F
      with_reducible refine l_nil ?_
      with_reducible refine q_then ?_
      with_reducible refine c_seq ?_
      refine c_false F rfl rfl ?_
      with_reducible refine c_exit ?_
      with_reducible refine q_thenX ?_
      with_reducible refine q_thenX ?_
      with_reducible refine q_inBX ?_
      with_reducible refine q_then ?_
      with_reducible refine c_seq ?_
      with_reducible refine c_seq ?_
      with_reducible refine c_region ?_
      refine stepD rfl F rfl (o_move (F.ev rfl) ?_); clear F; clear a; intro a F
      refine stepD rfl F rfl (o_not (F.ev rfl) ?_); clear F; clear a; intro a F
      with_reducible refine l_nil ?_
      with_reducible refine q_then ?_
      refine c_true F rfl rfl ?_
      with_reducible refine c_region ?_
      refine stepD rfl F rfl (o_move (F.ev rfl) ?_); clear F; clear a; intro a F
      refine stepD rfl F rfl (o_loadA M (F.ev rfl) (by repeat (first | exact .here | apply Has.there)) (by first | assumption | rfl) ?_); clear F; clear a; intro a F
      (refine stepD rfl F rfl (o_buildSlice F M rfl rfl rfl (in_build1 hx) ?_); clear F; clear M; intro bs w M a F)
      (refine stepD rfl F rfl (o_append hOs M (.cons (.cons .here)) (F.ev rfl) (F.ev rfl) (SrcOf.cells' (M.heap .here) (sg_all (by omega)) (in_one _)) (by omega) (by omega) ?_); clear F; clear M; intro v2 es2 w hO2 M a F)
      refine stepD rfl F rfl (o_assign (F.ev rfl) ?_); clear F; clear a; intro a F
      with_reducible refine l_nil ?_
      with_reducible refine q_then ?_
      with_reducible refine c_seq ?_
      with_reducible refine c_region ?_
      refine stepD rfl F rfl (o_move (F.ev rfl) ?_); clear F; clear a; intro a F
      refine stepD rfl F rfl (o_assign (F.ev rfl) ?_); clear F; clear a; intro a F
      with_reducible refine l_nil ?_
      with_reducible refine q_then ?_
      with_reducible refine c_ret ?_
      refine p_ret F rfl (.cons (.tmp (F.ev rfl)) .nil) ?_
      exact ⟨es2, by show OwnS _ 40 _ (out ++ [x]).length (encL inC (out ++ [x])) _; rw [show (out ++ [x]).length = out.length + 1 by simp, encL_app, encL_one]; exact hO2, M.sub (.cons _ (.cons _ (.refl _)))⟩
    · have hout : out ++ [] = putG x false l := hout
      rw [List.append_nil] at hout
      rw [← hout]
      with_reducible refine c_seq ?_
      with_reducible refine c_region ?_
      refine stepD rfl F rfl (o_lssF (F.ev rfl) (F.ev rfl) (by omega) ?_); clear F; clear a; intro a F
      with_reducible refine l_nil ?_
      with_reducible refine q_then ?_
      with_reducible refine c_seq ?_
      refine c_false F rfl rfl ?_
      with_reducible refine c_exit ?_
      with_reducible refine q_thenX ?_
      with_reducible refine q_thenX ?_
      with_reducible refine q_inBX ?_
      with_reducible refine q_then ?_
      with_reducible refine c_seq ?_
      with_reducible refine c_seq ?_
      with_reducible refine c_region ?_
      refine stepD rfl F rfl (o_move (F.ev rfl) ?_); clear F; clear a; intro a F
      refine stepD rfl F rfl (o_not (F.ev rfl) ?_); clear F; clear a; intro a F
      with_reducible refine l_nil ?_
      with_reducible refine q_then ?_
      refine c_false F rfl rfl ?_
      with_reducible refine c_skip ?_
      with_reducible refine q_then ?_
      with_reducible refine c_seq ?_
      with_reducible refine c_region ?_
      refine stepD rfl F rfl (o_move (F.ev rfl) ?_); clear F; clear a; intro a F
      refine stepD rfl F rfl (o_assign (F.ev rfl) ?_); clear F; clear a; intro a F
      with_reducible refine l_nil ?_
      with_reducible refine q_then ?_
      with_reducible refine c_ret ?_
      refine p_ret F rfl (.cons (.tmp (F.ev rfl)) .nil) ?_
      exact ⟨es, hOs, M.sub (.cons _ (.refl _))⟩
end Go.Proofs.Ytilgoepokaaleaa
/-! YC -/
namespace Go.Proofs.Ytilgoepokaaleaa
set_option linter.unusedVariables false
set_option linter.unusedSimpArgs false
open Go.RowKit
attribute [local irreducible] OpTo wpListIn Code.wpIn MW Cal
/-- an installed destination off the tape -/
def OkI (x : InsV) : Prop := IsIn x ∧ validT x.to = true ∧ validM x.own.met = true
structure InsO (n0 : Nat) (W : World) (v : Value) (l : List InsV) : Prop where
  at_ : SlN n0 W 40 v l.length (insC l)
  ok : ∀ x ∈ l, OkI x
  asc : AscK InsV.to l
theorem in_buildI {d : DstV} (hd : IsDv d) (e : Int) (o : DisV) : putAll [(0, 35), (35, 1), (36, 2), (38, 1), (39, 1)] inZ [(0, dvC d), (1, [.int .u64 e]), (2, diC o), (3, [.int .i64 (-1)])] = some (inC ⟨d, e, o, -1, 0⟩) := by
  obtain ⟨p1, n1, p2, n2, rt⟩ := d
  obtain ⟨x0, x1, x2, x3, x4, x5, x6, x7, x8, x9, x10, x11, x12, x13, x14, x15, e0⟩ := len16 (show p1.length = 16 from hd.1.len)
  obtain ⟨y0, y1, y2, y3, y4, y5, y6, y7, y8, y9, y10, y11, y12, y13, y14, y15, e1⟩ := len16 (show p2.length = 16 from hd.2.len)
  subst e0
  subst e1
  rfl
theorem validM_of {m : Int} (h : 0 ≤ m ∧ m ≤ 65534) : validM m = true := by
  unfold validM
  rw [decide_eq_true h.1, decide_eq_true (by omega)]
  rfl
set_option maxHeartbeats 4000000 in
theorem installed_c {bt : Nat} {p : Option Addr} {len cap k : Nat} {xs : List Int} (now : Int) (h0 : 0 ≤ now) (h1 : now ≤ 1099511627776) (W : World) (hT : TapeS W bt p len xs) (hb : W.heap[bt]? = some (tobj p len cap k)) :
    Cal Try.prog 25 [.pointer (some ⟨bt, 0, none⟩), .int .i64 now, .slice none 0 0].toArray W fun r w' => ∃ l k', InsO W.heap.size w' r l ∧ l.length ≤ 7 ∧ Mem [bt] W w' [(bt, tobj p len cap k')] := by
  have hbt : bt < W.heap.size := (Array.getElem?_eq_some_iff.1 hb).1
  refine fn_ofM (n := 65) [bt] Try.func25 rfl rfl rfl ?_
  intro a w F M hwW
  replace M := M.came hwW hb (by simp) (by simp)
  with_reducible refine c_seq ?_
  with_reducible refine c_region ?_
  refine stepD rfl F rfl (o_assign (F.ev rfl) ?_); clear F; clear a; intro a F
  with_reducible refine l_nil ?_
  with_reducible refine q_then ?_
  with_reducible refine c_seq ?_
  with_reducible refine c_region ?_
  refine stepD rfl F rfl (o_assign (F.ev rfl) ?_); clear F; clear a; intro a F
  with_reducible refine l_nil ?_
  with_reducible refine q_then ?_
  with_reducible refine c_seq ?_
  with_reducible refine c_seq ?_
  with_reducible refine c_region ?_
  refine stepD rfl F rfl (o_move (F.ev rfl) ?_); clear F; clear a; intro a F
  (refine stepD rfl F rfl (o_call (F.ev rfl) (F.evs rfl) (Cal.mono (next_c 8 (by omega) (by omega) _ (hT.later M.ext) (M.heap .here) ) ?_)); clear F; clear a; have M0 := M; clear M; rintro _ w ⟨rfl, N⟩ a F)
  replace M := M0.turn1 N .here
  clear M0 N
  have v1 := nxV_bd xs k (n := 8) (by omega)
  obtain ⟨c0, hc0⟩ := Int.eq_ofNat_of_zero_le v1.1
  rw [hc0] at F v1
  refine stepD rfl F rfl (o_assign (F.ev rfl) ?_); clear F; clear a; intro a F
  with_reducible refine l_nil ?_
  with_reducible refine q_then ?_
  with_reducible refine c_block ?_
  refine c_loop (fun m a w => ∃ (c : Nat) (x : Int) (l : List InsV) (v : Value) (k : Nat), m = c ∧ x = c ∧ l.length + c ≤ 7 ∧ InsO W.heap.size w v l ∧ Frm a 65 [] [(8, .int .i64 x), (7, v), (0, .pointer (some ⟨bt, 0, none⟩)), (1, .int .i64 now), (2, .slice none 0 0)] ∧ Mem [bt] W w [(bt, tobj p len cap k)]) c0 ⟨c0, _, [], _, nxK xs k, rfl, rfl, by simp; omega, ⟨SlN.nil _ _ _, by simp, .nil⟩, F.only [8, 7, 0, 1, 2] rfl, M⟩ ?_
  clear F M
  rintro m a w ⟨c, x, l, v, kk, hm, hxc, hc5, hO, F, M⟩
  by_cases hlt : 0 < c
  · with_reducible refine c_seq ?_
    with_reducible refine c_seq ?_
    with_reducible refine c_region ?_
    refine stepD rfl F rfl (o_move (F.ev rfl) ?_); clear F; clear a; intro a F
    refine stepD rfl F rfl (o_gtrT (F.ev rfl) (F.ev rfl) (by omega) ?_); clear F; clear a; intro a F
    with_reducible refine l_nil ?_
    with_reducible refine q_then ?_
    refine c_true F rfl rfl ?_
    with_reducible refine c_skip ?_
    with_reducible refine q_then ?_
    with_reducible refine c_seq ?_
    with_reducible refine c_block ?_
    with_reducible refine c_seq ?_
    with_reducible refine c_region ?_
    refine stepD rfl F rfl (o_move (F.ev rfl) ?_); clear F; clear a; intro a F
    (refine stepD rfl F rfl (o_call (F.ev rfl) (F.evs rfl) (Cal.mono (toE_c _ (hT.later M.ext) (M.heap .here) ) ?_)); clear F; clear a; have M0 := M; clear M; rintro _ w ⟨d, k2, rfl, hd, hdv, N⟩ a F)
    replace hO : InsO W.heap.size w v l := ⟨hO.at_.laterB hbt N.ext, hO.ok, hO.asc⟩
    replace M := M0.turn1 N .here
    clear M0 N
    refine stepD rfl F rfl (o_move (F.ev rfl) ?_); clear F; clear a; intro a F
    (refine stepD rfl F rfl (o_call (F.ev rfl) (F.evs rfl) (Cal.mono (eui_c _ (hT.later M.ext) (M.heap .here) ) ?_)); clear F; clear a; have M0 := M; clear M; rintro _ w ⟨e, k3, rfl, he, N⟩ a F)
    replace hO : InsO W.heap.size w v l := ⟨hO.at_.laterB hbt N.ext, hO.ok, hO.asc⟩
    replace M := M0.turn1 N .here
    clear M0 N
    refine stepD rfl F rfl (o_move (F.ev rfl) ?_); clear F; clear a; intro a F
    (refine stepD rfl F rfl (o_call (F.ev rfl) (F.evs rfl) (Cal.mono (distE_c _ (hT.later M.ext) (M.heap .here) ) ?_)); clear F; clear a; have M0 := M; clear M; rintro _ w ⟨o, k4, rfl, ho, N⟩ a F)
    replace hO : InsO W.heap.size w v l := ⟨hO.at_.laterB hbt N.ext, hO.ok, hO.asc⟩
    replace M := M0.turn1 N .here
    clear M0 N
    have E0 := M.ext
    obtain ⟨wb, hwb, M⟩ : ∃ wb, wb = w ∧ Mem [bt] wb w [(bt, tobj p len cap k4)] := ⟨w, rfl, M.re (by simp)⟩
    rw [← hwb] at E0 hO
    clear hwb
    have hTw := hT.later E0
    (refine stepD rfl F rfl (o_build F rfl (in_buildI hd e o) ?_); clear F; clear a; intro a F)
    have hi : IsIn ⟨d, e, o, -1, 0⟩ := ⟨hd, trivial⟩
    have hom := validM_of ho
    (refine stepD rfl F rfl (o_alloc M ?_); clear F; clear M; intro b9 w M a F)
    (refine stepN rfl F (o_storeA M (F.ev rfl) (F.ev rfl) (in_len hi) (in_one _)  (by repeat (first | exact .here | apply Has.there))  (put_all (by rw [in_len hi]; rfl)) (by repeat (first | exact .here | apply Upd.there)) ?_); clear F; clear M; intro w M a F)
    with_reducible refine l_nil ?_
    with_reducible refine q_then ?_
    with_reducible refine c_seq ?_
    with_reducible refine c_seq ?_
    with_reducible refine c_region ?_
    refine stepD rfl F rfl (o_move (F.ev rfl) ?_); clear F; clear a; intro a F
    refine stepD rfl F rfl (o_lenSl (F.ev rfl) ?_); clear F; clear a; intro a F
    refine stepD rfl F rfl (o_gtrF (F.ev rfl) (F.ev rfl) (by omega) ?_); clear F; clear a; intro a F
    refine stepD rfl F rfl (o_move (F.ev rfl) ?_); clear F; clear a; intro a F
    refine stepOff F rfl rfl rfl rfl ?_; clear F; clear a; intro a F
    refine stepOff F rfl rfl rfl rfl ?_; clear F; clear a; intro a F
    refine stepD rfl F rfl (o_pickF (F.ev rfl) (F.ev rfl) ?_); clear F; clear a; intro a F
    with_reducible refine l_nil ?_
    with_reducible refine q_then ?_
    refine c_false F rfl rfl ?_
    with_reducible refine c_skip ?_
    with_reducible refine q_then ?_
    with_reducible refine c_seq ?_
    with_reducible refine c_seq ?_
    with_reducible refine c_region ?_
    refine stepD rfl F rfl (o_move (F.ev rfl) ?_); clear F; clear a; intro a F
    (refine stepD rfl F rfl (o_call (F.ev rfl) (F.evs rfl) (Cal.mono (nextE_c 3 (by omega) (by omega) _ (hTw.later M.ext) (M.heap (.there .here)) ) ?_)); clear F; clear a; have M0 := M; clear M; rintro _ w ⟨q, k5, rfl, hq, N⟩ a F)
    replace M := M0.turn1 N (.there .here)
    clear M0 N
    refine l_nil ?_
    refine q_then ?_
    repeat (with_reducible refine c_seq ?_)
    refine c_cut (fun a w => ∃ (y : InsV) (k : Nat), OkI y ∧ Frm a 65 [] [(9, .pointer (some ⟨b9, 0, none⟩)), (8, .int .i64 x), (7, v), (0, .pointer (some ⟨bt, 0, none⟩)), (1, .int .i64 now), (2, .slice none 0 0)] ∧ Mem [bt] wb w [(b9, .cells (inC y).toArray 62 (0, 0)), (bt, tobj p len cap k)]) ?_ ?_
    · by_cases q0 : q = 0
      · with_reducible refine c_block ?_
        with_reducible refine c_seq ?_
        with_reducible refine c_region ?_
        refine stepD rfl F rfl (o_eqlT (F.ev rfl) (F.ev rfl) (by omega) ?_); clear F; clear a; intro a F
        refine stepD rfl F rfl (o_assign (F.ev rfl) ?_); clear F; clear a; intro a F
        with_reducible refine l_nil ?_
        with_reducible refine q_then ?_
        refine c_true F rfl rfl ?_
        with_reducible refine c_region ?_
        refine stepD rfl F rfl (o_move (F.ev rfl) ?_); clear F; clear a; intro a F
        refine stepD rfl F rfl (o_move (F.ev rfl) ?_); clear F; clear a; intro a F
        (refine stepD rfl F rfl (o_call (F.ev rfl) (F.evs rfl) (Cal.mono (wtime_c now h0 h1 _ (hTw.later M.ext) (M.heap (.there .here)) ) ?_)); clear F; clear a; have M0 := M; clear M; rintro _ w ⟨rfl, N⟩ a F)
        replace M := M0.turn1 N (.there .here)
        clear M0 N
        refine stepD rfl F rfl (o_fieldAddr (F.ev rfl) ?_); clear F; clear a; intro a F
        (refine stepN rfl F (o_store1 M (F.ev rfl) (F.ev rfl) rfl (by repeat (first | exact .here | apply Has.there)) (in_put_btn hi _) (by repeat (first | exact .here | apply Upd.there)) ?_); clear F; clear M; intro w M a F)
        with_reducible refine l_nil ?_
        with_reducible refine q_inB ?_
        exact ⟨⟨d, e, o, wtV xs k5 now, 0⟩, _, ⟨⟨hd, trivial⟩, hdv, hom⟩, F.only [9, 8, 7, 0, 1, 2] rfl, M⟩
      by_cases q1 : q = 1
      · with_reducible refine c_block ?_
        with_reducible refine c_seq ?_
        with_reducible refine c_region ?_
        refine stepD rfl F rfl (o_eqlF (F.ev rfl) (F.ev rfl) (by omega) ?_); clear F; clear a; intro a F
        refine stepD rfl F rfl (o_assign (F.ev rfl) ?_); clear F; clear a; intro a F
        with_reducible refine l_nil ?_
        with_reducible refine q_then ?_
        refine c_false F rfl rfl ?_
        with_reducible refine c_seq ?_
        with_reducible refine c_region ?_
        refine stepD rfl F rfl (o_eqlT (F.ev rfl) (F.ev rfl) (by omega) ?_); clear F; clear a; intro a F
        refine stepD rfl F rfl (o_assign (F.ev rfl) ?_); clear F; clear a; intro a F
        with_reducible refine l_nil ?_
        with_reducible refine q_then ?_
        refine c_true F rfl rfl ?_
        with_reducible refine c_region ?_
        refine stepD rfl F rfl (o_move (F.ev rfl) ?_); clear F; clear a; intro a F
        refine stepD rfl F rfl (o_move (F.ev rfl) ?_); clear F; clear a; intro a F
        (refine stepD rfl F rfl (o_call (F.ev rfl) (F.evs rfl) (Cal.mono (wtime_c now h0 h1 _ (hTw.later M.ext) (M.heap (.there .here)) ) ?_)); clear F; clear a; have M0 := M; clear M; rintro _ w ⟨rfl, N⟩ a F)
        replace M := M0.turn1 N (.there .here)
        clear M0 N
        have hi2 : IsIn ⟨d, 0, o, -1, 0⟩ := ⟨hd, trivial⟩
        have hi3 : IsIn ⟨d, 0, { o with met := 65535 }, -1, 0⟩ := ⟨hd, trivial⟩
        refine stepD rfl F rfl (o_fieldAddr (F.ev rfl) ?_); clear F; clear a; intro a F
        (refine stepN rfl F (o_store1 M (F.ev rfl) (F.ev rfl) rfl (by repeat (first | exact .here | apply Has.there)) (in_put_nb hi 0) (by repeat (first | exact .here | apply Upd.there)) ?_); clear F; clear M; intro w M a F)
        refine stepD rfl F rfl (o_fieldAddr (F.ev rfl) ?_); clear F; clear a; intro a F
        refine stepD rfl F rfl (o_fieldAddr (F.ev rfl) ?_); clear F; clear a; intro a F
        (refine stepN rfl F (o_store1 M (F.ev rfl) (F.ev rfl) rfl (by repeat (first | exact .here | apply Has.there)) (in_put_own_met hi2 65535) (by repeat (first | exact .here | apply Upd.there)) ?_); clear F; clear M; intro w M a F)
        refine stepD rfl F rfl (o_fieldAddr (F.ev rfl) ?_); clear F; clear a; intro a F
        (refine stepN rfl F (o_store1 M (F.ev rfl) (F.ev rfl) rfl (by repeat (first | exact .here | apply Has.there)) (in_put_til hi3 _) (by repeat (first | exact .here | apply Upd.there)) ?_); clear F; clear M; intro w M a F)
        with_reducible refine l_nil ?_
        with_reducible refine q_inB ?_
        exact ⟨⟨d, 0, { o with met := 65535 }, -1, wtV xs k5 now⟩, _, ⟨⟨hd, trivial⟩, hdv, rfl⟩, F.only [9, 8, 7, 0, 1, 2] rfl, M⟩
      · with_reducible refine c_block ?_
        with_reducible refine c_seq ?_
        with_reducible refine c_region ?_
        refine stepD rfl F rfl (o_eqlF (F.ev rfl) (F.ev rfl) (by omega) ?_); clear F; clear a; intro a F
        refine stepD rfl F rfl (o_assign (F.ev rfl) ?_); clear F; clear a; intro a F
        with_reducible refine l_nil ?_
        with_reducible refine q_then ?_
        refine c_false F rfl rfl ?_
        with_reducible refine c_seq ?_
        with_reducible refine c_region ?_
        refine stepD rfl F rfl (o_eqlF (F.ev rfl) (F.ev rfl) (by omega) ?_); clear F; clear a; intro a F
        refine stepD rfl F rfl (o_assign (F.ev rfl) ?_); clear F; clear a; intro a F
        with_reducible refine l_nil ?_
        with_reducible refine q_then ?_
        refine c_false F rfl rfl ?_
        with_reducible refine c_skip ?_
        with_reducible refine q_inB ?_
        exact ⟨_, k5, ⟨hi, hdv, hom⟩, F.only [9, 8, 7, 0, 1, 2] rfl, M⟩
    clear F M a w
    rintro a w ⟨y, k6, hy, F, M⟩
    have hol := putG_len (x := y) (done := false) (l := l)
    rw [if_neg (by simp)] at hol
    have g1 := in_all hy.1
    with_reducible refine q_then ?_
    with_reducible refine c_region ?_
    refine stepD rfl F rfl (o_move (F.ev rfl) ?_); clear F; clear a; intro a F
    refine stepD rfl F rfl (o_loadA M (F.ev rfl) (by repeat (first | exact .here | apply Has.there)) (by first | assumption | rfl) ?_); clear F; clear a; intro a F
    (refine stepD rfl F rfl (o_call (F.ev rfl) (F.evs rfl) (Cal.mono (put_c l (fun z hz => (hO.ok z hz).1) y hy.1 (by omega) v _ (hO.at_.laterB hbt M.ext).1 ) ?_)); clear F; clear a; rintro _ w ⟨ent, hO2, N⟩ a F; replace M := M.joins N; clear N)
    have hnd := (M.perm (l' := (bt, tobj p len cap k6) :: (ent ++ [(b9, .cells (inC y).toArray 62 (0, 0))])) (by classical exact List.perm_iff_count.2 fun _ => by simp only [List.count_append, List.count_cons, List.count_nil, Nat.add_zero, Nat.zero_add] <;> ac_rfl)).nd
    have hO3 := (hO2.slN M (fun q hq => by simp [hq]) (nd_not hnd (fun q hq => by simp [hq]))).mono E0.size
    refine stepD rfl F rfl (o_assign (F.ev rfl) ?_); clear F; clear a; intro a F
    with_reducible refine l_nil ?_
    with_reducible refine q_inB ?_
    with_reducible refine q_then ?_
    with_reducible refine c_region ?_
    refine stepD rfl F rfl (o_move (F.ev rfl) ?_); clear F; clear a; intro a F
    refine stepD rfl F rfl (o_sub (F.ev rfl) (F.ev rfl) (w_i64 (by omega) (by omega)) ?_); clear F; clear a; intro a F
    refine stepD rfl F rfl (o_assign (F.ev rfl) ?_); clear F; clear a; intro a F
    with_reducible refine l_nil ?_
    with_reducible refine q_then ?_
    exact ⟨_, by omega, c - 1, _, putG y false l, _, k6, rfl, by omega, by omega, ⟨hO3, fun z hz => (putG_mem hz).elim (fun e => e ▸ hy) (hO.ok z), putG_asc hy.1.1 hO.asc fun z hz => (hO.ok z hz).1.1⟩, F.only [8, 7, 0, 1, 2] rfl, (M.sub (List.sublist_append_of_sublist_right (.cons _ (.refl _)))).un E0⟩
  · with_reducible refine c_seq ?_
    with_reducible refine c_seq ?_
    with_reducible refine c_region ?_
    refine stepD rfl F rfl (o_move (F.ev rfl) ?_); clear F; clear a; intro a F
    refine stepD rfl F rfl (o_gtrF (F.ev rfl) (F.ev rfl) (by omega) ?_); clear F; clear a; intro a F
    with_reducible refine l_nil ?_
    with_reducible refine q_then ?_
    refine c_false F rfl rfl ?_
    with_reducible refine c_exit ?_
    with_reducible refine q_thenX ?_
    with_reducible refine q_thenX ?_
    with_reducible refine q_inBX ?_
    with_reducible refine q_then ?_
    with_reducible refine c_seq ?_
    with_reducible refine c_region ?_
    refine stepD rfl F rfl (o_move (F.ev rfl) ?_); clear F; clear a; intro a F
    refine stepD rfl F rfl (o_assign (F.ev rfl) ?_); clear F; clear a; intro a F
    with_reducible refine l_nil ?_
    with_reducible refine q_then ?_
    with_reducible refine c_ret ?_
    refine p_ret F rfl (.cons (.tmp (F.ev rfl)) .nil) ?_
    exact ⟨l, kk, hO, by omega, M⟩
def advOf (x : InsV) : AdvV := ⟨x.to, x.own⟩
theorem advOf_valid {l : List InsV} (h : ∀ x ∈ l, OkI x) (ha : AscK InsV.to l) (hn : l.length ≤ 520) : validAs (l.map advOf) = true := by
  refine validAs_iff.2 ⟨by simpa using hn, fun a h2 => ?_, ?_⟩
  · obtain ⟨x, hx, rfl⟩ := List.mem_map.1 h2
    exact ⟨(h x hx).2.1, (h x hx).2.2⟩
  · show List.Pairwise _ (l.map advOf)
    rw [List.pairwise_map]
    exact ha
set_option maxHeartbeats 2000000 in
theorem adverts_c {bt : Nat} {p : Option Addr} {len cap k : Nat} {xs : List Int} (W : World) (hT : TapeS W bt p len xs) (hb : W.heap[bt]? = some (tobj p len cap k)) :
    Cal Try.prog 12 [.pointer (some ⟨bt, 0, none⟩)].toArray W fun r w' => ∃ l k' ent, OwnS 52 37 r l.length (avsC l) ent ∧ (∀ x ∈ l, IsAv x) ∧ l.length ≤ 7 ∧ validAs l = true ∧ Mem [bt] W w' ((bt, tobj p len cap k') :: ent) := by
  have hbt : bt < W.heap.size := (Array.getElem?_eq_some_iff.1 hb).1
  refine fn_ofM (n := 23) [bt] Try.func12 rfl rfl rfl ?_
  intro a w F M hwW
  replace M := M.came hwW hb (by simp) (by simp)
  with_reducible refine c_seq ?_
  with_reducible refine c_region ?_
  refine stepD rfl F rfl (o_assign (F.ev rfl) ?_); clear F; clear a; intro a F
  with_reducible refine l_nil ?_
  with_reducible refine q_then ?_
  with_reducible refine c_seq ?_
  with_reducible refine c_region ?_
  refine stepD rfl F rfl (o_assign (F.ev rfl) ?_); clear F; clear a; intro a F
  with_reducible refine l_nil ?_
  with_reducible refine q_then ?_
  with_reducible refine c_seq ?_
  with_reducible refine c_seq ?_
  with_reducible refine c_region ?_
  refine stepD rfl F rfl (o_move (F.ev rfl) ?_); clear F; clear a; intro a F
  (refine stepD rfl F rfl (o_call (F.ev rfl) (F.evs rfl) (Cal.mono (installed_c 100 (by omega) (by omega) _ (hT.later M.ext) (M.heap .here)) ?_)); clear F; clear a; have M0 := M; clear M; rintro v w ⟨l, k1, hO, hl7, N⟩ a F)
  replace hO := hO.at_.mono M0.ext.size |> fun h => (⟨h, hO.ok, hO.asc⟩ : InsO W.heap.size w v l)
  replace M := M0.turn1 N .here
  clear M0 N
  have E0 := M.ext
  obtain ⟨wb, hwb, M⟩ : ∃ wb, wb = w ∧ Mem [bt] wb w [(bt, tobj p len cap k1)] := ⟨w, rfl, M.re (by simp)⟩
  rw [← hwb] at E0 hO
  clear hwb
  have hbb : bt < wb.heap.size := Nat.lt_of_lt_of_le hbt E0.size
  have hval := advOf_valid hO.ok hO.asc (by omega)
  have hav : ∀ x ∈ l.map advOf, IsAv x := fun x hx => by
    obtain ⟨y, hy, rfl⟩ := List.mem_map.1 hx
    exact (hO.ok y hy).1
  obtain ⟨q, qc, hv, _, _, _, _⟩ := id hO.at_.1
  subst hv
  refine stepD rfl F rfl (o_lenSl (F.ev rfl) ?_); clear F; clear a; intro a F
  refine stepD rfl F rfl (o_move (F.ev rfl) ?_); clear F; clear a; intro a F
  with_reducible refine l_nil ?_
  with_reducible refine q_then ?_
  with_reducible refine c_block ?_
  obtain ⟨u, hu⟩ : ∃ u, u = Value.slice none 0 0 := ⟨_, rfl⟩
  rw [← hu] at F
  obtain ⟨es, hes⟩ : ∃ es : List (Nat × Obj), es = [] := ⟨_, rfl⟩
  replace M : Mem [bt] wb w ((bt, tobj p len cap k1) :: es) := by
    rw [hes]
    exact M
  have hOs : OwnS 52 37 u ((l.map advOf).take 0).length (avsC ((l.map advOf).take 0)) es := by
    rw [hu, hes]
    exact OwnS.nil _ _
  clear hu hes
  refine c_loop (fun m a w => ∃ (i : Nat) (u : Value) (es : List (Nat × Obj)), m = l.length - i ∧ i ≤ l.length ∧ OwnS 52 37 u ((l.map advOf).take i).length (avsC ((l.map advOf).take i)) es ∧ Frm a 23 [] [(9, .int .i64 i), (8, .int .i64 l.length), (7, .slice q l.length qc), (3, u)] ∧ Mem [bt] wb w ((bt, tobj p len cap k1) :: es)) l.length ⟨0, u, es, rfl, by omega, hOs, F.only [9, 8, 7, 3] rfl, M⟩ ?_
  clear F M a hOs u es
  rintro m a w ⟨i, u, es, hm', hi, hOs, F, M⟩
  by_cases hlt : i < l.length
  · obtain ⟨b, o, cs, t, fz, rfl, hbw, hs⟩ := (hO.at_.laterB hbt M.ext).1.mem (by omega)
    have hlen : ((l.map advOf).take i).length ≤ 7 := by
      rw [List.length_take, List.length_map]
      omega
    have htk : (l.map advOf).take (i + 1) = (l.map advOf).take i ++ [advOf l[i]] := by
      rw [List.take_add_one, List.getElem?_eq_getElem (by simpa using hlt), List.getElem_map]
      rfl
    generalize (l.map advOf).take i = out at *
    obtain ⟨y, hy0⟩ : ∃ y, y = l[i] := ⟨_, rfl⟩
    have hyi : IsIn y := by rw [hy0]; exact (hO.ok _ (List.getElem_mem hlt)).1
    have f1 : seg cs (o + (i : Int).toNat * 40) 40 = some (inC y) := by rw [hy0]; exact seg_el (ins_len fun z hz => (hO.ok z hz).1) hs hlt (by omega)
    rw [← hy0] at htk
    have hya : IsAv (advOf y) := hyi
    have f2 : (inC y).length = 40 := in_len hyi
    have f3 := in_to hyi
    have f4 := in_own hyi
    have f5 : (avC (advOf y)).length = 37 := av_len hya
    with_reducible refine c_seq ?_
    with_reducible refine c_region ?_
    refine stepD rfl F rfl (o_lssT (F.ev rfl) (F.ev rfl) (by omega) ?_); clear F; clear a; intro a F
    with_reducible refine l_nil ?_
    with_reducible refine q_then ?_
    with_reducible refine c_seq ?_
    refine c_true F rfl rfl ?_
    with_reducible refine c_skip ?_
    with_reducible refine q_then ?_
    with_reducible refine c_seq ?_
    with_reducible refine c_block ?_
    with_reducible refine c_seq ?_
    with_reducible refine c_region ?_
    refine stepD rfl F rfl (o_indexSl (F.ev rfl) (F.ev rfl) (by omega) (by omega) ?_); clear F; clear a; intro a F
    (refine stepD rfl F rfl (o_load (F.ev rfl) (run_loadVar_agg TAgg.h hbw f1) ?_); clear F; clear a; intro a F)
    (refine stepD rfl F rfl (o_alloc M ?_); clear F; clear M; intro b5 w M a F)
    (refine stepN rfl F (o_storeA M (F.ev rfl) (F.ev rfl) (f2) (in_one y)  (by repeat (first | exact .here | apply Has.there))  (put_all (by rw [f2]; rfl)) (by repeat (first | exact .here | apply Upd.there)) ?_); clear F; clear M; intro w M a F)
    with_reducible refine l_nil ?_
    with_reducible refine q_then ?_
    with_reducible refine c_region ?_
    refine stepD rfl F rfl (o_move (F.ev rfl) ?_); clear F; clear a; intro a F
    refine stepD rfl F rfl (o_fieldAddr (F.ev rfl) ?_); clear F; clear a; intro a F
    refine stepD rfl F rfl (o_loadA M (F.ev rfl) (by repeat (first | exact .here | apply Has.there)) (by first | assumption | rfl) ?_); clear F; clear a; intro a F
    refine stepD rfl F rfl (o_fieldAddr (F.ev rfl) ?_); clear F; clear a; intro a F
    refine stepD rfl F rfl (o_loadA M (F.ev rfl) (by repeat (first | exact .here | apply Has.there)) (by first | assumption | rfl) ?_); clear F; clear a; intro a F
    (refine stepD rfl F rfl (o_build F rfl (av_build (o := advOf y) hya) ?_); clear F; clear a; intro a F)
    (refine stepD rfl F rfl (o_buildSlice F M rfl rfl rfl (av_build1 hya) ?_); clear F; clear M; intro bs w M a F)
    (refine stepD rfl F rfl (o_append hOs M (.cons (.cons (.cons .here))) (F.ev rfl) (F.ev rfl) (SrcOf.cells' (M.heap .here) (sg_all (by omega)) (av_one _)) (by omega) (by omega) ?_); clear F; clear M; intro v2 es2 w hO2 M a F)
    refine stepD rfl F rfl (o_assign (F.ev rfl) ?_); clear F; clear a; intro a F
    with_reducible refine l_nil ?_
    with_reducible refine q_inB ?_
    with_reducible refine q_then ?_
    with_reducible refine c_region ?_
    refine stepD rfl F rfl (o_add (F.ev rfl) (F.ev rfl) (w_i64 (by omega) (by omega)) ?_); clear F; clear a; intro a F
    refine stepD rfl F rfl (o_move (F.ev rfl) ?_); clear F; clear a; intro a F
    with_reducible refine l_nil ?_
    with_reducible refine q_then ?_
    exact ⟨_, by omega, i + 1, v2, es2, rfl, by omega, by rw [htk]; show OwnS _ 37 _ (out ++ [advOf y]).length (encL avC (out ++ [advOf y])) _; rw [show (out ++ [advOf y]).length = out.length + 1 by simp, encL_app, encL_one]; exact hO2, F.only [9, 8, 7, 3] rfl, M.sub (.cons _ (.cons _ (.refl _)))⟩
  · obtain rfl : i = l.length := by omega
    rw [show (l.map advOf).take l.length = l.map advOf by rw [← List.length_map (f := advOf), List.take_length]] at hOs
    with_reducible refine c_seq ?_
    with_reducible refine c_region ?_
    refine stepD rfl F rfl (o_lssF (F.ev rfl) (F.ev rfl) (by omega) ?_); clear F; clear a; intro a F
    with_reducible refine l_nil ?_
    with_reducible refine q_then ?_
    with_reducible refine c_seq ?_
    refine c_false F rfl rfl ?_
    with_reducible refine c_exit ?_
    with_reducible refine q_thenX ?_
    with_reducible refine q_thenX ?_
    with_reducible refine q_inBX ?_
    with_reducible refine q_then ?_
    with_reducible refine c_seq ?_
    with_reducible refine c_region ?_
    refine stepD rfl F rfl (o_move (F.ev rfl) ?_); clear F; clear a; intro a F
    refine stepD rfl F rfl (o_assign (F.ev rfl) ?_); clear F; clear a; intro a F
    with_reducible refine l_nil ?_
    with_reducible refine q_then ?_
    with_reducible refine c_ret ?_
    refine p_ret F rfl (.cons (.tmp (F.ev rfl)) .nil) ?_
    exact ⟨l.map advOf, k1, es, hOs, hav, by simpa using hl7, hval, M.un E0⟩
end Go.Proofs.Ytilgoepokaaleaa
/-! Y6 -/
namespace Go.Proofs.Ytilgoepokaaleaa
set_option linter.unusedVariables false
set_option linter.unusedSimpArgs false
open Go.Shelf
def sortAd_ren : Go.Shelf.Ren := ⟨fun | 6 => 48 | 15 => 91 | 14 => 90 | 28 => 120 | 29 => 121 | 20 => 112 | 21 => 113 | 22 => 114 | 23 => 115 | 24 => 116 | 25 => 117 | 26 => 118 | 27 => 119 | 46 => 132 | 47 => 133 | 48 => 134 | 49 => 135 | 50 => 136 | 57 => 147 | n => n, fun | 22 => 22 | 24 => 52 | 25 => 95 | 3 => 3 | 39 => 102 | 0 => 0 | 53 => 157 | 55 => 44 | 4 => 4 | 46 => 151 | 45 => 150 | 50 => 110 | 5 => 5 | 9 => 9 | 66 => 164 | 70 => 168 | 76 => 177 | 77 => 178 | n => n, fun | n => n⟩
theorem sortAd : Go.Proofs.SlLaysF0.n6 Try.prog sortAd_ren := {
  mixed := by kernel_rfl
  f6 := ⟨Try.f48.name, by decide, Try.func48.trans (congrArg some (by kernel_rfl))⟩
  f14 := ⟨Try.f90.name, by decide, Try.func90.trans (congrArg some (by kernel_rfl))⟩
  f15 := Try.func91.trans (congrArg some (by kernel_rfl))
  f20 := ⟨Try.f112.name, by decide, Try.func112.trans (congrArg some (by kernel_rfl))⟩
  f21 := ⟨Try.f113.name, by decide, Try.func113.trans (congrArg some (by kernel_rfl))⟩
  f22 := ⟨Try.f114.name, by decide, Try.func114.trans (congrArg some (by kernel_rfl))⟩
  f23 := ⟨Try.f115.name, by decide, Try.func115.trans (congrArg some (by kernel_rfl))⟩
  f24 := ⟨Try.f116.name, by decide, Try.func116.trans (congrArg some (by kernel_rfl))⟩
  f25 := ⟨Try.f117.name, by decide, Try.func117.trans (congrArg some (by kernel_rfl))⟩
  f26 := ⟨Try.f118.name, by decide, Try.func118.trans (congrArg some (by kernel_rfl))⟩
  f27 := ⟨Try.f119.name, by decide, Try.func119.trans (congrArg some (by kernel_rfl))⟩
  f28 := Try.func120.trans (congrArg some (by kernel_rfl))
  f29 := Try.func121.trans (congrArg some (by kernel_rfl))
  f46 := ⟨Try.f132.name, by decide, Try.func132.trans (congrArg some (by kernel_rfl))⟩
  f47 := Try.func133.trans (congrArg some (by kernel_rfl))
  f48 := Try.func134.trans (congrArg some (by kernel_rfl))
  f49 := ⟨Try.f135.name, by decide, Try.func135.trans (congrArg some (by kernel_rfl))⟩
  f50 := ⟨Try.f136.name, by decide, Try.func136.trans (congrArg some (by kernel_rfl))⟩
  f57 := ⟨Try.f147.name, by decide, Try.func147.trans (congrArg some (by kernel_rfl))⟩
  t0 := Try.underlying0
  a0 := Try.isAgg0
  z0 := Try.sizeOf0
  v0 := Try.zeroValue0
  t3 := Try.underlying3
  a3 := Try.isAgg3
  z3 := Try.sizeOf3
  v3 := Try.zeroValue3
  t4 := Try.underlying4
  a4 := Try.isAgg4
  z4 := Try.sizeOf4
  v4 := Try.zeroValue4
  t5 := Try.underlying5
  a5 := Try.isAgg5
  z5 := Try.sizeOf5
  v5 := Try.zeroValue5
  t9 := Try.underlying9
  a9 := Try.isAgg9
  z9 := Try.sizeOf9
  v9 := Try.zeroValue9
  t22 := Try.underlying22
  a22 := Try.isAgg22
  z22 := Try.sizeOf22
  v22 := Try.zeroValue22
  t25 := Try.underlying95
  a25 := Try.isAgg95
  z25 := Try.sizeOf95
  v25 := Try.zeroValue95
  t39 := Try.underlying102
  a39 := Try.isAgg102
  z39 := Try.sizeOf102
  v39 := Try.zeroValue102
  t45 := Try.underlying150
  a45 := Try.isAgg150
  z45 := Try.sizeOf150
  v45 := Try.zeroValue150
  t46 := Try.underlying151
  a46 := Try.isAgg151
  z46 := Try.sizeOf151
  v46 := Try.zeroValue151
  t50 := Try.underlying110
  a50 := Try.isAgg110
  z50 := Try.sizeOf110
  v50 := Try.zeroValue110
  t53 := Try.underlying157
  a53 := Try.isAgg157
  z53 := Try.sizeOf157
  v53 := Try.zeroValue157
  t55 := Try.underlying44
  a55 := Try.isAgg44
  z55 := Try.sizeOf44
  v55 := Try.zeroValue44
  t66 := Try.underlying164
  a66 := Try.isAgg164
  z66 := Try.sizeOf164
  v66 := Try.zeroValue164
  t70 := Try.underlying168
  a70 := Try.isAgg168
  z70 := Try.sizeOf168
  v70 := Try.zeroValue168
  t76 := Try.underlying177
  a76 := Try.isAgg177
  z76 := Try.sizeOf177
  v76 := Try.zeroValue177
  t77 := Try.underlying178
  a77 := Try.isAgg178
  z77 := Try.sizeOf178
  v77 := Try.zeroValue178 }
end Go.Proofs.Ytilgoepokaaleaa
/-! LibV -/
namespace Go.Proofs.Ytilgoepokaaleaa
set_option linter.unusedVariables false
set_option linter.unusedSimpArgs false
open Go.RowKit
/-- a block that such an append may turn -/
def Chg (w : World) (k : Nat) : Prop := ∃ cs t, w.heap[k]? = some (.cells cs t (0, 0)) ∧ 20 < cs.size
structure BigE (n0 : Nat) (w w' : World) : Prop where
  os : w'.os = w.os
  tape : w'.tape = w.tape
  output : w'.output = w.output
  size : w.heap.size ≤ w'.heap.size
  dr : w.drawn ≤ w'.drawn
  block : ∀ k, k < w.heap.size → (k < n0 ∨ ¬ Chg w k) → w'.heap[k]? = w.heap[k]?
theorem BigE.of_ext {n0 : Nat} {w w' : World} (h : Ext [] w w') : BigE n0 w w' := ⟨h.os, h.tape, h.output, h.size, h.dr, fun k hk _ => h.block k hk (by simp)⟩
theorem BigE.trans {n0 : Nat} {a b c : World} (h : BigE n0 a b) (k : BigE n0 b c) : BigE n0 a c :=
  ⟨k.os.trans h.os, k.tape.trans h.tape, k.output.trans h.output, Nat.le_trans h.size k.size, Nat.le_trans h.dr k.dr, fun i hi hc => by
    have h1 := h.block i hi hc
    rw [k.block i (Nat.lt_of_lt_of_le hi h.size) (hc.imp_right fun hn hx => hn (by
      obtain ⟨cs, t, e, hs⟩ := hx
      exact ⟨cs, t, by rw [← h1]; exact e, hs⟩)), h1]⟩
theorem BigE.ext {w w' : World} (h : BigE w.heap.size w w') : Ext [] w w' := ⟨h.os, h.tape, h.output, h.size, h.dr, fun k hk _ => h.block k hk (.inl hk)⟩
section
variable {P : Program} {ρ : Operand → Value} {w W0 : World} {S : List Nat} {l l' : List (Nat × Obj)} {R : Value → World → Prop} {d : Option Tmp} {ty : TypeId} {pos : String} {af : Array Edge} {g : Option (Nat × Bool)}
end
end Go.Proofs.Ytilgoepokaaleaa
/-! LibX -/
namespace Go.Proofs.Ytilgoepokaaleaa
set_option linter.unusedVariables false
set_option linter.unusedSimpArgs false
open Go.RowKit
section
variable {P : Program} {ρ : Operand → Value} {w W0 : World} {S : List Nat} {l l' : List (Nat × Obj)} {R : Value → World → Prop} {d : Option Tmp} {ty : TypeId} {pos : String} {af : Array Edge} {g : Option (Nat × Bool)}
/-- a slice compared with nil -/
theorem o_eqlNil {t t' e : TypeId} {x y : Operand} {p : Option Addr} {n c : Nat} (hx : ρ x = .slice p n c) (hy : ρ y = .slice none 0 0) [ht : TU P t (.slice e)] (h : R (.bool p.isNone) w) : OpTo P ⟨d, .binOp .eql t x y t', ty, pos, af, g⟩ ρ w R := by
  have hr0 : ∀ k : Nat, (Op.equalIn (k + 1) t (.slice p n c) (.slice none 0 0)).run P w = .ok p.isNone w := fun k => by
    cases p <;> simp [Op.equalIn, run_underlying ht.h]
  have hr := hr0 9999
  exact OpTo.val (v := .bool p.isNone) (w' := w) (by simp [execOp, eqGuard, binOp, Op.equal, Op.maxDepth, hx, hy, hr]) h
/-- append of nothing -/
theorem o_append0 {st xt e : TypeId} {x y : Operand} {sz by_ b n cap : Nat} {xv : Value} [hst : TU P st (.slice e)] [hel : TEl P e sz by_] [hxt : TNI P xt] (hx : ρ x = .slice (some ⟨b, 0, none⟩) n cap) (hy : ρ y = xv) (hnc : n ≤ cap) (hX : SrcOf P w xv 0 sz [])
    (h : R (.slice (some ⟨b, 0, none⟩) n cap) w) : OpTo P ⟨d, .call ⟨.builtin .append, #[x, y], #[st, xt]⟩, ty, pos, af, g⟩ ρ w R := by
  obtain ⟨i, z, hi, rfl, rfl, hz, hzs⟩ := elB_spec hel.h
  have hrun := run_append_room' (tyy := ty) (b := b) (n := n) (cap := cap) (w' := w) hst.h hi (notInt_spec hxt.h) hX.len (by omega) (hX.cells w.drawn) (by simp [storeCells])
  exact OpTo.val (v := .slice (some ⟨b, 0, none⟩) (n + 0) cap) (w' := w) (by simp [execOp, resolve, invoke, builtin, hx, hy, hrun]) h
end
end Go.Proofs.Ytilgoepokaaleaa
/-! LibU -/
namespace Go.Proofs.Ytilgoepokaaleaa
set_option linter.unusedVariables false
set_option linter.unusedSimpArgs false
open Go.RowKit Go.Sort Go.Shelf
theorem ext_grow {w w' : World} (h : Ext [] w w') : ∃ q os', w' = grow (w.drewN q) os' := by
  refine ⟨w'.drawn - w.drawn, w'.heap.extract w.heap.size w'.heap.size, ?_⟩
  obtain ⟨hp, tp, dr, os, ou⟩ := w'
  obtain ⟨h1, h2, h3, h4, h5, h6⟩ := h
  simp only at h1 h2 h3 h4 h5 h6
  subst h1 h2 h3
  simp only [grow, World.drewN]
  congr 1
  · apply Array.ext'
    apply List.ext_getElem?
    intro i
    simp only [Array.getElem?_toList]
    rcases Nat.lt_or_ge i w.heap.size with h | h
    · rw [Array.getElem?_append_left h]
      exact h6 i h (by simp)
    · rw [Array.getElem?_append_right h, Array.getElem?_extract]
      split
      · rename_i h7
        congr 1
        omega
      · rename_i h7
        exact Array.getElem?_eq_none (by omega)
  · omega
theorem encL_get {α : Type} {enc : α → List Value} {k : Nat} (hk : ∀ x, (enc x).length = k) (h0 : 0 < k) : ∀ (ls : List α) (j : Nat), j < ls.length * k → (encL enc ls)[j]? = (ls[j / k]?).bind fun x => (enc x)[j % k]?
  | [], j, h => by simp at h
  | x :: xs, j, h => by
    rw [encL_cons]
    rcases Nat.lt_or_ge j k with hj | hj
    · rw [List.getElem?_append_left (by rw [hk]; exact hj), Nat.div_eq_of_lt hj, Nat.mod_eq_of_lt hj]
      rfl
    · have e1 : j / k = (j - k) / k + 1 := by
        rw [show j = (j - k) + k by omega, Nat.add_div_right _ h0]
        simp
      have e2 : j % k = (j - k) % k := by
        rw [show j = (j - k) + k by omega, Nat.add_mod_right]
        simp
      rw [List.getElem?_append_right (by rw [hk]; exact hj), hk, e1, e2, encL_get hk h0 xs (j - k) (by simp only [List.length_cons, Nat.add_mul] at h; omega)]
      simp
theorem flat_enc {α : Type} [Inhabited α] {enc : α → List Value} {k : Nat} (hk : ∀ x, (enc x).length = k) (h0 : 0 < k) (d : Array α) : (flatK enc k d).toList = encL enc d.toList := by
  have hl : (encL enc d.toList).length = d.size * k := by rw [encL_len (fun x _ => hk x)]; simp
  apply List.ext_getElem?
  intro j
  rcases Nat.lt_or_ge j (d.size * k) with h | h
  · have hd : j / k < d.size := Nat.div_lt_of_lt_mul (by rwa [Nat.mul_comm] at h)
    have hm : j % k < k := Nat.mod_lt _ h0
    rw [encL_get hk h0 _ _ (by simpa using h)]
    simp only [flatK, Array.toList_map, Array.toList_range]
    rw [List.getElem?_map, List.getElem?_range h]
    simp only [Option.map_some, Array.getElem?_toList]
    rw [Array.getElem?_eq_getElem hd]
    simp only [Option.bind_some]
    rw [getElem!_pos d (j / k) hd, getElem!_pos (enc d[j / k]) (j % k) (by rw [hk]; exact hm), List.getElem?_eq_getElem (by rw [hk]; exact hm)]
  · rw [List.getElem?_eq_none (by simpa using h), List.getElem?_eq_none (by omega)]
section
variable {α : Type} [Inhabited α] {P : Program} {ρ : Ren} {enc : α → List Value} {k : Nat}
theorem cmp_lays {g : Nat} {cf : α → α → Int} {blk off size : Nat} {w : World} (h : ∀ (W : World) (x y : α), Cal P g [.agg (enc x).toArray, .agg (enc y).toArray].toArray W fun v w' => v = .int .i64 (cf x y) ∧ Ext [] W w') : CmpLays P g #[] enc k cf blk off size w := by
  intro m os dk _ x y
  refine ((h (sortWorldK enc k w blk off m dk os) x y).calls).mono ?_
  rintro e w' ⟨v, rfl, rfl, hE⟩
  exact ⟨rfl, ext_grow hE⟩
/-- The sort over a slice of the call's own. -/
theorem sort_own (L : SlLaysF0.n6 P ρ) (hk : ∀ x, (enc x).length = k) (h0 : 0 < k) (h1 : ∀ x, (enc x).all (·.oneCell') = true) (haE : aggTy P (ρ.t 24) k = true) (cf : α → α → Int) (hO : SWO (ltOf cf)) (hT : ∀ x y, ltOf cf x y = false → ltOf cf y x = false → x = y) {g : Nat} (hg : hasBody P g = true)
    (hcmp : ∀ (W : World) (x y : α), Cal P g [.agg (enc x).toArray, .agg (enc y).toArray].toArray W fun v w' => v = .int .i64 (cf x y) ∧ Ext [] W w')
    {S : List Nat} {W0 w : World} {l : List (Nat × Obj)} {f : List (Nat × Obj) → List (Nat × Obj)} {e : TypeId} {v : Value} (ls : List α) {ent : List (Nat × Obj)} (M : Mem S W0 w l) (hOw : OwnS e k v ls.length (encL enc ls) ent) (hl : TailAt ent l f) (hsz : ls.length < 4611686018427387904) :
    Cal P (ρ.f 6) [v, .func (.func g) #[] #[]].toArray w fun _ w' => ∃ ent', OwnS e k v ls.length (encL enc (ls.mergeSort fun x y => !(ltOf cf) y x)) ent' ∧ Mem S W0 w' (f ent') := by
  obtain ⟨lr, rfl, hf⟩ := hl.spec
  rcases hOw with ⟨rfl, hn, _, rfl⟩ | ⟨b, cap, junk, rfl, rfl, hxl, hjl, hnc⟩
  · have hls : ls = [] := List.length_eq_zero_iff.1 hn
    subst hls
    refine Cal.of_calls (AnyF.slices_SortFunc_none L none 0 (.func (.func g) #[] #[]) w) ?_
    rintro e' w' ⟨rfl, rfl⟩
    exact ⟨_, rfl, [], by simpa [encL] using OwnS.nil e k, by rw [hf]; exact M⟩
  · have hb : w.heap[b]? = some (.cells (encL enc ls ++ junk).toArray e (0, 0)) := M.at_ (b, _) (by simp)
    have hlt : b < w.heap.size := (Array.getElem?_eq_some_iff.1 hb).1
    have hH : HoldsK enc k w b 0 ls.toArray := by
      intro j hj
      rw [size_flatK] at hj
      simp only [List.size_toArray] at hj
      have hfl := flat_enc hk h0 ls.toArray
      have hjf : j < (flatK enc k ls.toArray).size := by rw [size_flatK]; simpa using hj
      refine ⟨?_, by simp [World.frozen?, hb]⟩
      rw [getElem!_pos _ j hjf]
      simp only [World.cell?, hb, id]
      rw [if_neg (by simp), Nat.zero_add, List.getElem?_toArray, List.getElem?_append_left (by rw [hxl]; exact hj)]
      have h2 : (flatK enc k ls.toArray).toList[j]? = (encL enc ls)[j]? := by rw [hfl]
      rw [← h2, Array.getElem?_toList, Array.getElem?_eq_getElem hjf]
    have hagg : ∀ w, (isAgg (ρ.t 24)).run P w = .ok true w := fun w => run_isAgg_agg haE
    have hszo : ∀ w, (sizeOf (ρ.t 24)).run P w = .ok k w := fun w => run_sizeOf_agg haE
    have hcon := AnyQ.slices_SortFunc_total L k hagg hszo enc hk (fun x v hv => List.all_eq_true.1 (h1 x) v hv) cf hO g #[] b 0 cap ls.toArray w (fun args w => run_callFunc hg args w) (cmp_lays hcmp) hH hlt (by simpa using hsz) hT
    simp only [List.size_toArray] at hcon
    refine Cal.of_calls hcon ?_
    rintro e' w' ⟨rfl, n, os, rfl⟩
    refine ⟨_, rfl, [(b, .cells (encL enc (ls.mergeSort fun x y => !(ltOf cf) y x) ++ junk).toArray e (0, 0))], .inr ⟨b, cap, junk, rfl, rfl, by rw [encL_len (fun x _ => hk x)]; simp, hjl, hnc⟩, ?_⟩
    rw [hf]
    obtain ⟨ds, hds⟩ : ∃ ds, ds = ls.mergeSort fun x y => !(ltOf cf) y x := ⟨_, rfl⟩
    rw [← hds]
    have hdl : ds.length = ls.length := by rw [hds]; simp
    clear hcon hH
    have hcells : putCells id 0 (flatK enc k ds.toArray) (encL enc ls ++ junk).toArray = (encL enc ds ++ junk).toArray := by
      have hfl := flat_enc hk h0 ds.toArray
      have hfs : (flatK enc k ds.toArray).size = ls.length * k := by rw [size_flatK]; simp [hdl]
      have hel : (encL enc ds).length = ls.length * k := by rw [encL_len (fun x _ => hk x), hdl]
      apply Array.ext'
      apply List.ext_getElem?
      intro i
      simp only [putCells, Array.getElem?_toList, Array.getElem?_mapIdx, List.getElem?_toArray]
      rcases Nat.lt_or_ge i (ls.length * k) with hi | hi
      · rw [List.getElem?_append_left (by omega), List.getElem?_append_left (by omega), List.getElem?_eq_getElem (show i < (encL enc ls).length by omega)]
        simp only [Option.map_some]
        rw [if_pos ⟨Nat.zero_le _, by omega⟩, Nat.sub_zero, getElem!_pos _ i (by omega)]
        have h2 : (flatK enc k ds.toArray).toList[i]? = (encL enc ds)[i]? := by rw [hfl]
        rw [← h2, Array.getElem?_toList, Array.getElem?_eq_getElem (by omega)]
        rfl
      · rw [List.getElem?_append_right (by omega), List.getElem?_append_right (by omega), hxl, hel]
        cases hjv : junk[i - ls.length * k]? with
        | none => rfl
        | some z =>
          simp only [Option.map_some]
          rw [if_neg (by omega)]
    have hnew : (sortWorldK enc k w b 0 n ds.toArray os).heap[b]? = some (.cells (encL enc ds ++ junk).toArray e (0, 0)) := by
      have hs : b < (putRowK enc k (Go.Sort.ahead w n) b 0 ds.toArray).heap.size := by simpa [putRowK, Go.Sort.ahead] using hlt
      simp only [sortWorldK, grow]
      rw [Array.getElem?_append_left hs]
      simp only [putRowK, putRow, mapBlock, Go.Sort.ahead]
      rw [Array.getElem?_modify]
      simp only [if_true, hb, Option.map_some, onCells, hcells]
    have hext : Ext [b] w (sortWorldK enc k w b 0 n ds.toArray os) := by
      refine ⟨rfl, rfl, rfl, ?_, ?_, fun j hj hne => ?_⟩
      · simp [sortWorldK, grow, putRowK, putRow, mapBlock, Go.Sort.ahead]
      · simp [sortWorldK, grow, putRowK, putRow, mapBlock, Go.Sort.ahead]
      · have hs : j < (putRowK enc k (Go.Sort.ahead w n) b 0 ds.toArray).heap.size := by simpa [putRowK, Go.Sort.ahead] using hj
        simp only [sortWorldK, grow]
        rw [Array.getElem?_append_left hs]
        simp only [putRowK, putRow, mapBlock, Go.Sort.ahead]
        rw [Array.getElem?_modify, if_neg (by intro h; exact hne (by simp [h]))]
    exact M.turned ((Upd.here (l := [])).append lr) hext hnew
end
end Go.Proofs.Ytilgoepokaaleaa
/-! Y7 -/
namespace Go.Proofs.Ytilgoepokaaleaa
set_option linter.unusedVariables false
set_option linter.unusedSimpArgs false
open Go.RowKit Go.Sort
attribute [local irreducible] OpTo wpListIn Code.wpIn MW Cal
set_option maxHeartbeats 2000000 in
theorem cloneA_c (l : List AdvV) (hlen : l.length ≤ 100000) (v : Value) (W : World) (hS : SlAt W 37 v l.length (avsC l)) :
    Cal Try.prog 24 [v].toArray W fun r w' => ∃ ent, OwnS 52 37 r l.length (avsC l) ent ∧ (∀ b o s c, r = .slice (some ⟨b, o, s⟩) l.length c → l.length = 0 → c = 0) ∧ Mem [] W w' ent := by
  obtain ⟨q, cap, hq, _⟩ := id hS
  cases q with
  | none =>
    have hn : l.length = 0 := by
      obtain ⟨q', cap', h2, _, _, _, h3⟩ := hS
      rw [hq] at h2
      cases h2
      rcases Nat.eq_zero_or_pos l.length with h | h
      · exact h
      · obtain ⟨_, _, _, _, _, h4, _⟩ := h3 h
        cases h4
    have hxs : l = [] := List.length_eq_zero_iff.1 hn
    subst hxs
    rw [hq]
    refine fn_ofM (n := 8) [] Try.func24 rfl rfl rfl ?_
    intro a w F M hwW
    with_reducible refine c_seq ?_
    with_reducible refine c_region ?_
    refine stepD rfl F rfl (o_assign (F.ev rfl) ?_); clear F; clear a; intro a F
    with_reducible refine l_nil ?_
    with_reducible refine q_then ?_
    with_reducible refine c_seq ?_
    with_reducible refine c_seq ?_
    with_reducible refine c_region ?_
    refine stepD rfl F rfl (o_move (F.ev rfl) ?_); clear F; clear a; intro a F
    (refine stepD rfl F rfl (o_eqlNil (F.ev rfl) (F.ev rfl) ?_); clear F; clear a; intro a F)
    with_reducible refine l_nil ?_
    with_reducible refine q_then ?_
    refine c_true F rfl rfl ?_
    with_reducible refine c_seq ?_
    with_reducible refine c_region ?_
    refine stepD rfl F rfl (o_assign (F.ev rfl) ?_); clear F; clear a; intro a F
    with_reducible refine l_nil ?_
    with_reducible refine q_then ?_
    with_reducible refine c_ret ?_
    with_reducible refine q_thenR ?_
    refine p_ret F rfl (.cons (.tmp (F.ev rfl)) .nil) ?_
    exact ⟨[], OwnS.nil _ _, fun b o s c h => (by cases h), M⟩
  | some a0 =>
    rw [hq] at hS ⊢
    refine fn_ofM (n := 8) [] Try.func24 rfl rfl rfl ?_
    intro a w F M hwW
    with_reducible refine c_seq ?_
    with_reducible refine c_region ?_
    refine stepD rfl F rfl (o_assign (F.ev rfl) ?_); clear F; clear a; intro a F
    with_reducible refine l_nil ?_
    with_reducible refine q_then ?_
    with_reducible refine c_seq ?_
    with_reducible refine c_seq ?_
    with_reducible refine c_region ?_
    refine stepD rfl F rfl (o_move (F.ev rfl) ?_); clear F; clear a; intro a F
    (refine stepD rfl F rfl (o_eqlNil (F.ev rfl) (F.ev rfl) ?_); clear F; clear a; intro a F)
    with_reducible refine l_nil ?_
    with_reducible refine q_then ?_
    refine c_false F rfl rfl ?_
    with_reducible refine c_skip ?_
    with_reducible refine q_then ?_
    with_reducible refine c_seq ?_
    with_reducible refine c_region ?_
    (refine stepD rfl F rfl (o_buildSlice F M rfl rfl rfl rfl ?_); clear F; clear M; intro b5 w M a F)
    refine stepD rfl F rfl (o_move (F.ev rfl) ?_); clear F; clear a; intro a F
    have hSw := hS.later M.ext
    by_cases hn : l.length = 0
    · have hxs : l = [] := List.length_eq_zero_iff.1 hn
      subst hxs
      (refine stepD rfl F rfl (o_append0 (F.ev rfl) (F.ev rfl) (by omega) (hSw.src (by simp [encL])) ?_); clear F; clear a; intro a F)
      refine stepD rfl F rfl (o_assign (F.ev rfl) ?_); clear F; clear a; intro a F
      with_reducible refine l_nil ?_
      with_reducible refine q_then ?_
      with_reducible refine c_ret ?_
      refine p_ret F rfl (.cons (.tmp (F.ev rfl)) .nil) ?_
      exact ⟨[(b5, _)], .inr ⟨b5, 0, [], rfl, rfl, by simp [encL], by simp, by simp⟩, fun b o s c h _ => (by cases h; rfl), M⟩
    · have hO5 : OwnS 52 37 (.slice (some ⟨b5, 0, none⟩) 0 0) 0 [] [(b5, .cells ([] : List Value).toArray 52 (0, 0))] := .inr ⟨b5, 0, [], rfl, rfl, by simp, by simp, by simp⟩
      (refine stepD rfl F rfl (o_append hO5 M .here (F.ev rfl) (F.ev rfl) (hSw.src avs_one) (by omega) (by omega) ?_); clear F; clear M; intro u ent w hO M a F)
      rw [Nat.zero_add, List.nil_append] at hO
      refine stepD rfl F rfl (o_assign (F.ev rfl) ?_); clear F; clear a; intro a F
      with_reducible refine l_nil ?_
      with_reducible refine q_then ?_
      with_reducible refine c_ret ?_
      refine p_ret F rfl (.cons (.tmp (F.ev rfl)) .nil) ?_
      exact ⟨ent, hO, fun b o s c _ h => absurd h hn, M⟩
theorem due2_c (x : AdvV) (hx : IsAv x) (W : World) : Cal Try.prog 52 [.agg (avC x).toArray].toArray W fun r w' => r = .bool (decide (x.own.met = inf)) ∧ Ext [] W w' := by
  have e1 := av_own_met hx
  have e2 : (x.own.met == 65535) = decide (x.own.met = inf) := by unfold inf; by_cases h : x.own.met = 65535 <;> simp [h]
  refine fn_ofM (n := 7) [] Try.func52 rfl rfl rfl ?_
  intro a w F M hwW
  refine c_seq ?_
  refine c_region ?_
  (refine stepD rfl F rfl (o_box M (F.ev rfl) rfl ?_); clear F; clear M; intro b1 w M a F)
  refine stepD rfl F rfl (o_assign (F.ev rfl) ?_); clear F; clear a; intro a F
  with_reducible refine l_nil ?_
  with_reducible refine q_then ?_
  with_reducible refine c_seq ?_
  with_reducible refine c_region ?_
  refine stepD rfl F rfl (o_fieldAddr (F.ev rfl) ?_); clear F; clear a; intro a F
  refine stepD rfl F rfl (o_fieldAddr (F.ev rfl) ?_); clear F; clear a; intro a F
  refine stepD rfl F rfl (o_load1 M (F.ev rfl) (by repeat (first | exact .here | apply Has.there)) (by first | assumption | rfl) ?_); clear F; clear a; intro a F
  refine stepD rfl F rfl (o_eql (F.ev rfl) (F.ev rfl) ?_); clear F; clear a; intro a F
  refine stepD rfl F rfl (o_assign (F.ev rfl) ?_); clear F; clear a; intro a F
  with_reducible refine l_nil ?_
  with_reducible refine q_then ?_
  with_reducible refine c_ret ?_
  refine p_ret F rfl (.cons (.tmp (F.ev rfl)) .nil) ?_
  exact ⟨by rw [← e2]; rfl, M.ext⟩
set_option maxHeartbeats 2000000 in
theorem indexA_c (l : List AdvV) (hx : ∀ x ∈ l, IsAv x) (hlen : l.length ≤ 100000) (v : Value) (W : World) (hS : SlAt W 37 v l.length (avsC l)) :
    Cal Try.prog 96 [v, .func (.func 52) #[] #[]].toArray W fun r w' => ∃ k : Int, r = .int .i64 k ∧ decide (0 ≤ k) = (l.any fun a => decide (a.own.met = inf)) ∧ Ext [] W w' := by
  obtain ⟨q, cap, rfl, hcap, hsp, hl, hm⟩ := hS
  refine fn_ofM (n := 19) [] Try.func96 rfl rfl rfl ?_
  intro a w F M hwW
  with_reducible refine c_seq ?_
  with_reducible refine c_region ?_
  refine stepD rfl F rfl (o_assign (F.ev rfl) ?_); clear F; clear a; intro a F
  with_reducible refine l_nil ?_
  with_reducible refine q_then ?_
  with_reducible refine c_seq ?_
  with_reducible refine c_seq ?_
  with_reducible refine c_region ?_
  refine stepD rfl F rfl (o_move (F.ev rfl) ?_); clear F; clear a; intro a F
  refine stepD rfl F rfl (o_lenSl (F.ev rfl) ?_); clear F; clear a; intro a F
  refine stepD rfl F rfl (o_move (F.ev rfl) ?_); clear F; clear a; intro a F
  with_reducible refine l_nil ?_
  with_reducible refine q_then ?_
  with_reducible refine c_block ?_
  refine c_loop (fun m a w => ∃ i : Nat, m = l.length - i ∧ i ≤ l.length ∧ (∀ j (hj : j < l.length), j < i → decide (l[j].own.met = inf) = false) ∧ Frm a 19 [] [(8, .int .i64 i), (7, .int .i64 l.length), (0, .slice q l.length cap), (1, .func (.func 52) #[] #[])] ∧ Mem [] W w []) l.length ⟨0, rfl, by omega, by omega, F.only [8, 7, 0, 1] rfl, M⟩ ?_
  clear F M
  rintro m a w ⟨i, hm', hi, hv, F, M⟩
  by_cases hlt : i < l.length
  · obtain ⟨b, o, cs, t, fz, rfl, hb, hs⟩ := hm (by omega)
    have hxv := hx _ (List.getElem_mem hlt)
    have hmem := List.getElem_mem hlt
    have f1 : seg cs (o + (i : Int).toNat * 37) 37 = some (avC l[i]) := seg_el (avs_len hx) hs hlt (by omega)
    have hne : decide (l[i].own.met = inf) = false → ∀ j (hj : j < l.length), j < i + 1 → decide (l[j].own.met = inf) = false := fun h j hj hj2 => by
      rcases Nat.lt_or_ge j i with h1 | h1
      · exact hv j hj h1
      · obtain rfl : j = i := by omega
        exact h
    obtain ⟨x, hx0⟩ : ∃ x, x = l[i] := ⟨_, rfl⟩
    rw [← hx0] at hxv f1 hne hmem
    with_reducible refine c_seq ?_
    with_reducible refine c_region ?_
    refine stepD rfl F rfl (o_lssT (F.ev rfl) (F.ev rfl) (by omega) ?_); clear F; clear a; intro a F
    with_reducible refine l_nil ?_
    with_reducible refine q_then ?_
    with_reducible refine c_seq ?_
    refine c_true F rfl rfl ?_
    with_reducible refine c_skip ?_
    with_reducible refine q_then ?_
    with_reducible refine c_seq ?_
    with_reducible refine c_block ?_
    with_reducible refine c_seq ?_
    with_reducible refine c_region ?_
    refine stepD rfl F rfl (o_move (F.ev rfl) ?_); clear F; clear a; intro a F
    refine stepD rfl F rfl (o_assign (F.ev rfl) ?_); clear F; clear a; intro a F
    with_reducible refine l_nil ?_
    with_reducible refine q_then ?_
    with_reducible refine c_seq ?_
    with_reducible refine c_region ?_
    refine stepD rfl F rfl (o_move (F.ev rfl) ?_); clear F; clear a; intro a F
    refine stepD rfl F rfl (o_move (F.ev rfl) ?_); clear F; clear a; intro a F
    refine stepD rfl F rfl (o_move (F.ev rfl) ?_); clear F; clear a; intro a F
    refine stepD rfl F rfl (o_indexSl (F.ev rfl) (F.ev rfl) (by omega) (by omega) ?_); clear F; clear a; intro a F
    refine stepD rfl F rfl (o_loadWA M (F.ev rfl) (by assumption) (by first | assumption | rfl) ?_); clear F; clear a; intro a F
    (refine stepD rfl F rfl (o_call (F.ev rfl) (F.evs rfl) (Cal.mono (due2_c x hxv _) ?_)); clear F; clear a; rintro _ w ⟨rfl, hE⟩ a F; replace M := M.later hE; clear hE)
    cases hc : decide (x.own.met = inf)
    · rw [hc] at F
      with_reducible refine l_nil ?_
      with_reducible refine q_then ?_
      refine c_false F rfl rfl ?_
      with_reducible refine c_skip ?_
      with_reducible refine q_inB ?_
      with_reducible refine q_then ?_
      with_reducible refine c_region ?_
      refine stepD rfl F rfl (o_add (F.ev rfl) (F.ev rfl) (w_i64 (by omega) (by omega)) ?_); clear F; clear a; intro a F
      refine stepD rfl F rfl (o_move (F.ev rfl) ?_); clear F; clear a; intro a F
      with_reducible refine l_nil ?_
      with_reducible refine q_then ?_
      exact ⟨_, by omega, i + 1, rfl, by omega, hne hc, F.only [8, 7, 0, 1] rfl, M⟩
    · rw [hc] at F
      with_reducible refine l_nil ?_
      with_reducible refine q_then ?_
      refine c_true F rfl rfl ?_
      with_reducible refine c_seq ?_
      with_reducible refine c_region ?_
      refine stepD rfl F rfl (o_move (F.ev rfl) ?_); clear F; clear a; intro a F
      refine stepD rfl F rfl (o_assign (F.ev rfl) ?_); clear F; clear a; intro a F
      with_reducible refine l_nil ?_
      with_reducible refine q_then ?_
      with_reducible refine c_ret ?_
      with_reducible refine q_inBR ?_
      with_reducible refine q_thenR ?_
      with_reducible refine q_thenR ?_
      with_reducible refine q_inBR ?_
      with_reducible refine q_thenR ?_
      refine p_ret F rfl (.cons (.tmp (F.ev rfl)) .nil) ?_
      exact ⟨i, rfl, by rw [decide_eq_true (by omega)]; exact (List.any_eq_true.2 ⟨x, hmem, hc⟩).symm, M.ext⟩
  · obtain rfl : i = l.length := by omega
    with_reducible refine c_seq ?_
    with_reducible refine c_region ?_
    refine stepD rfl F rfl (o_lssF (F.ev rfl) (F.ev rfl) (by omega) ?_); clear F; clear a; intro a F
    with_reducible refine l_nil ?_
    with_reducible refine q_then ?_
    with_reducible refine c_seq ?_
    refine c_false F rfl rfl ?_
    with_reducible refine c_exit ?_
    with_reducible refine q_thenX ?_
    with_reducible refine q_thenX ?_
    with_reducible refine q_inBX ?_
    with_reducible refine q_then ?_
    with_reducible refine c_seq ?_
    with_reducible refine c_region ?_
    refine stepD rfl F rfl (o_assign (F.ev rfl) ?_); clear F; clear a; intro a F
    with_reducible refine l_nil ?_
    with_reducible refine q_then ?_
    with_reducible refine c_ret ?_
    refine p_ret F rfl (.cons (.tmp (F.ev rfl)) .nil) ?_
    exact ⟨-1, rfl, by
      rw [decide_eq_false (by omega)]
      refine (List.any_eq_false.2 ?_).symm
      intro x hx
      obtain ⟨j, hj, rfl⟩ := List.mem_iff_getElem.1 hx
      simpa using hv j hj hj, M.ext⟩
theorem containsA_c (l : List AdvV) (hx : ∀ x ∈ l, IsAv x) (hlen : l.length ≤ 100000) (v : Value) (W : World) (hS : SlAt W 37 v l.length (avsC l)) :
    Cal Try.prog 51 [v, .func (.func 52) #[] #[]].toArray W fun r w' => r = .bool (l.any fun a => decide (a.own.met = inf)) ∧ Ext [] W w' := by
  refine fn_ofM (n := 9) [] Try.func51 rfl rfl rfl ?_
  intro a w F M hwW
  with_reducible refine c_seq ?_
  with_reducible refine c_region ?_
  refine stepD rfl F rfl (o_assign (F.ev rfl) ?_); clear F; clear a; intro a F
  with_reducible refine l_nil ?_
  with_reducible refine q_then ?_
  with_reducible refine c_seq ?_
  with_reducible refine c_region ?_
  refine stepD rfl F rfl (o_move (F.ev rfl) ?_); clear F; clear a; intro a F
  refine stepD rfl F rfl (o_move (F.ev rfl) ?_); clear F; clear a; intro a F
  (refine stepD rfl F rfl (o_call (F.ev rfl) (F.evs rfl) (Cal.mono (indexA_c l hx hlen v _ (hS.later M.ext)) ?_)); clear F; clear a; rintro _ w ⟨k, rfl, hk, hE⟩ a F; replace M := M.later hE; clear hE)
  refine stepD rfl F rfl (o_geq (F.ev rfl) (F.ev rfl) ?_); clear F; clear a; intro a F
  refine stepD rfl F rfl (o_assign (F.ev rfl) ?_); clear F; clear a; intro a F
  with_reducible refine l_nil ?_
  with_reducible refine q_then ?_
  with_reducible refine c_ret ?_
  refine p_ret F rfl (.cons (.tmp (F.ev rfl)) .nil) ?_
  exact ⟨by rw [← hk]; rfl, M.ext⟩
set_option maxHeartbeats 1000000 in
theorem due1_c (x y : AdvV) (hx : IsAv x) (hy : IsAv y) (W : World) : Cal Try.prog 49 [.agg (avC x).toArray, .agg (avC y).toArray].toArray W fun r w' => r = .int .i64 (cmpD x.to y.to) ∧ Ext [] W w' := by
  have e1 := av_to hx
  have e2 := av_to hy
  refine fn_ofM (n := 10) [] Try.func49 rfl rfl rfl ?_
  intro a w F M hwW
  refine c_seq ?_
  refine c_region ?_
  (refine stepD rfl F rfl (o_box M (F.ev rfl) rfl ?_); clear F; clear M; intro b2 w M a F)
  (refine stepD rfl F rfl (o_box M (F.ev rfl) rfl ?_); clear F; clear M; intro b3 w M a F)
  refine stepD rfl F rfl (o_assign (F.ev rfl) ?_); clear F; clear a; intro a F
  with_reducible refine l_nil ?_
  with_reducible refine q_then ?_
  with_reducible refine c_seq ?_
  with_reducible refine c_region ?_
  refine stepD rfl F rfl (o_fieldAddr (F.ev rfl) ?_); clear F; clear a; intro a F
  refine stepD rfl F rfl (o_loadA M (F.ev rfl) (by repeat (first | exact .here | apply Has.there)) (by first | assumption | rfl) ?_); clear F; clear a; intro a F
  refine stepD rfl F rfl (o_fieldAddr (F.ev rfl) ?_); clear F; clear a; intro a F
  refine stepD rfl F rfl (o_loadA M (F.ev rfl) (by repeat (first | exact .here | apply Has.there)) (by first | assumption | rfl) ?_); clear F; clear a; intro a F
  (refine stepD rfl F rfl (o_call (F.ev rfl) (F.evs rfl) (Cal.mono (scompare_c x.to y.to hx.1 hy.1 _) ?_)); clear F; clear a; rintro _ w ⟨rfl, hE⟩ a F; replace M := M.later hE; clear hE)
  refine stepD rfl F rfl (o_assign (F.ev rfl) ?_); clear F; clear a; intro a F
  with_reducible refine l_nil ?_
  with_reducible refine q_then ?_
  with_reducible refine c_ret ?_
  refine p_ret F rfl (.cons (.tmp (F.ev rfl)) .nil) ?_
  exact ⟨rfl, M.ext⟩
/-! the sort -/
abbrev ADst := {d : DstV // IsDv d}
def z16 : List Int := [0, 0, 0, 0, 0, 0, 0, 0, 0, 0, 0, 0, 0, 0, 0, 0]
theorem z16_is : IsIP z16 := ⟨rfl, by intro x hx; simp [z16] at hx; omega⟩
instance : Inhabited ADst := ⟨⟨⟨z16, 0, z16, 0, 0⟩, z16_is, z16_is⟩⟩
def cfD (x y : ADst) : Int := cmpD x.1 y.1
theorem ltD (x y : ADst) : ltOf cfD x y = true ↔ cmpD x.1 y.1 < 0 := decide_eq_true_iff
theorem ltD_f (x y : ADst) : ltOf cfD x y = false ↔ ¬ cmpD x.1 y.1 < 0 := decide_eq_false_iff_not
theorem swoD : SWO (ltOf cfD) where
  irrefl x := by rw [ltD_f, cmpD_self]; omega
  trans x y z h1 h2 := by rw [ltD] at *; exact cmpD_trans h1 h2
  ntrans x y z h1 h2 := by
    rw [ltD_f] at *
    intro h
    have h3 := cmpD_anti x.1 y.1
    rcases Int.lt_trichotomy (cmpD y.1 x.1) 0 with h4 | h4 | h4
    · exact h2 (cmpD_trans h4 h)
    · rw [cmpD_zero y.2 x.2 h4] at h2
      exact h2 h
    · omega
theorem totD (x y : ADst) (h1 : ltOf cfD x y = false) (h2 : ltOf cfD y x = false) : x = y := by
  rw [ltD_f] at *
  have h3 := cmpD_anti x.1 y.1
  exact Subtype.ext (cmpD_zero x.2 y.2 (by omega))
theorem getO_nd : ∀ {l : List AdvV}, (l.map (·.to)).Nodup → ∀ {a : AdvV}, a ∈ l → getO l a.to = some a.own
  | [], _, _, h => by cases h
  | x :: l, hn, a, h => by
    rw [getO_cons]
    simp only [List.map_cons, List.nodup_cons, List.mem_map, not_exists, not_and] at hn
    rcases List.mem_cons.1 h with rfl | h
    · simp
    · rw [if_neg fun e => hn.1 a h e.symm]
      exact getO_nd hn.2 h
set_option maxHeartbeats 1000000 in
theorem sortA_c (ls m : List AdvV) (hx : ∀ x ∈ ls, IsAv x) (hnd : (ls.map (·.to)).Nodup) (hm : AscA m) (hmem : ∀ x, x ∈ m ↔ x ∈ ls) (hlen : ls.length ≤ 100000)
    {S : List Nat} {W0 w : World} {l : List (Nat × Obj)} {f : List (Nat × Obj) → List (Nat × Obj)} {v : Value} {ent : List (Nat × Obj)} (M : Mem S W0 w l) (hO : OwnS 52 37 v ls.length (avsC ls) ent) (hl : TailAt ent l f) :
    Cal Try.prog 48 [v, .func (.func 49) #[] #[]].toArray w fun _ w' => ∃ ent', OwnS 52 37 v ls.length (avsC m) ent' ∧ Mem S W0 w' (f ent') := by
  obtain ⟨f0, hf0⟩ : ∃ f0 : DstV → DisV, ∀ a ∈ ls, f0 a.to = a.own := ⟨fun d => (getO ls d).getD di0, fun a ha => by simp [getO_nd hnd ha]⟩
  let dec : ADst → AdvV := fun d => ⟨d.1, f0 d.1⟩
  let enc : ADst → List Value := fun d => avC (dec d)
  have hdec : ∀ d, IsAv (dec d) := fun d => ⟨d.2, trivial⟩
  obtain ⟨az, haz⟩ : ∃ az : List ADst, az.map dec = ls := ⟨ls.pmap (fun a h => (⟨a.to, h⟩ : ADst)) (fun a ha => (hx a ha).1), by
    rw [List.map_pmap]
    have : ∀ (l : List AdvV) (h : ∀ a ∈ l, IsDv a.to) (h2 : ∀ a ∈ l, f0 a.to = a.own), l.pmap (fun a h => dec ⟨a.to, h⟩) h = l := by
      intro l
      induction l with
      | nil => intro _ _; rfl
      | cons a l ih =>
        intro h h2
        rw [List.pmap_cons, ih _ fun b hb => h2 b (List.mem_cons_of_mem _ hb)]
        congr 1
        show (⟨a.to, f0 a.to⟩ : AdvV) = a
        rw [h2 a List.mem_cons_self]
    exact this ls _ hf0⟩
  have henc : ∀ bz : List ADst, encL enc bz = avsC (bz.map dec) := by
    intro bz
    induction bz with
    | nil => rfl
    | cons x xs ih => rw [encL_cons, ih]; rfl
  have hlz : az.length = ls.length := by rw [← haz, List.length_map]
  rw [← hlz] at hO
  rw [← haz, ← henc] at hO
  have h := sort_own (P := Try.prog) (ρ := sortAd_ren) (enc := enc) (k := 37) (e := 52) sortAd (fun x => av_len (hdec x)) (by omega) (fun x => av_one _) (by kernel_rfl) cfD swoD totD (g := 49) (TBody.h (P := Try.prog)) (fun W x y => due1_c (dec x) (dec y) (hdec x) (hdec y) W) az M hO hl (by omega)
  refine Cal.mono h ?_
  rintro _ w' ⟨ent', hO', M'⟩
  have hp := List.mergeSort_perm az fun x y => !(ltOf cfD) y x
  have hs : (az.mergeSort fun x y => !(ltOf cfD) y x).Pairwise fun x y => (!(ltOf cfD) y x) = true := by
    refine List.pairwise_mergeSort ?_ ?_ _
    · intro a b c h1 h2
      simp only [Bool.not_eq_true'] at h1 h2 ⊢
      exact swoD.ntrans c b a h2 h1
    · intro a b
      cases h : ltOf cfD b a with
      | false => simp
      | true => simp [swoD.asymmA h]
  generalize az.mergeSort (fun x y => !(ltOf cfD) y x) = ds at *
  have hnd2 : (ds.map fun d => d.1).Nodup := by
    have e1 : (ls.map (·.to)) = az.map fun d => d.1 := by rw [← haz, List.map_map]; rfl
    rw [e1] at hnd
    exact (hp.map _).nodup_iff.2 hnd
  have hdm : ds.map dec = m := by
    refine ascK_unique AdvV.to _ _ ?_ hm fun x => ?_
    · unfold AscK
      rw [List.pairwise_map]
      have h2 : ds.Pairwise fun a b => a.1 ≠ b.1 := by
        have := hnd2
        rw [List.Nodup, List.pairwise_map] at this
        exact this
      refine (List.Pairwise.and hs h2).imp ?_
      rintro a b ⟨h3, h4⟩
      simp only [Bool.not_eq_true'] at h3
      rw [ltD_f] at h3
      show cmpD a.1 b.1 < 0
      have h5 := cmpD_anti a.1 b.1
      have h6 : cmpD a.1 b.1 ≠ 0 := fun h => h4 (cmpD_zero a.2 b.2 h)
      omega
    · rw [hmem, ← haz]
      exact (hp.map dec).mem_iff
  rw [henc, hdm, hlz] at hO'
  exact ⟨ent', hO', M'⟩
end Go.Proofs.Ytilgoepokaaleaa
/-! Y8 -/
namespace Go.Proofs.Ytilgoepokaaleaa
set_option linter.unusedVariables false
set_option linter.unusedSimpArgs false
open Go.RowKit
attribute [local irreducible] OpTo wpListIn Code.wpIn MW Cal
/-! the reference's steps through both lists -/
theorem mrg_gt {full : Bool} {x y : AdvV} {l t : List AdvV} (e : x.to ≠ y.to) (h : ¬ cmpD x.to y.to < 0) : mrg full (x :: l) (y :: t) = (if decide (y.own.met = inf) then [] else [retr y]) ++ mrg full (x :: l) t := by
  rw [mrg, if_neg e, if_neg h]
theorem mrg_r {full : Bool} {x : AdvV} {l : List AdvV} : mrg full (x :: l) [] = (if full || !decide (x.own.met = inf) then [x] else []) ++ mrg full l [] := by
  rw [mrg]
def x0 : AdvV := ⟨⟨[], 0, [], 0, 0⟩, ⟨0, 0⟩⟩
def LoK (T l : List AdvV) (i k : Nat) : Prop := ∀ j (hj : j < T.length) i' (hi : i' < l.length), j < k → i ≤ i' → cmpD T[j].to l[i'].to < 0
theorem asc_at {l : List AdvV} (h : AscA l) {i j : Nat} (hi : i < l.length) (hj : j < l.length) (hij : i < j) : cmpD l[i].to l[j].to < 0 := List.pairwise_iff_getElem.1 h i j hi hj hij
theorem LoK.skip {T l : List AdvV} {i k : Nat} (h : LoK T l i k) (hl : AscA l) (hk : k < T.length) (hlt : ∀ hi : i < l.length, cmpD T[k].to l[i].to < 0) : LoK T l i (k + 1) := fun j hj i' hi' h1 h2 => by
  rcases Nat.lt_or_ge j k with h3 | h3
  · exact h j hj i' hi' h3 h2
  · obtain rfl : j = k := by omega
    rcases Nat.lt_or_ge i i' with h4 | h4
    · exact cmpD_trans (hlt (by omega)) (asc_at hl (by omega) hi' h4)
    · obtain rfl : i = i' := by omega
      exact hlt hi'
/-- an answer of Due -/
def DueP (D : DueR) (r : Value) (w' W : World) : Prop := ∃ u s eu es, r = .tuple [.agg (plC u D.full).toArray, s, .bool D.urg, .int .i64 D.err].toArray ∧ OwnS 52 37 u D.told.length (avsC D.told) eu ∧ OwnS 52 37 s D.sent.length (avsC D.sent) es ∧ Mem [] W w' (eu ++ es)
def PhA (l : List AdvV) (v : Value) (ent : List (Nat × Obj)) : Prop := OwnS 52 37 v l.length (avsC l) ent
def PhPl (l : List AdvV) (full : Int) (v : Value) (ent : List (Nat × Obj)) : Prop := ∃ u, v = .agg (plC u full).toArray ∧ OwnS 52 37 u l.length (avsC l) ent
/-- a block of another type is another block -/
theorem OwnS.apart {l : List AdvV} {v : Value} {ent : List (Nat × Obj)} (h : OwnS 52 37 v l.length (avsC l) ent) {w : World} (hb : ∀ p ∈ ent, w.heap[p.1]? = some p.2) {b : Nat} {cs : Array Value} {t : TypeId} {fz : Nat × Nat} (ht : t ≠ 52) (hq : w.heap[b]? = some (.cells cs t fz)) : ∀ p ∈ ent, ptrTo p.1 ≠ ptrTo b := by
  intro p hp e
  have e2 := ptrTo_inj e
  have h1 := hb p hp
  rw [e2, hq] at h1
  rcases h with ⟨_, _, _, rfl⟩ | ⟨_, _, _, _, rfl, _⟩
  · cases hp
  · simp only [List.mem_singleton] at hp
    subst hp
    simp only [Option.some.injEq, Obj.cells.injEq] at h1
    exact ht h1.2.1
theorem Mem.empty (w : World) : Mem [] w w [] := ⟨Ext.refl _ _, fun p hp => (by cases hp), by simp, fun p hp => (by cases hp)⟩
theorem zeroPl : OwnS 52 37 (.slice none 0 0) ([] : List AdvV).length (avsC []) [] := OwnS.nil _ _
end Go.Proofs.Ytilgoepokaaleaa
/-! Y9 -/
namespace Go.Proofs.Ytilgoepokaaleaa
set_option linter.unusedVariables false
set_option linter.unusedSimpArgs false
open Go.RowKit
attribute [local irreducible] OpTo wpListIn Code.wpIn MW Cal
theorem lk_own {T : List AdvV} (h : AscA T) (t : DstV) : (getA t (mapV (mapD T))).getD (diV di0) = diV ((getO T t).getD di0) := by
  rw [getA_mapV, getA_mapD h]
  cases getO T t <;> rfl
theorem lk_is {T : List AdvV} (h : AscA T) (t : DstV) : (getA t (mapV (mapD T))).isSome = (getO T t).isSome := by
  rw [getA_mapV, getA_mapD h]
  cases getO T t <;> rfl
theorem MapIn.mk {κ : Type} {w : World} {kv : κ → Value} {b : Nat} {o : Obj} {m : List (κ × Value)} (h : w.heap[b]? = some o) (hA : MapAt kv m o) : MapIn w kv (.map (some b)) m := ⟨b, o, rfl, h, hA⟩
theorem zero_di : zeroIs Try.prog 50 (diV di0) := by
  unfold zeroIs
  kernel_rfl
theorem sentG_nodup {full : Bool} {T l : List AdvV} (hl : AscA l) (hT : AscA T) : ((sentG full T l).map (·.to)).Nodup := by
  have key : ∀ {l : List AdvV}, AscA l → (l.map (·.to)).Nodup := by
    intro l h
    rw [List.Nodup, List.pairwise_map]
    exact List.Pairwise.imp (fun {a b} h2 e => by rw [e, cmpD_self] at h2; omega) h
  unfold sentG
  rw [List.map_append, List.nodup_append]
  refine ⟨key (AscK.filter hl _), ?_, ?_⟩
  · rw [List.map_map]
    exact key (AscK.filter hT _)
  · rintro d hd e he rfl
    obtain ⟨x, hx, rfl⟩ := List.mem_map.1 hd
    obtain ⟨y', hy', e1⟩ := List.mem_map.1 he
    obtain ⟨y, hy, rfl⟩ := List.mem_map.1 hy'
    have h1 := (List.mem_filter.1 hx).1
    have h2 := (List.mem_filter.1 hy).2
    unfold dropG at h2
    have h3 := getO_mem hl h1
    rw [← e1] at h3
    change getO l y.to = _ at h3
    rw [h3] at h2
    simp at h2
theorem sentG_len (full : Bool) (T l : List AdvV) : (sentG full T l).length ≤ l.length + T.length := by
  unfold sentG
  rw [List.length_append, List.length_map]
  have h1 := List.length_filter_le (keepG full T) l
  have h2 := List.length_filter_le (dropG l) T
  omega
theorem mem_sentG {full : Bool} {T l : List AdvV} {x : AdvV} : x ∈ sentG full T l ↔ (x ∈ l ∧ keepG full T x = true) ∨ ∃ y ∈ T, dropG l y = true ∧ x = retr y := by
  unfold sentG
  simp only [List.mem_append, List.mem_filter, List.mem_map]
  constructor
  · rintro (h | ⟨y, h, rfl⟩)
    · exact .inl h
    · exact .inr ⟨y, h.1, h.2, rfl⟩
  · rintro (h | ⟨y, h1, h2, rfl⟩)
    · exact .inl h
    · exact .inr ⟨y, ⟨h1, h2⟩, rfl⟩
set_option maxHeartbeats 8000000 in
theorem udue_c (T l : List AdvV) (iT : ∀ x ∈ T, IsAv x) (il : ∀ x ∈ l, IsAv x) (vt vl : Value) (fl now : Int) (W : World) (hST : SlAt W 37 vt T.length (avsC T)) (hSl : SlAt W 37 vl l.length (avsC l)) :
    Cal Try.prog 17 [.agg (plC vt fl).toArray, .int .i64 now, vl].toArray W fun r w' => DueP (dueV T fl now l) r w' W := by
  have k0 := uvalid_c T iT vt fl
  have k1 := uvalidAs_c l il vl
  have h1 := hST.one
  unfold plC at *
  cases c1 : validAs T && isTime fl
  · have hD : dueV T fl now l = ⟨[], 0, [], false, 1⟩ := by unfold dueV; rw [c1]; rfl
    rw [hD]
    refine fn_ofM (n := 130) [] Try.func17 rfl rfl rfl ?_
    intro a w F M hwW
    refine c_seq ?_
    refine c_region ?_
    (refine stepD rfl F rfl (o_box M (F.ev rfl) rfl ?_); clear F; clear M; intro b3 w M a F)
    (refine stepD rfl F rfl (o_alloc M ?_); clear F; clear M; intro b6 w M a F)
    refine stepD rfl F rfl (o_assign (F.ev rfl) ?_); clear F; clear a; intro a F
    refine stepD rfl F rfl (o_assign (F.ev rfl) ?_); clear F; clear a; intro a F
    refine stepD rfl F rfl (o_assign (F.ev rfl) ?_); clear F; clear a; intro a F
    with_reducible refine l_nil ?_
    with_reducible refine q_then ?_
    with_reducible refine c_seq ?_
    with_reducible refine c_seq ?_
    with_reducible refine c_region ?_
    refine stepD rfl F rfl (o_loadA M (F.ev rfl) (by repeat (first | exact .here | apply Has.there)) (by first | assumption | rfl) ?_); clear F; clear a; intro a F
    (refine stepD rfl F rfl (o_call (F.ev rfl) (F.evs rfl) (Cal.mono (k0 _ (hST.later M.ext)) ?_)); clear F; clear a; rintro _ w ⟨rfl, hE⟩ a F; replace M := M.later hE; clear hE)
    rw [c1] at F
    refine stepD rfl F rfl (o_not (F.ev rfl) ?_); clear F; clear a; intro a F
    refine stepD rfl F rfl (o_move (F.ev rfl) ?_); clear F; clear a; intro a F
    refine stepOff F rfl rfl rfl rfl ?_; clear F; clear a; intro a F
    refine stepOff F rfl rfl rfl rfl ?_; clear F; clear a; intro a F
    refine stepOff F rfl rfl rfl rfl ?_; clear F; clear a; intro a F
    refine stepD rfl F rfl (o_pickT (F.ev rfl) (F.ev rfl) ?_); clear F; clear a; intro a F
    with_reducible refine l_nil ?_
    with_reducible refine q_then ?_
    refine c_true F rfl rfl ?_
    with_reducible refine c_seq ?_
    with_reducible refine c_region ?_
    refine stepD rfl F rfl (o_build F rfl rfl ?_); clear F; clear a; intro a F
    (refine stepN rfl F (o_storeA M (F.ev rfl) (F.ev rfl) (by rfl) (by rfl) (by repeat (first | exact .here | apply Has.there)) (by rfl) (by repeat (first | exact .here | apply Upd.there)) ?_); clear F; clear M; intro w M a F)
    refine stepD rfl F rfl (o_assign (F.ev rfl) ?_); clear F; clear a; intro a F
    refine stepD rfl F rfl (o_assign (F.ev rfl) ?_); clear F; clear a; intro a F
    refine stepD rfl F rfl (o_assign (F.ev rfl) ?_); clear F; clear a; intro a F
    with_reducible refine l_nil ?_
    with_reducible refine q_then ?_
    with_reducible refine c_ret ?_
    with_reducible refine q_thenR ?_
    exact p_ret F rfl (.cons (.cell (F.ev rfl) (run_loadVar_agg TAgg.h (M.heap (by repeat (first | exact .here | apply Has.there))) rfl)) (.cons (.tmp (F.ev rfl)) (.cons (.tmp (F.ev rfl)) (.cons (.tmp (F.ev rfl)) .nil)))) ⟨_, _, [], [], rfl, zeroPl, zeroPl, M.sub (by simp)⟩
  cases c2 : validAs l
  · have hD : dueV T fl now l = ⟨[], 0, [], false, 1⟩ := by unfold dueV; rw [c1, c2]; rfl
    rw [hD]
    refine fn_ofM (n := 130) [] Try.func17 rfl rfl rfl ?_
    intro a w F M hwW
    refine c_seq ?_
    refine c_region ?_
    (refine stepD rfl F rfl (o_box M (F.ev rfl) rfl ?_); clear F; clear M; intro b3 w M a F)
    (refine stepD rfl F rfl (o_alloc M ?_); clear F; clear M; intro b6 w M a F)
    refine stepD rfl F rfl (o_assign (F.ev rfl) ?_); clear F; clear a; intro a F
    refine stepD rfl F rfl (o_assign (F.ev rfl) ?_); clear F; clear a; intro a F
    refine stepD rfl F rfl (o_assign (F.ev rfl) ?_); clear F; clear a; intro a F
    with_reducible refine l_nil ?_
    with_reducible refine q_then ?_
    with_reducible refine c_seq ?_
    with_reducible refine c_seq ?_
    with_reducible refine c_region ?_
    refine stepD rfl F rfl (o_loadA M (F.ev rfl) (by repeat (first | exact .here | apply Has.there)) (by first | assumption | rfl) ?_); clear F; clear a; intro a F
    (refine stepD rfl F rfl (o_call (F.ev rfl) (F.evs rfl) (Cal.mono (k0 _ (hST.later M.ext)) ?_)); clear F; clear a; rintro _ w ⟨rfl, hE⟩ a F; replace M := M.later hE; clear hE)
    rw [c1] at F
    refine stepD rfl F rfl (o_not (F.ev rfl) ?_); clear F; clear a; intro a F
    refine stepD rfl F rfl (o_move (F.ev rfl) ?_); clear F; clear a; intro a F
    refine stepG rfl F rfl rfl rfl (o_move (F.ev rfl) ?_); clear F; clear a; intro a F
    (refine stepG rfl F rfl rfl rfl (o_call (F.ev rfl) (F.evs rfl) (Cal.mono (k1 _ (hSl.later M.ext)) ?_)); clear F; clear a; rintro _ w ⟨rfl, hE⟩ a F; replace M := M.later hE; clear hE)
    rw [c2] at F
    refine stepG rfl F rfl rfl rfl (o_not (F.ev rfl) ?_); clear F; clear a; intro a F
    refine stepD rfl F rfl (o_pickF (F.ev rfl) (F.ev rfl) ?_); clear F; clear a; intro a F
    with_reducible refine l_nil ?_
    with_reducible refine q_then ?_
    refine c_true F rfl rfl ?_
    with_reducible refine c_seq ?_
    with_reducible refine c_region ?_
    refine stepD rfl F rfl (o_build F rfl rfl ?_); clear F; clear a; intro a F
    (refine stepN rfl F (o_storeA M (F.ev rfl) (F.ev rfl) (by rfl) (by rfl) (by repeat (first | exact .here | apply Has.there)) (by rfl) (by repeat (first | exact .here | apply Upd.there)) ?_); clear F; clear M; intro w M a F)
    refine stepD rfl F rfl (o_assign (F.ev rfl) ?_); clear F; clear a; intro a F
    refine stepD rfl F rfl (o_assign (F.ev rfl) ?_); clear F; clear a; intro a F
    refine stepD rfl F rfl (o_assign (F.ev rfl) ?_); clear F; clear a; intro a F
    with_reducible refine l_nil ?_
    with_reducible refine q_then ?_
    with_reducible refine c_ret ?_
    with_reducible refine q_thenR ?_
    exact p_ret F rfl (.cons (.cell (F.ev rfl) (run_loadVar_agg TAgg.h (M.heap (by repeat (first | exact .here | apply Has.there))) rfl)) (.cons (.tmp (F.ev rfl)) (.cons (.tmp (F.ev rfl)) (.cons (.tmp (F.ev rfl)) .nil)))) ⟨_, _, [], [], rfl, zeroPl, zeroPl, M.sub (by simp)⟩
  cases c3 : isTime now
  · have hD : dueV T fl now l = ⟨[], 0, [], false, 2⟩ := by unfold dueV; rw [c1, c2, c3]; rfl
    rw [hD]
    refine fn_ofM (n := 130) [] Try.func17 rfl rfl rfl ?_
    intro a w F M hwW
    refine c_seq ?_
    refine c_region ?_
    (refine stepD rfl F rfl (o_box M (F.ev rfl) rfl ?_); clear F; clear M; intro b3 w M a F)
    (refine stepD rfl F rfl (o_alloc M ?_); clear F; clear M; intro b6 w M a F)
    refine stepD rfl F rfl (o_assign (F.ev rfl) ?_); clear F; clear a; intro a F
    refine stepD rfl F rfl (o_assign (F.ev rfl) ?_); clear F; clear a; intro a F
    refine stepD rfl F rfl (o_assign (F.ev rfl) ?_); clear F; clear a; intro a F
    with_reducible refine l_nil ?_
    with_reducible refine q_then ?_
    with_reducible refine c_seq ?_
    with_reducible refine c_seq ?_
    with_reducible refine c_region ?_
    refine stepD rfl F rfl (o_loadA M (F.ev rfl) (by repeat (first | exact .here | apply Has.there)) (by first | assumption | rfl) ?_); clear F; clear a; intro a F
    (refine stepD rfl F rfl (o_call (F.ev rfl) (F.evs rfl) (Cal.mono (k0 _ (hST.later M.ext)) ?_)); clear F; clear a; rintro _ w ⟨rfl, hE⟩ a F; replace M := M.later hE; clear hE)
    rw [c1] at F
    refine stepD rfl F rfl (o_not (F.ev rfl) ?_); clear F; clear a; intro a F
    refine stepD rfl F rfl (o_move (F.ev rfl) ?_); clear F; clear a; intro a F
    refine stepG rfl F rfl rfl rfl (o_move (F.ev rfl) ?_); clear F; clear a; intro a F
    (refine stepG rfl F rfl rfl rfl (o_call (F.ev rfl) (F.evs rfl) (Cal.mono (k1 _ (hSl.later M.ext)) ?_)); clear F; clear a; rintro _ w ⟨rfl, hE⟩ a F; replace M := M.later hE; clear hE)
    rw [c2] at F
    refine stepG rfl F rfl rfl rfl (o_not (F.ev rfl) ?_); clear F; clear a; intro a F
    refine stepD rfl F rfl (o_pickF (F.ev rfl) (F.ev rfl) ?_); clear F; clear a; intro a F
    with_reducible refine l_nil ?_
    with_reducible refine q_then ?_
    refine c_false F rfl rfl ?_
    with_reducible refine c_skip ?_
    with_reducible refine q_then ?_
    with_reducible refine c_seq ?_
    with_reducible refine c_seq ?_
    with_reducible refine c_region ?_
    refine stepD rfl F rfl (o_move (F.ev rfl) ?_); clear F; clear a; intro a F
    (refine stepD rfl F rfl (o_call (F.ev rfl) (F.evs rfl) (Cal.mono (uisTime_c now _) ?_)); clear F; clear a; rintro _ w ⟨rfl, hE⟩ a F; replace M := M.later hE; clear hE)
    rw [c3] at F
    refine stepD rfl F rfl (o_not (F.ev rfl) ?_); clear F; clear a; intro a F
    with_reducible refine l_nil ?_
    with_reducible refine q_then ?_
    refine c_true F rfl rfl ?_
    with_reducible refine c_seq ?_
    with_reducible refine c_region ?_
    refine stepD rfl F rfl (o_build F rfl rfl ?_); clear F; clear a; intro a F
    (refine stepN rfl F (o_storeA M (F.ev rfl) (F.ev rfl) (by rfl) (by rfl) (by repeat (first | exact .here | apply Has.there)) (by rfl) (by repeat (first | exact .here | apply Upd.there)) ?_); clear F; clear M; intro w M a F)
    refine stepD rfl F rfl (o_assign (F.ev rfl) ?_); clear F; clear a; intro a F
    refine stepD rfl F rfl (o_assign (F.ev rfl) ?_); clear F; clear a; intro a F
    refine stepD rfl F rfl (o_assign (F.ev rfl) ?_); clear F; clear a; intro a F
    with_reducible refine l_nil ?_
    with_reducible refine q_then ?_
    with_reducible refine c_ret ?_
    with_reducible refine q_thenR ?_
    exact p_ret F rfl (.cons (.cell (F.ev rfl) (run_loadVar_agg TAgg.h (M.heap (by repeat (first | exact .here | apply Has.there))) rfl)) (.cons (.tmp (F.ev rfl)) (.cons (.tmp (F.ev rfl)) (.cons (.tmp (F.ev rfl)) .nil)))) ⟨_, _, [], [], rfl, zeroPl, zeroPl, M.sub (by simp)⟩
  obtain ⟨c4, c5⟩ := Bool.and_eq_true_iff.1 c1
  have hTl := (validAs_iff.1 c4).1
  have hll := (validAs_iff.1 c2).1
  have aT := validAs_asc c4
  have al := validAs_asc c2
  have hnow : 0 ≤ now ∧ now ≤ 1099511627776 := by
    unfold isTime at c3
    simpa using c3
  have hD : dueV T fl now l = ⟨l, if decide (fl ≤ now) then laterV now 3 else fl, mrg (decide (fl ≤ now)) l T, (mrg (decide (fl ≤ now)) l T).any fun a => decide (a.own.met = inf), 0⟩ := by unfold dueV; rw [c1, c2, c3]; rfl
  rw [hD]
  have jT : ∀ x ∈ T, IsDv x.to := fun x h => (iT x h).1
  have jl : ∀ x ∈ l, IsDv x.to := fun x h => (il x h).1
  have hmlen := mrg_len (decide (fl ≤ now)) l T
  have hspec := mrg_spec (decide (fl ≤ now)) l T al aT jl jT
  refine fn_ofM (n := 130) [] Try.func17 rfl rfl rfl ?_
  intro a w F M hwW
  refine c_seq ?_
  refine c_region ?_
  (refine stepD rfl F rfl (o_box M (F.ev rfl) rfl ?_); clear F; clear M; intro b3 w M a F)
  (refine stepD rfl F rfl (o_alloc M ?_); clear F; clear M; intro b6 w M a F)
  refine stepD rfl F rfl (o_assign (F.ev rfl) ?_); clear F; clear a; intro a F
  refine stepD rfl F rfl (o_assign (F.ev rfl) ?_); clear F; clear a; intro a F
  refine stepD rfl F rfl (o_assign (F.ev rfl) ?_); clear F; clear a; intro a F
  with_reducible refine l_nil ?_
  with_reducible refine q_then ?_
  with_reducible refine c_seq ?_
  with_reducible refine c_seq ?_
  with_reducible refine c_region ?_
  refine stepD rfl F rfl (o_loadA M (F.ev rfl) (by repeat (first | exact .here | apply Has.there)) (by first | assumption | rfl) ?_); clear F; clear a; intro a F
  (refine stepD rfl F rfl (o_call (F.ev rfl) (F.evs rfl) (Cal.mono (k0 _ (hST.later M.ext)) ?_)); clear F; clear a; rintro _ w ⟨rfl, hE⟩ a F; replace M := M.later hE; clear hE)
  rw [c1] at F
  refine stepD rfl F rfl (o_not (F.ev rfl) ?_); clear F; clear a; intro a F
  refine stepD rfl F rfl (o_move (F.ev rfl) ?_); clear F; clear a; intro a F
  refine stepG rfl F rfl rfl rfl (o_move (F.ev rfl) ?_); clear F; clear a; intro a F
  (refine stepG rfl F rfl rfl rfl (o_call (F.ev rfl) (F.evs rfl) (Cal.mono (k1 _ (hSl.later M.ext)) ?_)); clear F; clear a; rintro _ w ⟨rfl, hE⟩ a F; replace M := M.later hE; clear hE)
  rw [c2] at F
  refine stepG rfl F rfl rfl rfl (o_not (F.ev rfl) ?_); clear F; clear a; intro a F
  refine stepD rfl F rfl (o_pickF (F.ev rfl) (F.ev rfl) ?_); clear F; clear a; intro a F
  with_reducible refine l_nil ?_
  with_reducible refine q_then ?_
  refine c_false F rfl rfl ?_
  with_reducible refine c_skip ?_
  with_reducible refine q_then ?_
  with_reducible refine c_seq ?_
  with_reducible refine c_seq ?_
  with_reducible refine c_region ?_
  refine stepD rfl F rfl (o_move (F.ev rfl) ?_); clear F; clear a; intro a F
  (refine stepD rfl F rfl (o_call (F.ev rfl) (F.evs rfl) (Cal.mono (uisTime_c now _) ?_)); clear F; clear a; rintro _ w ⟨rfl, hE⟩ a F; replace M := M.later hE; clear hE)
  rw [c3] at F
  refine stepD rfl F rfl (o_not (F.ev rfl) ?_); clear F; clear a; intro a F
  with_reducible refine l_nil ?_
  with_reducible refine q_then ?_
  refine c_false F rfl rfl ?_
  with_reducible refine c_skip ?_
  with_reducible refine q_then ?_
  with_reducible refine c_seq ?_
  replace F := F.only [2, 1, 3, 6] rfl
  refine c_draw 6 F (by kernel_rfl) ?_
  intro w1 hE hok
  have M1 := M.later hE
  refine mK hok rfl rfl (fun a' w' F' E' => o_move (F'.ev rfl) ⟨Ext.refl _ _, rfl⟩) ?_
  refine mX (V := NewP w1.heap.size (PhA l)) hok rfl rfl (NewP.stays _ _) (fun a' w' F' E' D' => o_call (F'.ev rfl) (F'.evs rfl) (Cal.mono (cloneA_c l (by omega) vl _ (hSl.later (M1.ext.trans E'))) fun _ _ hh => newP_of E' (hh.elim fun ent hq => ⟨ent, hq.1, hq.2.2⟩))) ?_
  refine mK hok rfl rfl (fun a' w' F' E' => o_fieldAddr (F'.ev rfl) ⟨Ext.refl _ _, rfl⟩) ?_
  refine mK hok rfl rfl (fun a' w' F' E' => o_load1 (M1.later E') (F'.ev rfl) (by repeat (first | exact .here | apply Has.there)) (by first | assumption | rfl) ⟨Ext.refl _ _, rfl⟩) ?_
  refine mX (V := NewP w1.heap.size (PhPl l fl)) hok rfl rfl (NewP.stays _ _) (fun a' w' F' E' D' => by
    obtain ⟨ent, g1, g2⟩ := D' 1 (memDep rfl) _ rfl
    obtain ⟨p, c, g3⟩ := OwnS.slice g1
    have F2 := F'.know (d := 38) g3
    exact o_build F2 rfl rfl ⟨Ext.refl _ _, ent, ⟨_, rfl, g3 ▸ g1⟩, g2⟩) ?_
  refine mAl hok rfl rfl (Al.stays _ _) (fun w => Ext.alloc w _) (fun a' w' F' E' => run_al) ?_
  (refine mDone rfl rfl ?_; clear F; clear M; intro a w F hE2 hX hTT hDD hPP; have M := M1.later hE2; (try dsimp only at F))
  obtain ⟨eu, ⟨u, hr, hO⟩, hN⟩ := hX 4 _ rfl
  obtain ⟨b10, e_1, g_1, q_1⟩ := hX 5 _ rfl
  have hap := OwnS.apart hO hN.at_ (by decide) q_1
  replace M := M.joinNew M1 hN
  replace M := Mem.al (pre := eu) M M1 q_1 g_1 hap
  replace F := (F.know (d := 41) hr).know (d := 10) e_1
  clear hr e_1 g_1 q_1 hap hN M1 hX hE2 hok hE hTT hDD hPP
  obtain ⟨p, c, rfl⟩ := hO.slice
  dsimp only [ptrTo] at F
  (refine stepN rfl F (o_storeA M (F.ev rfl) (F.ev rfl) (by rfl) (by rfl) (by repeat (first | exact .here | apply Has.there)) (by rfl) (by repeat (first | exact .here | apply Upd.there)) ?_); clear F; clear M; intro w M a F)
  replace F := F.only [2, 1, 3, 6, 10] rfl
  replace M := M.perm (l' := (b10, .cells (plC (.slice p l.length c) fl).toArray 24 (0, 0)) :: (b6, .cells #[.slice none 0 0, .int .i64 0] 24 (0, 0)) :: (b3, .cells #[vt, .int .i64 fl] 24 (0, 0)) :: eu) (by classical exact List.perm_iff_count.2 fun _ => by simp only [List.count_append, List.count_cons, List.count_nil, Nat.add_zero, Nat.zero_add] <;> ac_rfl)
  with_reducible refine l_nil ?_
  with_reducible refine q_then ?_
  with_reducible refine c_seq ?_
  with_reducible refine c_region ?_
  refine stepD rfl F rfl (o_move (F.ev rfl) ?_); clear F; clear a; intro a F
  refine stepD rfl F rfl (o_fieldAddr (F.ev rfl) ?_); clear F; clear a; intro a F
  refine stepD rfl F rfl (o_load1 M (F.ev rfl) (by repeat (first | exact .here | apply Has.there)) (by first | assumption | rfl) ?_); clear F; clear a; intro a F
  refine stepD rfl F rfl (o_geq (F.ev rfl) (F.ev rfl) ?_); clear F; clear a; intro a F
  refine stepD rfl F rfl (o_assign (F.ev rfl) ?_); clear F; clear a; intro a F
  with_reducible refine l_nil ?_
  with_reducible refine q_then ?_
  with_reducible refine c_seq ?_
  with_reducible refine c_seq ?_
  with_reducible refine c_region ?_
  refine stepD rfl F rfl (o_move (F.ev rfl) ?_); clear F; clear a; intro a F
  with_reducible refine l_nil ?_
  with_reducible refine q_then ?_
  generalize decide (fl ≤ now) = full at *
  refine c_cut (fun a w => Frm a 130 [] [(11, .bool full), (2, vl), (1, .int .i64 now), (3, .pointer (some ⟨b3, 0, none⟩)), (6, .pointer (some ⟨b6, 0, none⟩)), (10, .pointer (some ⟨b10, 0, none⟩))] ∧ Mem [] W w ((b10, .cells (plC (.slice p l.length c) (if full = true then laterV now 3 else fl)).toArray 24 (0, 0)) :: (b6, .cells #[.slice none 0 0, .int .i64 0] 24 (0, 0)) :: (b3, .cells #[vt, .int .i64 fl] 24 (0, 0)) :: eu)) ?_ ?_
  · cases full
    · refine c_false F rfl rfl ?_
      with_reducible refine c_skip ?_
      exact ⟨F.only [11, 2, 1, 3, 6, 10] rfl, M⟩
    · refine c_true F rfl rfl ?_
      with_reducible refine c_region ?_
      refine stepD rfl F rfl (o_move (F.ev rfl) ?_); clear F; clear a; intro a F
      refine stepD rfl F rfl (o_add (F.ev rfl) (F.ev rfl) (w_i64 (by omega) (by omega)) ?_); clear F; clear a; intro a F
      refine stepD rfl F rfl (o_min (F.ev rfl) (F.ev rfl) ?_); clear F; clear a; intro a F
      refine stepD rfl F rfl (o_fieldAddr (F.ev rfl) ?_); clear F; clear a; intro a F
      (refine stepN rfl F (o_store1 M (F.ev rfl) (F.ev rfl) rfl (by repeat (first | exact .here | apply Has.there)) (by rfl) (by repeat (first | exact .here | apply Upd.there)) ?_); clear F; clear M; intro w M a F)
      with_reducible refine l_nil ?_
      exact ⟨F.only [11, 2, 1, 3, 6, 10] rfl, M⟩
  clear F M a w
  rintro a w ⟨F, M⟩
  generalize (if full = true then laterV now 3 else fl) = fl2 at *
  obtain ⟨ql, cl, rfl, hcl, hspl, hlenl, hml⟩ := id hSl
  obtain ⟨qt, ct, rfl, hct, hspt, hlent, hmt⟩ := id hST
  with_reducible refine q_then ?_
  with_reducible refine c_seq ?_
  with_reducible refine c_region ?_
  refine stepD rfl F rfl (o_fieldAddr (F.ev rfl) ?_); clear F; clear a; intro a F
  refine stepD rfl F rfl (o_load1 M (F.ev rfl) (by repeat (first | exact .here | apply Has.there)) (by first | assumption | rfl) ?_); clear F; clear a; intro a F
  (refine stepD rfl F rfl (o_call (F.ev rfl) (F.evs rfl) (Cal.mono (byDest_c T iT (by omega) _ _ (hST.later M.ext) ) ?_)); clear F; clear a; rintro _ w ⟨em1, ⟨m1, o1, rfl, rfl, hA1⟩, N⟩ a F; replace M := M.joins N; clear N)
  refine stepD rfl F rfl (o_move (F.ev rfl) ?_); clear F; clear a; intro a F
  (refine stepD rfl F rfl (o_call (F.ev rfl) (F.evs rfl) (Cal.mono (byDest_c l il (by omega) _ _ (hSl.later M.ext) ) ?_)); clear F; clear a; rintro _ w ⟨em2, ⟨m2, o2, rfl, rfl, hA2⟩, N⟩ a F; replace M := M.joins N; clear N)
  refine stepD rfl F rfl (o_assign (F.ev rfl) ?_); clear F; clear a; intro a F
  refine stepD rfl F rfl (o_assign (F.ev rfl) ?_); clear F; clear a; intro a F
  with_reducible refine l_nil ?_
  with_reducible refine q_then ?_
  with_reducible refine c_seq ?_
  with_reducible refine c_region ?_
  refine stepD rfl F rfl (o_assign (F.ev rfl) ?_); clear F; clear a; intro a F
  with_reducible refine l_nil ?_
  with_reducible refine q_then ?_
  with_reducible refine c_seq ?_
  with_reducible refine c_seq ?_
  with_reducible refine c_region ?_
  refine stepD rfl F rfl (o_move (F.ev rfl) ?_); clear F; clear a; intro a F
  refine stepD rfl F rfl (o_lenSl (F.ev rfl) ?_); clear F; clear a; intro a F
  refine stepD rfl F rfl (o_move (F.ev rfl) ?_); clear F; clear a; intro a F
  with_reducible refine l_nil ?_
  with_reducible refine q_then ?_
  with_reducible refine c_block ?_
  obtain ⟨v, hv⟩ : ∃ v, v = Value.slice none 0 0 := ⟨_, rfl⟩
  rw [← hv] at F
  obtain ⟨es, hes⟩ : ∃ es : List (Nat × Obj), es = [] := ⟨_, rfl⟩
  replace M : Mem [] W w ((b10, .cells (plC (.slice p l.length c) fl2).toArray 24 (0, 0)) :: (b6, .cells #[.slice none 0 0, .int .i64 0] 24 (0, 0)) :: (b3, .cells #[.slice qt T.length ct, .int .i64 fl] 24 (0, 0)) :: (m1, o1) :: (m2, o2) :: (eu ++ es)) := by
    rw [hes]
    exact M.perm (by classical exact List.perm_iff_count.2 fun _ => by simp only [List.count_append, List.count_cons, List.count_nil, Nat.add_zero, Nat.zero_add] <;> ac_rfl)
  have hOs : OwnS 52 37 v ((l.take 0).filter (keepG full T)).length (avsC ((l.take 0).filter (keepG full T))) es := by
    rw [hv, hes]
    exact OwnS.nil _ _
  clear hv hes
  refine c_loop (fun m a w => ∃ (i : Nat) (v : Value) (es : List (Nat × Obj)), m = l.length - i ∧ i ≤ l.length ∧ OwnS 52 37 v ((l.take i).filter (keepG full T)).length (avsC ((l.take i).filter (keepG full T))) es ∧ Frm a 130 [] [(58, .int .i64 i), (57, .int .i64 l.length), (56, .slice ql l.length cl), (14, v), (11, .bool full), (12, .map (some m1)), (13, .map (some m2)), (3, .pointer (some ⟨b3, 0, none⟩)), (6, .pointer (some ⟨b6, 0, none⟩)), (10, .pointer (some ⟨b10, 0, none⟩))] ∧ Mem [] W w ((b10, .cells (plC (.slice p l.length c) fl2).toArray 24 (0, 0)) :: (b6, .cells #[.slice none 0 0, .int .i64 0] 24 (0, 0)) :: (b3, .cells #[.slice qt T.length ct, .int .i64 fl] 24 (0, 0)) :: (m1, o1) :: (m2, o2) :: (eu ++ es))) l.length ⟨0, v, es, rfl, by omega, hOs, F.only [58, 57, 56, 14, 11, 12, 13, 3, 6, 10] rfl, M⟩ ?_
  clear F M a w hOs v es
  rintro m a w ⟨i, v, es, hm', hi, hOs, F, M⟩
  by_cases hlt : i < l.length
  · obtain ⟨b, o, cs, t, fz, rfl, hb, hs⟩ := hml (by omega)
    have hfl := filter_take_succ (keepG full T) hlt
    have hol : ((l.take i).filter (keepG full T)).length ≤ 520 := by
      have h2 := List.length_filter_le (keepG full T) (l.take i)
      rw [List.length_take] at h2
      omega
    generalize (l.take i).filter (keepG full T) = out at *
    obtain ⟨x, hx0⟩ : ∃ x, x = l[i] := ⟨_, rfl⟩
    have hxi : IsAv x := by rw [hx0]; exact il _ (List.getElem_mem hlt)
    have f1 : seg cs (o + (i : Int).toNat * 37) 37 = some (avC x) := by rw [hx0]; exact seg_el (avs_len il) hs hlt (by omega)
    rw [← hx0] at hfl
    have f3 : (avC x).length = 37 := av_len hxi
    have f4 := av_to hxi
    have f5 := av_own hxi
    have f6 := av_own_met hxi
    with_reducible refine c_seq ?_
    with_reducible refine c_region ?_
    refine stepD rfl F rfl (o_lssT (F.ev rfl) (F.ev rfl) (by omega) ?_); clear F; clear a; intro a F
    with_reducible refine l_nil ?_
    with_reducible refine q_then ?_
    with_reducible refine c_seq ?_
    refine c_true F rfl rfl ?_
    with_reducible refine c_skip ?_
    with_reducible refine q_then ?_
    with_reducible refine c_seq ?_
    with_reducible refine c_block ?_
    with_reducible refine c_seq ?_
    with_reducible refine c_region ?_
    refine stepD rfl F rfl (o_indexSl (F.ev rfl) (F.ev rfl) (by omega) (by omega) ?_); clear F; clear a; intro a F
    refine stepD rfl F rfl (o_loadWA M (F.ev rfl) (by assumption) (by first | assumption | rfl) ?_); clear F; clear a; intro a F
    (refine stepD rfl F rfl (o_alloc M ?_); clear F; clear M; intro b16 w M a F)
    skip
    (refine stepN rfl F (o_storeA M (F.ev rfl) (F.ev rfl) (f3) (av_one x)  (by repeat (first | exact .here | apply Has.there))  (put_all (by rw [f3]; rfl)) (by repeat (first | exact .here | apply Upd.there)) ?_); clear F; clear M; intro w M a F)
    with_reducible refine l_nil ?_
    with_reducible refine q_then ?_
    with_reducible refine c_seq ?_
    with_reducible refine c_region ?_
    refine stepD rfl F rfl (o_move (F.ev rfl) ?_); clear F; clear a; intro a F
    refine stepD rfl F rfl (o_fieldAddr (F.ev rfl) ?_); clear F; clear a; intro a F
    refine stepD rfl F rfl (o_loadA M (F.ev rfl) (by repeat (first | exact .here | apply Has.there)) (by first | assumption | rfl) ?_); clear F; clear a; intro a F
    (refine stepD rfl F rfl (o_lookup2 keyD_law zero_di (MapIn.mk (M.heap (by repeat (first | exact .here | apply Has.there))) hA1) (mapV_all (mapD_is jT)) (a := x.to) hxi.1 (F.ev rfl) (F.ev rfl) ?_); clear F; clear a; intro a F)
    rw [lk_own aT, lk_is aT] at F
    refine stepD rfl F rfl (o_move (F.ev rfl) ?_); clear F; clear a; intro a F
    refine stepD rfl F rfl (o_extract (F.ev rfl) rfl ?_); clear F; clear a; intro a F
    refine stepD rfl F rfl (o_extract (F.ev rfl) rfl ?_); clear F; clear a; intro a F
    (refine stepD rfl F rfl (o_alloc M ?_); clear F; clear M; intro b17 w M a F)
    skip
    (refine stepN rfl F (o_storeA M (F.ev rfl) (F.ev rfl) (di_len (o := (getO T x.to).getD di0) trivial) (di_one _)  (by repeat (first | exact .here | apply Has.there))  (put_all (by rw [di_len (o := (getO T x.to).getD di0) trivial]; rfl)) (by repeat (first | exact .here | apply Upd.there)) ?_); clear F; clear M; intro w M a F)
    refine stepD rfl F rfl (o_assign (F.ev rfl) ?_); clear F; clear a; intro a F
    with_reducible refine l_nil ?_
    refine q_then ?_
    repeat (with_reducible refine c_seq ?_)
    refine c_cut (fun a w => Frm a 130 [] ((88, .bool (keepG full T x)) :: (16, .pointer (some ⟨b16, 0, none⟩)) :: [(58, .int .i64 i), (57, .int .i64 l.length), (56, .slice (some ⟨b, o, none⟩) l.length cl), (14, v), (11, .bool full), (12, .map (some m1)), (13, .map (some m2)), (3, .pointer (some ⟨b3, 0, none⟩)), (6, .pointer (some ⟨b6, 0, none⟩)), (10, .pointer (some ⟨b10, 0, none⟩))]) ∧ Mem [] W w ((b17, .cells (diC ((getO T x.to).getD di0)).toArray 50 (0, 0)) :: (b16, .cells (avC x).toArray 52 (0, 0)) :: (b10, .cells (plC (.slice p l.length c) fl2).toArray 24 (0, 0)) :: (b6, .cells #[.slice none 0 0, .int .i64 0] 24 (0, 0)) :: (b3, .cells #[.slice qt T.length ct, .int .i64 fl] 24 (0, 0)) :: (m1, o1) :: (m2, o2) :: (eu ++ es))) ?_ ?_
    · unfold keepG
      cases full
      · cases hg2 : getO T x.to with
        | none =>
          rw [hg2] at F M
          dsimp only [Option.isSome, Option.getD] at F M
          with_reducible refine c_region ?_
          refine stepD rfl F rfl (o_move (F.ev rfl) ?_); clear F; clear a; intro a F
          refine stepD rfl F rfl (o_move (F.ev rfl) ?_); clear F; clear a; intro a F
          refine stepG rfl F rfl rfl rfl (o_move (F.ev rfl) ?_); clear F; clear a; intro a F
          refine stepG rfl F rfl rfl rfl (o_move (F.ev rfl) ?_); clear F; clear a; intro a F
          refine stepOff F rfl rfl rfl rfl ?_; clear F; clear a; intro a F
          refine stepOff F rfl rfl rfl rfl ?_; clear F; clear a; intro a F
          refine stepOff F rfl rfl rfl rfl ?_; clear F; clear a; intro a F
          refine stepOff F rfl rfl rfl rfl ?_; clear F; clear a; intro a F
          refine stepG rfl F rfl rfl rfl (o_pickF (F.ev rfl) (F.ev rfl) ?_); clear F; clear a; intro a F
          refine stepD rfl F rfl (o_pickF (F.ev rfl) (F.ev rfl) ?_); clear F; clear a; intro a F
          refine stepD rfl F rfl (o_move (F.ev rfl) ?_); clear F; clear a; intro a F
          refine stepG rfl F rfl rfl rfl (o_move (F.ev rfl) ?_); clear F; clear a; intro a F
          refine stepG rfl F rfl rfl rfl (o_not (F.ev rfl) ?_); clear F; clear a; intro a F
          refine stepG rfl F rfl rfl rfl (o_move (F.ev rfl) ?_); clear F; clear a; intro a F
          refine stepG rfl F rfl rfl rfl (o_fieldAddr (F.ev rfl) ?_); clear F; clear a; intro a F
          refine stepG rfl F rfl rfl rfl (o_fieldAddr (F.ev rfl) ?_); clear F; clear a; intro a F
          refine stepG rfl F rfl rfl rfl (o_load1 M (F.ev rfl) (by repeat (first | exact .here | apply Has.there)) (by first | assumption | rfl) ?_); clear F; clear a; intro a F
          refine stepG rfl F rfl rfl rfl (o_neq (F.ev rfl) (F.ev rfl) ?_); clear F; clear a; intro a F
          refine stepG rfl F rfl rfl rfl (o_pickT (F.ev rfl) (F.ev rfl) ?_); clear F; clear a; intro a F
          refine stepD rfl F rfl (o_pickF (F.ev rfl) (F.ev rfl) ?_); clear F; clear a; intro a F
          with_reducible refine l_nil ?_
          refine ⟨?_, M⟩
          rw [show (false || !decide (x.own.met = inf)) = (x.own.met != 65535) by unfold inf; by_cases h : x.own.met = 65535 <;> simp [h]]
          exact F.only [88, 16, 58, 57, 56, 14, 11, 12, 13, 3, 6, 10] rfl
        | some o2 =>
          rw [hg2] at F M
          dsimp only [Option.isSome, Option.getD] at F M
          have f7 := di_eq (a := o2) (b := x.own) trivial trivial
          have f8 := di_all (o := o2) trivial
          by_cases he : o2 = x.own
          · rw [decide_eq_true he] at f7
            with_reducible refine c_region ?_
            refine stepD rfl F rfl (o_move (F.ev rfl) ?_); clear F; clear a; intro a F
            refine stepD rfl F rfl (o_move (F.ev rfl) ?_); clear F; clear a; intro a F
            refine stepG rfl F rfl rfl rfl (o_move (F.ev rfl) ?_); clear F; clear a; intro a F
            refine stepG rfl F rfl rfl rfl (o_move (F.ev rfl) ?_); clear F; clear a; intro a F
            refine stepG rfl F rfl rfl rfl (o_loadA M (F.ev rfl) (by repeat (first | exact .here | apply Has.there)) (by first | assumption | rfl) ?_); clear F; clear a; intro a F
            refine stepG rfl F rfl rfl rfl (o_fieldAddr (F.ev rfl) ?_); clear F; clear a; intro a F
            refine stepG rfl F rfl rfl rfl (o_loadA M (F.ev rfl) (by repeat (first | exact .here | apply Has.there)) (by first | assumption | rfl) ?_); clear F; clear a; intro a F
            refine stepG rfl F rfl rfl rfl (o_neqAF (F.ev rfl) (F.ev rfl) (by first | assumption | rfl) (by first | assumption | rfl) (by assumption) ?_); clear F; clear a; intro a F
            refine stepG rfl F rfl rfl rfl (o_pickT (F.ev rfl) (F.ev rfl) ?_); clear F; clear a; intro a F
            refine stepD rfl F rfl (o_pickF (F.ev rfl) (F.ev rfl) ?_); clear F; clear a; intro a F
            refine stepD rfl F rfl (o_move (F.ev rfl) ?_); clear F; clear a; intro a F
            refine stepG rfl F rfl rfl rfl (o_move (F.ev rfl) ?_); clear F; clear a; intro a F
            refine stepG rfl F rfl rfl rfl (o_not (F.ev rfl) ?_); clear F; clear a; intro a F
            refine stepG rfl F rfl rfl rfl (o_move (F.ev rfl) ?_); clear F; clear a; intro a F
            refine stepOff F rfl rfl rfl rfl ?_; clear F; clear a; intro a F
            refine stepOff F rfl rfl rfl rfl ?_; clear F; clear a; intro a F
            refine stepOff F rfl rfl rfl rfl ?_; clear F; clear a; intro a F
            refine stepOff F rfl rfl rfl rfl ?_; clear F; clear a; intro a F
            refine stepG rfl F rfl rfl rfl (o_pickF (F.ev rfl) (F.ev rfl) ?_); clear F; clear a; intro a F
            refine stepD rfl F rfl (o_pickF (F.ev rfl) (F.ev rfl) ?_); clear F; clear a; intro a F
            with_reducible refine l_nil ?_
            refine ⟨?_, M⟩
            show Frm a 130 [] ((88, .bool (false || !decide (o2 = x.own))) :: _)
            rw [decide_eq_true he]
            exact F.only [88, 16, 58, 57, 56, 14, 11, 12, 13, 3, 6, 10] rfl
          · rw [decide_eq_false he] at f7
            with_reducible refine c_region ?_
            refine stepD rfl F rfl (o_move (F.ev rfl) ?_); clear F; clear a; intro a F
            refine stepD rfl F rfl (o_move (F.ev rfl) ?_); clear F; clear a; intro a F
            refine stepG rfl F rfl rfl rfl (o_move (F.ev rfl) ?_); clear F; clear a; intro a F
            refine stepG rfl F rfl rfl rfl (o_move (F.ev rfl) ?_); clear F; clear a; intro a F
            refine stepG rfl F rfl rfl rfl (o_loadA M (F.ev rfl) (by repeat (first | exact .here | apply Has.there)) (by first | assumption | rfl) ?_); clear F; clear a; intro a F
            refine stepG rfl F rfl rfl rfl (o_fieldAddr (F.ev rfl) ?_); clear F; clear a; intro a F
            refine stepG rfl F rfl rfl rfl (o_loadA M (F.ev rfl) (by repeat (first | exact .here | apply Has.there)) (by first | assumption | rfl) ?_); clear F; clear a; intro a F
            refine stepG rfl F rfl rfl rfl (o_neqAT (F.ev rfl) (F.ev rfl) (by first | assumption | rfl) (by first | assumption | rfl) (by assumption) ?_); clear F; clear a; intro a F
            refine stepG rfl F rfl rfl rfl (o_pickT (F.ev rfl) (F.ev rfl) ?_); clear F; clear a; intro a F
            refine stepD rfl F rfl (o_pickF (F.ev rfl) (F.ev rfl) ?_); clear F; clear a; intro a F
            refine stepD rfl F rfl (o_move (F.ev rfl) ?_); clear F; clear a; intro a F
            refine stepOff F rfl rfl rfl rfl ?_; clear F; clear a; intro a F
            refine stepOff F rfl rfl rfl rfl ?_; clear F; clear a; intro a F
            refine stepOff F rfl rfl rfl rfl ?_; clear F; clear a; intro a F
            refine stepOff F rfl rfl rfl rfl ?_; clear F; clear a; intro a F
            refine stepOff F rfl rfl rfl rfl ?_; clear F; clear a; intro a F
            refine stepOff F rfl rfl rfl rfl ?_; clear F; clear a; intro a F
            refine stepOff F rfl rfl rfl rfl ?_; clear F; clear a; intro a F
            refine stepOff F rfl rfl rfl rfl ?_; clear F; clear a; intro a F
            refine stepD rfl F rfl (o_pickT (F.ev rfl) (F.ev rfl) ?_); clear F; clear a; intro a F
            with_reducible refine l_nil ?_
            refine ⟨?_, M⟩
            show Frm a 130 [] ((88, .bool (false || !decide (o2 = x.own))) :: _)
            rw [decide_eq_false he]
            exact F.only [88, 16, 58, 57, 56, 14, 11, 12, 13, 3, 6, 10] rfl
      · with_reducible refine c_region ?_
        refine stepD rfl F rfl (o_move (F.ev rfl) ?_); clear F; clear a; intro a F
        refine stepD rfl F rfl (o_move (F.ev rfl) ?_); clear F; clear a; intro a F
        refine stepOff F rfl rfl rfl rfl ?_; clear F; clear a; intro a F
        refine stepOff F rfl rfl rfl rfl ?_; clear F; clear a; intro a F
        refine stepOff F rfl rfl rfl rfl ?_; clear F; clear a; intro a F
        refine stepOff F rfl rfl rfl rfl ?_; clear F; clear a; intro a F
        refine stepOff F rfl rfl rfl rfl ?_; clear F; clear a; intro a F
        refine stepOff F rfl rfl rfl rfl ?_; clear F; clear a; intro a F
        refine stepOff F rfl rfl rfl rfl ?_; clear F; clear a; intro a F
        refine stepD rfl F rfl (o_pickT (F.ev rfl) (F.ev rfl) ?_); clear F; clear a; intro a F
        refine stepD rfl F rfl (o_move (F.ev rfl) ?_); clear F; clear a; intro a F
        refine stepOff F rfl rfl rfl rfl ?_; clear F; clear a; intro a F
        refine stepOff F rfl rfl rfl rfl ?_; clear F; clear a; intro a F
        refine stepOff F rfl rfl rfl rfl ?_; clear F; clear a; intro a F
        refine stepOff F rfl rfl rfl rfl ?_; clear F; clear a; intro a F
        refine stepOff F rfl rfl rfl rfl ?_; clear F; clear a; intro a F
        refine stepOff F rfl rfl rfl rfl ?_; clear F; clear a; intro a F
        refine stepOff F rfl rfl rfl rfl ?_; clear F; clear a; intro a F
        refine stepOff F rfl rfl rfl rfl ?_; clear F; clear a; intro a F
        refine stepD rfl F rfl (o_pickT (F.ev rfl) (F.ev rfl) ?_); clear F; clear a; intro a F
        with_reducible refine l_nil ?_
        exact ⟨F.only [88, 16, 58, 57, 56, 14, 11, 12, 13, 3, 6, 10] rfl, M⟩
    clear F M a w
    rintro a w ⟨F, M⟩
    cases hkp : keepG full T x
    · rw [hkp] at F hfl
      rw [if_neg (by simp), List.append_nil] at hfl
      with_reducible refine q_then ?_
      refine c_false F rfl rfl ?_
      with_reducible refine c_skip ?_
      with_reducible refine q_inB ?_
      with_reducible refine q_then ?_
      with_reducible refine c_region ?_
      refine stepD rfl F rfl (o_add (F.ev rfl) (F.ev rfl) (w_i64 (by omega) (by omega)) ?_); clear F; clear a; intro a F
      refine stepD rfl F rfl (o_move (F.ev rfl) ?_); clear F; clear a; intro a F
      with_reducible refine l_nil ?_
      with_reducible refine q_then ?_
      exact ⟨_, by omega, i + 1, v, es, rfl, by omega, by rw [hfl]; exact hOs, F.only [58, 57, 56, 14, 11, 12, 13, 3, 6, 10] rfl, M.sub (.cons _ (.cons _ (.refl _)))⟩
    · rw [hkp] at F hfl
      rw [if_pos rfl] at hfl
      have f0 := av_all hxi
      with_reducible refine q_then ?_
      refine c_true F rfl rfl ?_
      with_reducible refine c_region ?_
      refine stepD rfl F rfl (o_move (F.ev rfl) ?_); clear F; clear a; intro a F
      refine stepD rfl F rfl (o_loadA M (F.ev rfl) (by repeat (first | exact .here | apply Has.there)) (by first | assumption | rfl) ?_); clear F; clear a; intro a F
      (refine stepD rfl F rfl (o_buildSlice F M rfl rfl rfl (av_build1 hxi) ?_); clear F; clear M; intro bs w M a F)
      (refine stepD rfl F rfl (o_append hOs M (.cons (.cons (.cons (.cons (.cons (.cons (.cons (.cons (.app .here))))))))) (F.ev rfl) (F.ev rfl) (SrcOf.cells' (M.heap .here) (sg_all (by omega)) (av_one _)) (by omega) (by omega) ?_); clear F; clear M; intro v2 es2 w hO2 M a F)
      refine stepD rfl F rfl (o_assign (F.ev rfl) ?_); clear F; clear a; intro a F
      with_reducible refine l_nil ?_
      with_reducible refine q_inB ?_
      with_reducible refine q_then ?_
      with_reducible refine c_region ?_
      refine stepD rfl F rfl (o_add (F.ev rfl) (F.ev rfl) (w_i64 (by omega) (by omega)) ?_); clear F; clear a; intro a F
      refine stepD rfl F rfl (o_move (F.ev rfl) ?_); clear F; clear a; intro a F
      with_reducible refine l_nil ?_
      with_reducible refine q_then ?_
      exact ⟨_, by omega, i + 1, v2, es2, rfl, by omega, by rw [hfl]; show OwnS _ 37 _ (out ++ [x]).length (encL avC (out ++ [x])) _; rw [show (out ++ [x]).length = out.length + 1 by simp, encL_app, encL_one]; exact hO2, F.only [58, 57, 56, 14, 11, 12, 13, 3, 6, 10] rfl, M.sub (.cons _ (.cons _ (.cons _ (.refl _))))⟩
  obtain rfl : i = l.length := by omega
  rw [List.take_length] at hOs
  with_reducible refine c_seq ?_
  with_reducible refine c_region ?_
  refine stepD rfl F rfl (o_lssF (F.ev rfl) (F.ev rfl) (by omega) ?_); clear F; clear a; intro a F
  with_reducible refine l_nil ?_
  with_reducible refine q_then ?_
  with_reducible refine c_seq ?_
  refine c_false F rfl rfl ?_
  with_reducible refine c_exit ?_
  with_reducible refine q_thenX ?_
  with_reducible refine q_thenX ?_
  with_reducible refine q_inBX ?_
  with_reducible refine q_then ?_
  with_reducible refine c_seq ?_
  with_reducible refine c_seq ?_
  with_reducible refine c_region ?_
  refine stepD rfl F rfl (o_fieldAddr (F.ev rfl) ?_); clear F; clear a; intro a F
  refine stepD rfl F rfl (o_load1 M (F.ev rfl) (by repeat (first | exact .here | apply Has.there)) (by first | assumption | rfl) ?_); clear F; clear a; intro a F
  refine stepD rfl F rfl (o_lenSl (F.ev rfl) ?_); clear F; clear a; intro a F
  refine stepD rfl F rfl (o_move (F.ev rfl) ?_); clear F; clear a; intro a F
  with_reducible refine l_nil ?_
  with_reducible refine q_then ?_
  with_reducible refine c_block ?_
  have hOs0 : OwnS 52 37 v (l.filter (keepG full T) ++ ((T.take 0).filter (dropG l)).map retr).length (avsC (l.filter (keepG full T) ++ ((T.take 0).filter (dropG l)).map retr)) es := by
    rw [List.take_zero, List.filter_nil, List.map_nil, List.append_nil]
    exact hOs
  refine c_loop (fun m a w => ∃ (i : Nat) (v : Value) (es : List (Nat × Obj)), m = T.length - i ∧ i ≤ T.length ∧ OwnS 52 37 v (l.filter (keepG full T) ++ ((T.take i).filter (dropG l)).map retr).length (avsC (l.filter (keepG full T) ++ ((T.take i).filter (dropG l)).map retr)) es ∧ Frm a 130 [] [(97, .int .i64 i), (96, .int .i64 T.length), (95, .slice qt T.length ct), (14, v), (11, .bool full), (12, .map (some m1)), (13, .map (some m2)), (3, .pointer (some ⟨b3, 0, none⟩)), (6, .pointer (some ⟨b6, 0, none⟩)), (10, .pointer (some ⟨b10, 0, none⟩))] ∧ Mem [] W w ((b10, .cells (plC (.slice p l.length c) fl2).toArray 24 (0, 0)) :: (b6, .cells #[.slice none 0 0, .int .i64 0] 24 (0, 0)) :: (b3, .cells #[.slice qt T.length ct, .int .i64 fl] 24 (0, 0)) :: (m1, o1) :: (m2, o2) :: (eu ++ es))) T.length ⟨0, v, es, rfl, by omega, hOs0, F.only [97, 96, 95, 14, 11, 12, 13, 3, 6, 10] rfl, M⟩ ?_
  clear F M a w hOs hOs0 v es
  rintro m a w ⟨i, v, es, hm', hi, hOs, F, M⟩
  by_cases hlt : i < T.length
  · obtain ⟨b, o, cs, t, fz, rfl, hb, hs⟩ := hmt (by omega)
    have hfl := filter_take_succ (dropG l) hlt
    have hol : (l.filter (keepG full T) ++ ((T.take i).filter (dropG l)).map retr).length ≤ 1040 := by
      have h2 := List.length_filter_le (dropG l) (T.take i)
      have h3 := List.length_filter_le (keepG full T) l
      rw [List.length_take] at h2
      rw [List.length_append, List.length_map]
      omega
    obtain ⟨x, hx0⟩ : ∃ x, x = T[i] := ⟨_, rfl⟩
    have hxi : IsAv x := by rw [hx0]; exact iT _ (List.getElem_mem hlt)
    have f1 : seg cs (o + (i : Int).toNat * 37) 37 = some (avC x) := by rw [hx0]; exact seg_el (avs_len iT) hs hlt (by omega)
    rw [← hx0] at hfl
    have hrt : ((T.take (i + 1)).filter (dropG l)).map retr = ((T.take i).filter (dropG l)).map retr ++ if dropG l x = true then [retr x] else [] := by
      rw [hfl, List.map_append]
      cases dropG l x <;> rfl
    clear hfl
    generalize ((T.take i).filter (dropG l)).map retr = out1 at *
    obtain ⟨out, hout⟩ : ∃ out, out = l.filter (keepG full T) ++ out1 := ⟨_, rfl⟩
    rw [← hout] at hOs hol
    have f3 : (avC x).length = 37 := av_len hxi
    have f4 := av_to hxi
    have f5 := av_own hxi
    have f6 := av_own_met hxi
    with_reducible refine c_seq ?_
    with_reducible refine c_region ?_
    refine stepD rfl F rfl (o_lssT (F.ev rfl) (F.ev rfl) (by omega) ?_); clear F; clear a; intro a F
    with_reducible refine l_nil ?_
    with_reducible refine q_then ?_
    with_reducible refine c_seq ?_
    refine c_true F rfl rfl ?_
    with_reducible refine c_skip ?_
    with_reducible refine q_then ?_
    with_reducible refine c_seq ?_
    with_reducible refine c_block ?_
    with_reducible refine c_seq ?_
    with_reducible refine c_region ?_
    refine stepD rfl F rfl (o_indexSl (F.ev rfl) (F.ev rfl) (by omega) (by omega) ?_); clear F; clear a; intro a F
    refine stepD rfl F rfl (o_loadWA M (F.ev rfl) (by assumption) (by first | assumption | rfl) ?_); clear F; clear a; intro a F
    (refine stepD rfl F rfl (o_alloc M ?_); clear F; clear M; intro b20 w M a F)
    skip
    (refine stepN rfl F (o_storeA M (F.ev rfl) (F.ev rfl) (f3) (av_one x)  (by repeat (first | exact .here | apply Has.there))  (put_all (by rw [f3]; rfl)) (by repeat (first | exact .here | apply Upd.there)) ?_); clear F; clear M; intro w M a F)
    with_reducible refine l_nil ?_
    with_reducible refine q_then ?_
    with_reducible refine c_seq ?_
    with_reducible refine c_region ?_
    refine stepD rfl F rfl (o_move (F.ev rfl) ?_); clear F; clear a; intro a F
    refine stepD rfl F rfl (o_fieldAddr (F.ev rfl) ?_); clear F; clear a; intro a F
    refine stepD rfl F rfl (o_loadA M (F.ev rfl) (by repeat (first | exact .here | apply Has.there)) (by first | assumption | rfl) ?_); clear F; clear a; intro a F
    (refine stepD rfl F rfl (o_lookup2 keyD_law zero_di (MapIn.mk (M.heap (by repeat (first | exact .here | apply Has.there))) hA2) (mapV_all (mapD_is jl)) (a := x.to) hxi.1 (F.ev rfl) (F.ev rfl) ?_); clear F; clear a; intro a F)
    rw [lk_own al, lk_is al] at F
    refine stepD rfl F rfl (o_move (F.ev rfl) ?_); clear F; clear a; intro a F
    refine stepD rfl F rfl (o_extract (F.ev rfl) rfl ?_); clear F; clear a; intro a F
    refine stepD rfl F rfl (o_extract (F.ev rfl) rfl ?_); clear F; clear a; intro a F
    (refine stepD rfl F rfl (o_alloc M ?_); clear F; clear M; intro b21 w M a F)
    skip
    (refine stepN rfl F (o_storeA M (F.ev rfl) (F.ev rfl) (di_len (o := (getO l x.to).getD di0) trivial) (di_one _)  (by repeat (first | exact .here | apply Has.there))  (put_all (by rw [di_len (o := (getO l x.to).getD di0) trivial]; rfl)) (by repeat (first | exact .here | apply Upd.there)) ?_); clear F; clear M; intro w M a F)
    refine stepD rfl F rfl (o_assign (F.ev rfl) ?_); clear F; clear a; intro a F
    with_reducible refine l_nil ?_
    refine q_then ?_
    repeat (with_reducible refine c_seq ?_)
    refine c_cut (fun a w => Frm a 130 [] ((115, .bool (dropG l x)) :: (20, .pointer (some ⟨b20, 0, none⟩)) :: [(97, .int .i64 i), (96, .int .i64 T.length), (95, .slice (some ⟨b, o, none⟩) T.length ct), (14, v), (11, .bool full), (12, .map (some m1)), (13, .map (some m2)), (3, .pointer (some ⟨b3, 0, none⟩)), (6, .pointer (some ⟨b6, 0, none⟩)), (10, .pointer (some ⟨b10, 0, none⟩))]) ∧ Mem [] W w ((b21, .cells (diC ((getO l x.to).getD di0)).toArray 50 (0, 0)) :: (b20, .cells (avC x).toArray 52 (0, 0)) :: (b10, .cells (plC (.slice p l.length c) fl2).toArray 24 (0, 0)) :: (b6, .cells #[.slice none 0 0, .int .i64 0] 24 (0, 0)) :: (b3, .cells #[.slice (some ⟨b, o, none⟩) T.length ct, .int .i64 fl] 24 (0, 0)) :: (m1, o1) :: (m2, o2) :: (eu ++ es))) ?_ ?_
    · unfold dropG
      cases hg2 : getO l x.to with
      | none =>
        rw [hg2] at F M
        dsimp only [Option.isSome, Option.getD] at F M
        with_reducible refine c_region ?_
        refine stepD rfl F rfl (o_move (F.ev rfl) ?_); clear F; clear a; intro a F
        refine stepD rfl F rfl (o_not (F.ev rfl) ?_); clear F; clear a; intro a F
        refine stepD rfl F rfl (o_move (F.ev rfl) ?_); clear F; clear a; intro a F
        refine stepG rfl F rfl rfl rfl (o_fieldAddr (F.ev rfl) ?_); clear F; clear a; intro a F
        refine stepG rfl F rfl rfl rfl (o_fieldAddr (F.ev rfl) ?_); clear F; clear a; intro a F
        refine stepG rfl F rfl rfl rfl (o_load1 M (F.ev rfl) (by repeat (first | exact .here | apply Has.there)) (by first | assumption | rfl) ?_); clear F; clear a; intro a F
        refine stepG rfl F rfl rfl rfl (o_neq (F.ev rfl) (F.ev rfl) ?_); clear F; clear a; intro a F
        refine stepD rfl F rfl (o_pickT (F.ev rfl) (F.ev rfl) ?_); clear F; clear a; intro a F
        with_reducible refine l_nil ?_
        refine ⟨?_, M⟩
        rw [show ((none : Option DisV).isNone && !decide (x.own.met = inf)) = (x.own.met != 65535) by unfold inf; by_cases h : x.own.met = 65535 <;> simp [h]]
        exact F.only [115, 20, 97, 96, 95, 14, 11, 12, 13, 3, 6, 10] rfl
      | some o2 =>
        rw [hg2] at F M
        dsimp only [Option.isSome, Option.getD] at F M
        with_reducible refine c_region ?_
        refine stepD rfl F rfl (o_move (F.ev rfl) ?_); clear F; clear a; intro a F
        refine stepD rfl F rfl (o_not (F.ev rfl) ?_); clear F; clear a; intro a F
        refine stepD rfl F rfl (o_move (F.ev rfl) ?_); clear F; clear a; intro a F
        refine stepOff F rfl rfl rfl rfl ?_; clear F; clear a; intro a F
        refine stepOff F rfl rfl rfl rfl ?_; clear F; clear a; intro a F
        refine stepOff F rfl rfl rfl rfl ?_; clear F; clear a; intro a F
        refine stepOff F rfl rfl rfl rfl ?_; clear F; clear a; intro a F
        refine stepD rfl F rfl (o_pickF (F.ev rfl) (F.ev rfl) ?_); clear F; clear a; intro a F
        with_reducible refine l_nil ?_
        exact ⟨F.only [115, 20, 97, 96, 95, 14, 11, 12, 13, 3, 6, 10] rfl, M⟩
    clear F M a w
    rintro a w ⟨F, M⟩
    cases hkp : dropG l x
    · rw [hkp] at F hrt
      rw [if_neg (by simp), List.append_nil] at hrt
      with_reducible refine q_then ?_
      refine c_false F rfl rfl ?_
      with_reducible refine c_skip ?_
      with_reducible refine q_inB ?_
      with_reducible refine q_then ?_
      with_reducible refine c_region ?_
      refine stepD rfl F rfl (o_add (F.ev rfl) (F.ev rfl) (w_i64 (by omega) (by omega)) ?_); clear F; clear a; intro a F
      refine stepD rfl F rfl (o_move (F.ev rfl) ?_); clear F; clear a; intro a F
      with_reducible refine l_nil ?_
      with_reducible refine q_then ?_
      exact ⟨_, by omega, i + 1, v, es, rfl, by omega, by rw [hrt, ← hout]; exact hOs, F.only [97, 96, 95, 14, 11, 12, 13, 3, 6, 10] rfl, M.sub (.cons _ (.cons _ (.refl _)))⟩
    · rw [hkp] at F hrt
      rw [if_pos rfl] at hrt
      have hri : IsAv (retr x) := hxi
      have e8 : (avC (retr x)).length = 37 := av_len hri
      have f0 := av_all hri
      with_reducible refine q_then ?_
      refine c_true F rfl rfl ?_
      with_reducible refine c_seq ?_
      with_reducible refine c_region ?_
      refine stepD rfl F rfl (o_fieldAddr (F.ev rfl) ?_); clear F; clear a; intro a F
      refine stepD rfl F rfl (o_fieldAddr (F.ev rfl) ?_); clear F; clear a; intro a F
      (refine stepN rfl F (o_store1 M (F.ev rfl) (F.ev rfl) rfl (by repeat (first | exact .here | apply Has.there)) (av_put_own_met hxi 65535) (by repeat (first | exact .here | apply Upd.there)) ?_); clear F; clear M; intro w M a F)
      replace M : Mem [] W w ((b21, .cells (diC ((getO l x.to).getD di0)).toArray 50 (0, 0)) :: (b20, .cells (avC (retr x)).toArray 52 (0, 0)) :: (b10, .cells (plC (.slice p l.length c) fl2).toArray 24 (0, 0)) :: (b6, .cells #[.slice none 0 0, .int .i64 0] 24 (0, 0)) :: (b3, .cells #[.slice (some ⟨b, o, none⟩) T.length ct, .int .i64 fl] 24 (0, 0)) :: (m1, o1) :: (m2, o2) :: (eu ++ es)) := M
      with_reducible refine l_nil ?_
      with_reducible refine q_then ?_
      with_reducible refine c_region ?_
      refine stepD rfl F rfl (o_move (F.ev rfl) ?_); clear F; clear a; intro a F
      refine stepD rfl F rfl (o_loadA M (F.ev rfl) (by repeat (first | exact .here | apply Has.there)) (by first | assumption | rfl) ?_); clear F; clear a; intro a F
      (refine stepD rfl F rfl (o_buildSlice F M rfl rfl rfl (av_build1 hri) ?_); clear F; clear M; intro bs w M a F)
      (refine stepD rfl F rfl (o_append hOs M (.cons (.cons (.cons (.cons (.cons (.cons (.cons (.cons (.app .here))))))))) (F.ev rfl) (F.ev rfl) (SrcOf.cells' (M.heap .here) (sg_all (by omega)) (av_one _)) (by omega) (by omega) ?_); clear F; clear M; intro v2 es2 w hO2 M a F)
      refine stepD rfl F rfl (o_assign (F.ev rfl) ?_); clear F; clear a; intro a F
      with_reducible refine l_nil ?_
      with_reducible refine q_inB ?_
      with_reducible refine q_then ?_
      with_reducible refine c_region ?_
      refine stepD rfl F rfl (o_add (F.ev rfl) (F.ev rfl) (w_i64 (by omega) (by omega)) ?_); clear F; clear a; intro a F
      refine stepD rfl F rfl (o_move (F.ev rfl) ?_); clear F; clear a; intro a F
      with_reducible refine l_nil ?_
      with_reducible refine q_then ?_
      exact ⟨_, by omega, i + 1, v2, es2, rfl, by omega, by rw [hrt, ← List.append_assoc, ← hout]; show OwnS _ 37 _ (out ++ [retr x]).length (encL avC (out ++ [retr x])) _; rw [show (out ++ [retr x]).length = out.length + 1 by simp, encL_app, encL_one]; exact hO2, F.only [97, 96, 95, 14, 11, 12, 13, 3, 6, 10] rfl, M.sub (.cons _ (.cons _ (.cons _ (.refl _))))⟩
  obtain rfl : i = T.length := by omega
  rw [List.take_length] at hOs
  change OwnS _ 37 v (sentG full T l).length (avsC (sentG full T l)) es at hOs
  have hsl := sentG_len full T l
  have ims : ∀ x ∈ mrg full l T, IsAv x := fun x hx => by
    rcases (hspec.1 x).1 hx with ⟨h1, _⟩ | ⟨y, h1, _, rfl⟩
    · exact il x h1
    · exact iT y h1
  have hmem : ∀ x, x ∈ mrg full l T ↔ x ∈ sentG full T l := fun x => (hspec.1 x).trans mem_sentG.symm
  have iss : ∀ x ∈ sentG full T l, IsAv x := fun x hx => ims x ((hmem x).2 hx)
  with_reducible refine c_seq ?_
  with_reducible refine c_region ?_
  refine stepD rfl F rfl (o_lssF (F.ev rfl) (F.ev rfl) (by omega) ?_); clear F; clear a; intro a F
  with_reducible refine l_nil ?_
  with_reducible refine q_then ?_
  with_reducible refine c_seq ?_
  refine c_false F rfl rfl ?_
  with_reducible refine c_exit ?_
  with_reducible refine q_thenX ?_
  with_reducible refine q_thenX ?_
  with_reducible refine q_inBX ?_
  with_reducible refine q_then ?_
  with_reducible refine c_seq ?_
  with_reducible refine c_region ?_
  refine stepD rfl F rfl (o_move (F.ev rfl) ?_); clear F; clear a; intro a F
  (refine stepD rfl F rfl (o_call (F.ev rfl) (F.evs rfl) (Cal.mono (sortA_c (sentG full T l) (mrg full l T) iss (sentG_nodup al aT) hspec.2.1 hmem (by omega) M hOs (.cons (.cons (.cons (.cons (.cons (.app .here))))))) ?_)); clear F; clear a; clear M; rintro _ w ⟨es2, hO2, M⟩ a F)
  have hml2 : (sentG full T l).length = (mrg full l T).length := by
    have h1 := hO2.len
    rw [show (avsC (mrg full l T)).length = (mrg full l T).length * 37 from encL_len (avs_len ims)] at h1
    omega
  rw [hml2] at hO2
  with_reducible refine l_nil ?_
  with_reducible refine q_then ?_
  with_reducible refine c_seq ?_
  with_reducible refine c_region ?_
  refine stepD rfl F rfl (o_move (F.ev rfl) ?_); clear F; clear a; intro a F
  (refine stepD rfl F rfl (o_call (F.ev rfl) (F.evs rfl) (Cal.mono (containsA_c (mrg full l T) ims (by omega) v _ (hO2.slAt M (fun q hq => by simp [hq]))) ?_)); clear F; clear a; rintro _ w ⟨rfl, hE⟩ a F; replace M := M.later hE; clear hE)
  refine stepD rfl F rfl (o_assign (F.ev rfl) ?_); clear F; clear a; intro a F
  with_reducible refine l_nil ?_
  with_reducible refine q_then ?_
  with_reducible refine c_seq ?_
  with_reducible refine c_region ?_
  refine stepD rfl F rfl (o_loadA M (F.ev rfl) (by repeat (first | exact .here | apply Has.there)) (by first | assumption | rfl) ?_); clear F; clear a; intro a F
  refine stepD rfl F rfl (o_move (F.ev rfl) ?_); clear F; clear a; intro a F
  refine stepD rfl F rfl (o_move (F.ev rfl) ?_); clear F; clear a; intro a F
  (refine stepN rfl F (o_storeA M (F.ev rfl) (F.ev rfl) (by rfl) (by rfl) (by repeat (first | exact .here | apply Has.there)) (by rfl) (by repeat (first | exact .here | apply Upd.there)) ?_); clear F; clear M; intro w M a F)
  refine stepD rfl F rfl (o_assign (F.ev rfl) ?_); clear F; clear a; intro a F
  refine stepD rfl F rfl (o_assign (F.ev rfl) ?_); clear F; clear a; intro a F
  refine stepD rfl F rfl (o_assign (F.ev rfl) ?_); clear F; clear a; intro a F
  with_reducible refine l_nil ?_
  with_reducible refine q_then ?_
  with_reducible refine c_ret ?_
  exact p_ret F rfl (.cons (.cell (F.ev rfl) (run_loadVar_agg TAgg.h (M.heap (by repeat (first | exact .here | apply Has.there))) rfl)) (.cons (.tmp (F.ev rfl)) (.cons (.tmp (F.ev rfl)) (.cons (.tmp (F.ev rfl)) .nil)))) ⟨_, _, eu, es2, rfl, hO, hO2, M.sub (.cons _ (.cons _ (.cons _ (.cons _ (.cons _ (.refl _))))))⟩
end Go.Proofs.Ytilgoepokaaleaa
/-! YD -/
namespace Go.Proofs.Ytilgoepokaaleaa
set_option linter.unusedVariables false
set_option linter.unusedSimpArgs false
open Go.RowKit
attribute [local irreducible] OpTo wpListIn Code.wpIn MW Cal
/-! Vary -/
def VarI (l s m : List AdvV) : Prop := (m.map AdvV.to).Sublist (s.map AdvV.to) ∧ ∀ y ∈ m, IsAv y ∧ (validM y.own.met = true ∨ ∃ z ∈ l, z.own = y.own)
theorem VarI.add {l s m : List AdvV} {x y : AdvV} (h : VarI l s m) (e : y.to = x.to) (hy : IsAv y ∧ (validM y.own.met = true ∨ ∃ z ∈ l, z.own = y.own)) : VarI l (s ++ [x]) (m ++ [y]) := by
  refine ⟨?_, fun z hz => ?_⟩
  · rw [List.map_append, List.map_append, List.map_singleton, List.map_singleton, e]
    exact h.1.append (List.Sublist.refl _)
  · rcases List.mem_append.1 hz with h1 | h1
    · exact h.2 z h1
    · simp only [List.mem_singleton] at h1
      rw [h1]; exact hy
theorem VarI.skip {l s m : List AdvV} {x : AdvV} (h : VarI l s m) : VarI l (s ++ [x]) m := ⟨by rw [List.map_append]; exact h.1.trans (List.sublist_append_left _ _), h.2⟩
theorem VarI.valid {l m : List AdvV} (h : VarI l l m) (hv : validAs l = true) : validAs m = true := by
  obtain ⟨v1, v2, v3⟩ := validAs_iff.1 hv
  have hlen : m.length ≤ l.length := by simpa using h.1.length_le
  refine validAs_iff.2 ⟨by omega, fun y hy => ⟨?_, ?_⟩, ?_⟩
  · have : y.to ∈ l.map AdvV.to := h.1.subset (List.mem_map_of_mem hy)
    obtain ⟨z, hz, e⟩ := List.mem_map.1 this
    rw [← e]
    exact (v2 z hz).1
  · rcases (h.2 y hy).2 with h1 | ⟨z, hz, e⟩
    · exact h1
    · rw [← e]
      exact (v2 z hz).2
  · have h3 : (l.map AdvV.to).Pairwise fun a b => cmpD a b < 0 := List.pairwise_map.2 v3
    exact List.pairwise_map.1 (h3.sublist h.1)
end Go.Proofs.Ytilgoepokaaleaa
/-! YE -/
namespace Go.Proofs.Ytilgoepokaaleaa
set_option linter.unusedVariables false
set_option linter.unusedSimpArgs false
open Go.RowKit
attribute [local irreducible] OpTo wpListIn Code.wpIn MW Cal
set_option maxHeartbeats 1000000 in
theorem samePlan_c (l : List AdvV) (hx : ∀ x ∈ l, IsAv x) (hlen : l.length ≤ 100000) (u v : Value) (fl : Int) (W : World) (hu : SlAt W 37 u l.length (avsC l)) (hv : SlAt W 37 v l.length (avsC l)) :
    Cal Try.prog 23 [.agg (plC u fl).toArray, .agg (plC v fl).toArray].toArray W fun r w' => r = .bool true ∧ Ext [] W w' := by
  have h1 := hu.one
  have h2 := hv.one
  unfold plC
  refine fn_ofM (n := 17) [] Try.func23 rfl rfl rfl ?_
  intro a w F M hwW
  refine c_seq ?_
  refine c_region ?_
  (refine stepD rfl F rfl (o_box M (F.ev rfl) rfl ?_); clear F; clear M; intro b2 w M a F)
  (refine stepD rfl F rfl (o_box M (F.ev rfl) rfl ?_); clear F; clear M; intro b3 w M a F)
  refine stepD rfl F rfl (o_assign (F.ev rfl) ?_); clear F; clear a; intro a F
  with_reducible refine l_nil ?_
  with_reducible refine q_then ?_
  with_reducible refine c_seq ?_
  with_reducible refine c_region ?_
  refine stepD rfl F rfl (o_fieldAddr (F.ev rfl) ?_); clear F; clear a; intro a F
  refine stepD rfl F rfl (o_load1 M (F.ev rfl) (by repeat (first | exact .here | apply Has.there)) (by first | assumption | rfl) ?_); clear F; clear a; intro a F
  refine stepD rfl F rfl (o_fieldAddr (F.ev rfl) ?_); clear F; clear a; intro a F
  refine stepD rfl F rfl (o_load1 M (F.ev rfl) (by repeat (first | exact .here | apply Has.there)) (by first | assumption | rfl) ?_); clear F; clear a; intro a F
  refine stepD rfl F rfl (o_eqlT (F.ev rfl) (F.ev rfl) (by omega) ?_); clear F; clear a; intro a F
  refine stepD rfl F rfl (o_move (F.ev rfl) ?_); clear F; clear a; intro a F
  refine stepG rfl F rfl rfl rfl (o_fieldAddr (F.ev rfl) ?_); clear F; clear a; intro a F
  refine stepG rfl F rfl rfl rfl (o_load1 M (F.ev rfl) (by repeat (first | exact .here | apply Has.there)) (by first | assumption | rfl) ?_); clear F; clear a; intro a F
  refine stepG rfl F rfl rfl rfl (o_fieldAddr (F.ev rfl) ?_); clear F; clear a; intro a F
  refine stepG rfl F rfl rfl rfl (o_load1 M (F.ev rfl) (by repeat (first | exact .here | apply Has.there)) (by first | assumption | rfl) ?_); clear F; clear a; intro a F
  (refine stepG rfl F rfl rfl rfl (o_call (F.ev rfl) (F.evs rfl) (Cal.mono (equalA_c l hx hlen u v _ (hu.later M.ext) (hv.later M.ext)) ?_)); clear F; clear a; rintro _ w ⟨rfl, hE⟩ a F; replace M := M.later hE; clear hE)
  refine stepD rfl F rfl (o_pickT (F.ev rfl) (F.ev rfl) ?_); clear F; clear a; intro a F
  refine stepD rfl F rfl (o_assign (F.ev rfl) ?_); clear F; clear a; intro a F
  with_reducible refine l_nil ?_
  with_reducible refine q_then ?_
  with_reducible refine c_ret ?_
  refine p_ret F rfl (.cons (.tmp (F.ev rfl)) .nil) ?_
  exact ⟨rfl, M.ext⟩
def toD (n : Int) : DstV := ⟨[n, 0, 0, 0, 0, 0, 0, 0, 0, 0, 0, 0, 0, 0, 0, 0], 64, zr16, 0, 3⟩
theorem toL_c (n : Int) (h0 : 0 ≤ n) (h1 : n < 256) (W : World) : Cal Try.prog 39 [.int .i64 n].toArray W fun r w' => r = .agg (dvC (toD n)).toArray ∧ Ext [] W w' := by
  refine fn_ofM (n := 8) [] Try.func39 rfl rfl rfl ?_
  intro a w F M hwW
  refine c_seq ?_
  refine c_region ?_
  (refine stepD rfl F rfl (o_alloc M ?_); clear F; clear M; intro b2 w M a F)
  with_reducible refine l_nil ?_
  with_reducible refine q_then ?_
  with_reducible refine c_seq ?_
  with_reducible refine c_region ?_
  refine stepD rfl F rfl (o_move (F.ev rfl) ?_); clear F; clear a; intro a F
  refine stepD rfl F rfl (o_conv (F.ev rfl) (w_u8 (by omega) (by omega)) ?_); clear F; clear a; intro a F
  refine stepD rfl F rfl (o_build F rfl rfl ?_); clear F; clear a; intro a F
  refine stepD rfl F rfl (o_build F rfl rfl ?_); clear F; clear a; intro a F
  refine stepD rfl F rfl (o_build F rfl rfl ?_); clear F; clear a; intro a F
  (refine stepN rfl F (o_storeA M (F.ev rfl) (F.ev rfl) (by rfl) (by rfl) (by repeat (first | exact .here | apply Has.there)) (by rfl) (by repeat (first | exact .here | apply Upd.there)) ?_); clear F; clear M; intro w M a F)
  with_reducible refine l_nil ?_
  with_reducible refine q_then ?_
  with_reducible refine c_ret ?_
  exact p_ret F rfl (.cons (.cell (F.ev rfl) (run_loadVar_agg TAgg.h (M.heap (by repeat (first | exact .here | apply Has.there))) rfl)) .nil) ⟨rfl, M.ext⟩
def kA : AdvV := ⟨toD 1, ⟨4, 300⟩⟩
def kR : AdvV := ⟨toD 1, ⟨4, 65535⟩⟩
def kB : AdvV := ⟨toD 2, ⟨0, 0⟩⟩
theorem toD_is {n : Int} (h0 : 0 ≤ n) (h1 : n < 256) : IsDv (toD n) := ⟨⟨rfl, by intro x hx; simp [toD] at hx; omega⟩, zr16_is⟩
theorem kA_is : IsAv kA := ⟨toD_is (by omega) (by omega), trivial⟩
theorem kR_is : IsAv kR := ⟨toD_is (by omega) (by omega), trivial⟩
theorem kB_is : IsAv kB := ⟨toD_is (by omega) (by omega), trivial⟩
theorem kmrg : mrg false [kB] [kA] = [kR, kB] := by
  have e1 : kB.to ≠ kA.to := by decide
  have e2 : ¬ cmpD kB.to kA.to < 0 := by decide +kernel
  rw [mrg_gt e1 e2, mrg_r, show mrg false [] [] = [] by rw [mrg]]
  rfl
theorem kdue : dueV [kA] 9 5 [kB] = ⟨[kB], 9, [kR, kB], true, 0⟩ := by
  have e1 : validAs [kA] = true := by decide +kernel
  have e2 : validAs [kB] = true := by decide +kernel
  unfold dueV
  rw [e1, e2]
  simp only [show isTime 9 = true from rfl, show isTime 5 = true from rfl, Bool.and_self, Bool.not_true, Bool.or_self, Bool.false_eq_true, if_false, show decide ((9 : Int) ≤ 5) = false from rfl, kmrg]
  rfl
def SlV (n : Nat) (cs : List Value) : Pred := fun v w => SlAt w 37 v n cs
theorem SlV.stays (n : Nat) (cs : List Value) : Stays keepAll (SlV n cs) := fun _ _ _ h E => SlAt.later h E
theorem slAt1 {w : World} {b : Nat} {x : AdvV} (hx : IsAv x) {t : TypeId} {fz : Nat × Nat} (h : w.heap[b]? = some (.cells (avC x).toArray t fz)) : SlAt w 37 (.slice (some ⟨b, 0, none⟩) 1 1) 1 (avsC [x]) :=
  ⟨_, _, rfl, Nat.le_refl _, by simp, by rw [show avsC [x] = avC x from encL_one _ _, av_len hx], fun _ => ⟨b, 0, _, _, _, rfl, h, by rw [show avsC [x] = avC x from encL_one _ _]; exact sg_all (av_len hx)⟩⟩
set_option maxHeartbeats 4000000 in
theorem known_c (W : World) : Cal Try.prog 9 [].toArray W fun r w' => r = .bool true ∧ Ext [] W w' := by
  refine fn_ofM (n := 47) [] Try.func9 rfl rfl rfl ?_
  intro a w F M hwW
  with_reducible refine c_seq ?_
  with_reducible refine c_region ?_
  refine stepD rfl F rfl (o_assign (F.ev rfl) ?_); clear F; clear a; intro a F
  with_reducible refine l_nil ?_
  with_reducible refine q_then ?_
  with_reducible refine c_seq ?_
  with_reducible refine c_region ?_
  (refine stepD rfl F rfl (o_call (F.ev rfl) (F.evs rfl) (Cal.mono (toL_c 1 (by omega) (by omega) _) ?_)); clear F; clear a; rintro _ w ⟨rfl, hE⟩ a F; replace M := M.later hE; clear hE)
  refine stepD rfl F rfl (o_build F rfl rfl ?_); clear F; clear a; intro a F
  refine stepD rfl F rfl (o_build F rfl rfl ?_); clear F; clear a; intro a F
  (refine stepD rfl F rfl (o_buildSlice F M rfl rfl rfl rfl ?_); clear F; clear M; intro b9 w M a F)
  refine stepD rfl F rfl (o_build F rfl rfl ?_); clear F; clear a; intro a F
  (refine stepD rfl F rfl (o_call (F.ev rfl) (F.evs rfl) (Cal.mono (toL_c 2 (by omega) (by omega) _) ?_)); clear F; clear a; rintro _ w ⟨rfl, hE⟩ a F; replace M := M.later hE; clear hE)
  refine stepD rfl F rfl (o_build F rfl rfl ?_); clear F; clear a; intro a F
  (refine stepD rfl F rfl (o_buildSlice F M rfl rfl rfl rfl ?_); clear F; clear M; intro b13 w M a F)
  (refine stepD rfl F rfl (o_call (F.ev rfl) (F.evs (vs := [.agg (plC (.slice (some ⟨b9, 0, none⟩) 1 1) 9).toArray, .int .i64 5, .slice (some ⟨b13, 0, none⟩) 1 1]) rfl) (Cal.mono (udue_c [kA] [kB] (by simpa using kA_is) (by simpa using kB_is) _ _ 9 5 _ (slAt1 kA_is (M.heap (.there .here))) (slAt1 kB_is (M.heap .here))) ?_)); clear F; clear a; rintro _ w ⟨u, s, eu, es, rfl, hO1, hO2, N⟩ a F; replace M := M.joins N; clear N)
  rw [kdue] at F hO1 hO2
  dsimp only at F hO1 hO2
  obtain ⟨p1, c1, rfl⟩ := hO1.slice
  obtain ⟨p2, c2, rfl⟩ := hO2.slice
  have hS1 := hO1.slAt M (fun q hq => by simp [hq])
  have hS2 := hO2.slAt M (fun q hq => by simp [hq])
  have E0 := M.ext
  obtain ⟨wb, hwb, M⟩ : ∃ wb, wb = w ∧ Mem [] wb w [] := ⟨w, rfl, Mem.empty w⟩
  rw [← hwb] at hS1 hS2 E0
  clear hwb
  refine stepD rfl F rfl (o_move (F.ev rfl) ?_); clear F; clear a; intro a F
  refine stepD rfl F rfl (o_extract (F.ev rfl) rfl ?_); clear F; clear a; intro a F
  refine stepD rfl F rfl (o_extract (F.ev rfl) rfl ?_); clear F; clear a; intro a F
  refine stepD rfl F rfl (o_extract (F.ev rfl) rfl ?_); clear F; clear a; intro a F
  refine stepD rfl F rfl (o_extract (F.ev rfl) rfl ?_); clear F; clear a; intro a F
  (refine stepD rfl F rfl (o_alloc M ?_); clear F; clear M; intro b1 w M a F)
  skip
  (refine stepN rfl F (o_storeA M (F.ev rfl) (F.ev rfl) (by rfl) (by rfl) (by repeat (first | exact .here | apply Has.there)) (by rfl) (by repeat (first | exact .here | apply Upd.there)) ?_); clear F; clear M; intro w M a F)
  refine stepD rfl F rfl (o_assign (F.ev rfl) ?_); clear F; clear a; intro a F
  refine stepD rfl F rfl (o_assign (F.ev rfl) ?_); clear F; clear a; intro a F
  refine stepD rfl F rfl (o_assign (F.ev rfl) ?_); clear F; clear a; intro a F
  with_reducible refine l_nil ?_
  with_reducible refine q_then ?_
  with_reducible refine c_seq ?_
  replace F := F.only [1, 2, 3, 4] rfl
  refine c_draw 28 F (by kernel_rfl) ?_
  intro w1 hE hok
  have M1 := M.later hE
  refine mK hok rfl rfl (fun a' w' F' E' => o_move (F'.ev rfl) ⟨Ext.refl _ _, rfl⟩) ?_
  refine mK hok rfl rfl (fun a' w' F' E' => o_eqlT (F'.ev rfl) (F'.ev rfl) (by omega) ⟨Ext.refl _ _, rfl⟩) ?_
  refine mK hok rfl rfl (fun a' w' F' E' => o_move (F'.ev rfl) ⟨Ext.refl _ _, rfl⟩) ?_
  refine mKG hok rfl rfl rfl rfl (fun a' w' F' E' => o_move (F'.ev rfl) ⟨Ext.refl _ _, rfl⟩) ?_
  refine mK hok rfl rfl (fun a' w' F' E' => o_pickT (F'.ev rfl) (F'.ev rfl) ⟨Ext.refl _ _, rfl⟩) ?_
  refine mK hok rfl rfl (fun a' w' F' E' => o_move (F'.ev rfl) ⟨Ext.refl _ _, rfl⟩) ?_
  refine mKG hok rfl rfl rfl rfl (fun a' w' F' E' => o_fieldAddr (F'.ev rfl) ⟨Ext.refl _ _, rfl⟩) ?_
  refine mKG hok rfl rfl rfl rfl (fun a' w' F' E' => o_load1 (M1.later E') (F'.ev rfl) (by repeat (first | exact .here | apply Has.there)) (by first | assumption | rfl) ⟨Ext.refl _ _, rfl⟩) ?_
  refine mKG hok rfl rfl rfl rfl (fun a' w' F' E' => o_eqlT (F'.ev rfl) (F'.ev rfl) (by omega) ⟨Ext.refl _ _, rfl⟩) ?_
  refine mK hok rfl rfl (fun a' w' F' E' => o_pickT (F'.ev rfl) (F'.ev rfl) ⟨Ext.refl _ _, rfl⟩) ?_
  refine mK hok rfl rfl (fun a' w' F' E' => o_move (F'.ev rfl) ⟨Ext.refl _ _, rfl⟩) ?_
  refine mKG hok rfl rfl rfl rfl (fun a' w' F' E' => o_fieldAddr (F'.ev rfl) ⟨Ext.refl _ _, rfl⟩) ?_
  refine mKG hok rfl rfl rfl rfl (fun a' w' F' E' => o_load1 (M1.later E') (F'.ev rfl) (by repeat (first | exact .here | apply Has.there)) (by first | assumption | rfl) ⟨Ext.refl _ _, rfl⟩) ?_
  (refine mKG hok rfl rfl rfl rfl (fun a' w' F' E' => o_call (F'.ev rfl) (F'.evs rfl) (Cal.mono (toL_c 2 (by omega) (by omega) _) fun _ _ hh => ⟨hh.2, hh.1⟩)) ?_)
  refine mKG hok rfl rfl rfl rfl (fun a' w' F' E' => o_build F' rfl rfl ⟨Ext.refl _ _, rfl⟩) ?_
  refine mXG (V := SlV 1 (avsC [kB])) hok rfl rfl rfl rfl (SlV.stays _ _) (fun a' w' F' E' D' => o_buildSlice F' (Mem.empty w') rfl rfl rfl rfl fun b w'' M'' => ⟨M''.ext, slAt1 kB_is (M''.heap .here)⟩) ?_
  refine mKXG (v := .bool true) hok rfl rfl rfl rfl (fun a' w' F' E' D' => by
    have g : SlAt w' 37 _ 1 (avsC [kB]) := D' 15 (memDep rfl) (SlV 1 (avsC [kB])) (by kernel_rfl)
    obtain ⟨q, c, e, _⟩ := id g
    have F2 := F'.know (d := 34) e
    exact o_call (F2.ev rfl) (F2.evs rfl) (Cal.mono (equalA_c [kB] (by simpa using kB_is) (by simp) _ _ _ (hS1.later (M1.ext.trans E')) (e ▸ g)) fun _ _ hh => ⟨hh.2, hh.1⟩)) ?_
  refine mK hok rfl rfl (fun a' w' F' E' => o_pickT (F'.ev rfl) (F'.ev rfl) ⟨Ext.refl _ _, rfl⟩) ?_
  refine mK hok rfl rfl (fun a' w' F' E' => o_move (F'.ev rfl) ⟨Ext.refl _ _, rfl⟩) ?_
  refine mKG hok rfl rfl rfl rfl (fun a' w' F' E' => o_move (F'.ev rfl) ⟨Ext.refl _ _, rfl⟩) ?_
  (refine mKG hok rfl rfl rfl rfl (fun a' w' F' E' => o_call (F'.ev rfl) (F'.evs rfl) (Cal.mono (toL_c 1 (by omega) (by omega) _) fun _ _ hh => ⟨hh.2, hh.1⟩)) ?_)
  refine mKG hok rfl rfl rfl rfl (fun a' w' F' E' => o_build F' rfl rfl ⟨Ext.refl _ _, rfl⟩) ?_
  refine mKG hok rfl rfl rfl rfl (fun a' w' F' E' => o_build F' rfl rfl ⟨Ext.refl _ _, rfl⟩) ?_
  (refine mKG hok rfl rfl rfl rfl (fun a' w' F' E' => o_call (F'.ev rfl) (F'.evs rfl) (Cal.mono (toL_c 2 (by omega) (by omega) _) fun _ _ hh => ⟨hh.2, hh.1⟩)) ?_)
  refine mKG hok rfl rfl rfl rfl (fun a' w' F' E' => o_build F' rfl rfl ⟨Ext.refl _ _, rfl⟩) ?_
  refine mXG (V := SlV 2 (avsC [kR, kB])) hok rfl rfl rfl rfl (SlV.stays _ _) (fun a' w' F' E' D' => o_buildSlice F' (Mem.empty w') rfl rfl rfl rfl fun b w'' M'' => ⟨M''.ext, ⟨_, _, rfl, Nat.le_refl _, by simp, rfl, fun _ => ⟨b, 0, _, _, _, rfl, M''.heap .here, rfl⟩⟩⟩) ?_
  refine mKXG (v := .bool true) hok rfl rfl rfl rfl (fun a' w' F' E' D' => by
    have g : SlAt w' 37 _ 2 (avsC [kR, kB]) := D' 25 (memDep rfl) (SlV 2 (avsC [kR, kB])) (by kernel_rfl)
    obtain ⟨q, c, e, _⟩ := id g
    have F2 := F'.know (d := 44) e
    exact o_call (F2.ev rfl) (F2.evs rfl) (Cal.mono (equalA_c [kR, kB] (by simpa using ⟨kR_is, kB_is⟩) (by simp) _ _ _ (hS2.later (M1.ext.trans E')) (e ▸ g)) fun _ _ hh => ⟨hh.2, hh.1⟩)) ?_
  refine mK hok rfl rfl (fun a' w' F' E' => o_pickT (F'.ev rfl) (F'.ev rfl) ⟨Ext.refl _ _, rfl⟩) ?_
  (refine mDone rfl rfl ?_; clear F; clear M; intro a w F hE2 hX hTT hDD hPP; have M := M1.later hE2; clear M1; clear hX; clear hE2; clear hok; clear hE; clear hTT; clear hDD; clear hPP; (try dsimp only at F))
  refine stepD rfl F rfl (o_assign (F.ev rfl) ?_); clear F; clear a; intro a F
  with_reducible refine l_nil ?_
  with_reducible refine q_then ?_
  with_reducible refine c_ret ?_
  refine p_ret F rfl (.cons (.tmp (F.ev rfl)) .nil) ?_
  exact ⟨rfl, E0.trans M.ext⟩
/-! alike -/
end Go.Proofs.Ytilgoepokaaleaa
/-! YF -/
namespace Go.Proofs.Ytilgoepokaaleaa
set_option linter.unusedVariables false
set_option linter.unusedSimpArgs false
open Go.RowKit
attribute [local irreducible] OpTo wpListIn Code.wpIn MW Cal
theorem is_set {out : List AdvV} {q : Nat} {x : AdvV} (h : ∀ y ∈ out, IsAv y) (hx : IsAv x) : ∀ y ∈ out.set q x, IsAv y := fun y hy => by
  rcases List.mem_or_eq_of_mem_set hy with h1 | rfl
  · exact h y h1
  · exact hx
end Go.Proofs.Ytilgoepokaaleaa
/-! YH -/
namespace Go.Proofs.Ytilgoepokaaleaa
set_option linter.unusedVariables false
set_option linter.unusedSimpArgs false
open Go.RowKit
attribute [local irreducible] OpTo wpListIn Code.wpIn MW Cal
theorem Mem.turnJ {S : List Nat} {W0 w w' : World} {l l' ent : List (Nat × Obj)} {b : Nat} {o o' : Obj} (M : Mem S W0 w l) (N : Mem [b] w w' ((b, o') :: ent)) (hu : Upd l b o o' l') : Mem S W0 w' (ent ++ l') := by
  have M1 := M.turned hu N.ext (N.heap .here)
  have hge : ∀ p ∈ ent, w.heap.size ≤ p.1 := fun p hp => (N.own p (List.mem_cons_of_mem _ hp)).resolve_left (nd_not N.nd (fun q hq => hq) p hp)
  refine ⟨M1.ext, fun p hp => ?_, ?_, fun p hp => ?_⟩
  · rcases List.mem_append.1 hp with h | h
    · exact N.at_ p (List.mem_cons_of_mem _ h)
    · exact M1.at_ p h
  · rw [List.map_append, List.nodup_append]
    refine ⟨(List.nodup_cons.1 N.nd).2, M1.nd, ?_⟩
    rintro x hx y hy rfl
    obtain ⟨p, hp, rfl⟩ := List.mem_map.1 hx
    rw [hu.keys] at hy
    obtain ⟨q, hq, e⟩ := List.mem_map.1 hy
    have h1 := hge p hp
    have h2 := M.lt hq
    omega
  · rcases List.mem_append.1 hp with h | h
    · exact .inr (Nat.le_trans M.ext.size (hge p h))
    · exact M1.own p h
theorem due_eq {T l : List AdvV} {fl now : Int} (h1 : validAs T = true) (h2 : isTime fl = true) (h3 : validAs l = true) (h4 : isTime now = true) :
    dueV T fl now l = ⟨l, if decide (fl ≤ now) then laterV now 3 else fl, mrg (decide (fl ≤ now)) l T, (mrg (decide (fl ≤ now)) l T).any fun a => decide (a.own.met = inf), 0⟩ := by
  unfold dueV
  rw [h1, h2, h3, h4]
  rfl
end Go.Proofs.Ytilgoepokaaleaa
/-! YI -/
namespace Go.Proofs.Ytilgoepokaaleaa
set_option linter.unusedVariables false
set_option linter.unusedSimpArgs false
open Go.RowKit
attribute [local irreducible] OpTo wpListIn Code.wpIn MW Cal
theorem set_valid {l : List AdvV} {i : Nat} (hi : i < l.length) (il : ∀ x ∈ l, IsAv x) (h : validAs l = true) : validAs (l.set i (retr l[i])) = true := by
  refine VarI.valid (l := l) ⟨?_, fun y hy => ?_⟩ h
  · rw [List.map_set, show AdvV.to (retr l[i]) = (l.map AdvV.to)[i]'(by simpa using hi) by simp [retr], List.set_getElem_self]
    exact List.Sublist.refl _
  · rcases List.mem_or_eq_of_mem_set hy with h1 | rfl
    · exact ⟨il y h1, .inr ⟨y, h1, rfl⟩⟩
    · have h := il _ (List.getElem_mem hi)
      exact ⟨h, .inl rfl⟩
theorem set_is {l : List AdvV} {i : Nat} (hi : i < l.length) (il : ∀ x ∈ l, IsAv x) : ∀ x ∈ l.set i (retr l[i]), IsAv x := is_set il (by have h := il _ (List.getElem_mem hi); exact h)
set_option maxHeartbeats 8000000 in
theorem quietL_c (pt : Option Addr) (cap : Nat) (xs0 : List Int) (W : World) (hI : IntsAt W (.slice pt xs0.length cap) xs0) (hcap : xs0.length ≤ cap) :
    Cal Try.prog 6 [.slice pt xs0.length cap].toArray W fun v w' => v = .bool true ∧ Ext [] W w' := by
  have hmem : 0 < xs0.length → ∃ b o cs t fz, pt = some ⟨b, o, none⟩ ∧ W.heap[b]? = some (.cells cs t fz) ∧ seg cs.toList o xs0.length = some (i64C xs0) := fun hl => by
    obtain ⟨p', cap', h1, _, h3⟩ := hI.ex
    cases h1
    exact h3 hl
  refine fn_ofM (n := 113) [] Try.func6 rfl rfl rfl ?_
  intro a w F M hwW
  with_reducible refine c_seq ?_
  with_reducible refine c_region ?_
  refine stepD rfl F rfl (o_assign (F.ev rfl) ?_); clear F; clear a; intro a F
  with_reducible refine l_nil ?_
  with_reducible refine q_then ?_
  with_reducible refine c_seq ?_
  with_reducible refine c_region ?_
  refine stepD rfl F rfl (o_move (F.ev rfl) ?_); clear F; clear a; intro a F
  (refine stepD rfl F rfl (o_call (F.ev rfl) (F.evs rfl) (Cal.mono (new_c xs0 _ (hI.later M.ext) hcap ) ?_)); clear F; clear a; rintro _ w ⟨bt, rfl, N⟩ a F; replace M := M.joins N; clear N)
  have hbt : W.heap.size ≤ bt := (M.own _ List.mem_cons_self).resolve_left (by simp)
  have hT : TapeS W bt pt (cut400 xs0).length (cut400 xs0) := tape_new (Ext.refl [] W) hbt hI.bd hmem
  generalize hxs : cut400 xs0 = xs at *
  generalize hlen : xs.length = len at *
  clear hxs hI hmem hcap
  simp only [List.cons_append, List.nil_append] at M
  refine stepD rfl F rfl (o_assign (F.ev rfl) ?_); clear F; clear a; intro a F
  with_reducible refine l_nil ?_
  with_reducible refine q_then ?_
  with_reducible refine c_seq ?_
  with_reducible refine c_region ?_
  refine stepD rfl F rfl (o_move (F.ev rfl) ?_); clear F; clear a; intro a F
  (refine stepD rfl F rfl (o_call (F.ev rfl) (F.evs rfl) (Cal.mono (base_c _ (hT.later M.ext.any) (M.heap .here) ) ?_)); clear F; clear a; have M0 := M; clear M; rintro _ w ⟨base0, k1, rfl, ⟨hb0, hb1⟩, N⟩ a F)
  replace M := M0.turn1 N .here
  clear M0 N
  refine stepD rfl F rfl (o_rem (F.ev rfl) (F.ev rfl) (by omega) rfl ?_); clear F; clear a; intro a F
  refine stepD rfl F rfl (o_assign (F.ev rfl) ?_); clear F; clear a; intro a F
  with_reducible refine l_nil ?_
  with_reducible refine q_then ?_
  with_reducible refine c_seq ?_
  with_reducible refine c_region ?_
  refine stepD rfl F rfl (o_move (F.ev rfl) ?_); clear F; clear a; intro a F
  (refine stepD rfl F rfl (o_call (F.ev rfl) (F.evs rfl) (Cal.mono (adverts_c _ (hT.later M.ext.any) (M.heap .here) ) ?_)); clear F; clear a; have M0 := M; clear M; rintro _ w ⟨l, k2, el, hOl, il, hl7, vl, N⟩ a F)
  replace M := M0.turnJ N .here
  clear M0 N
  obtain ⟨pl, cl, rfl⟩ := hOl.slice
  replace M := M.sub (l' := el) (List.sublist_append_left _ _)
  obtain ⟨base, hbase⟩ : ∃ base, base = base0.tmod 1000 := ⟨_, rfl⟩
  have hbd : 0 ≤ base ∧ base < 1000 := by
    rw [hbase, Int.tmod_eq_emod_of_nonneg hb0]
    omega
  rw [← hbase] at F
  clear hbase hT hbt
  have htb : ∀ x, 0 ≤ x → x < 2000 → isTime x = true := fun x h1 h2 => by
    unfold isTime
    rw [decide_eq_true h1, decide_eq_true (by omega)]
    rfl
  have hlv : laterV base 3 = base + 3 := by
    unfold laterV
    rw [if_neg (by omega)]
  refine stepD rfl F rfl (o_assign (F.ev rfl) ?_); clear F; clear a; intro a F
  with_reducible refine l_nil ?_
  with_reducible refine q_then ?_
  with_reducible refine c_seq ?_
  with_reducible refine c_region ?_
  refine stepD rfl F rfl (o_move (F.ev rfl) ?_); clear F; clear a; intro a F
  refine stepD rfl F rfl (o_build F rfl rfl ?_); clear F; clear a; intro a F
  refine stepD rfl F rfl (o_move (F.ev rfl) ?_); clear F; clear a; intro a F
  refine stepD rfl F rfl (o_move (F.ev rfl) ?_); clear F; clear a; intro a F
  (refine stepD rfl F rfl (o_call (F.ev rfl) (F.evs (vs := [.agg (plC (.slice none 0 0) base).toArray, .int .i64 base, .slice pl l.length cl]) rfl) (Cal.mono (udue_c [] l (by simp) il _ _ base base _ (SlAt.nil _ _) (hOl.slAt M (fun q hq => hq))) ?_)); clear F; clear a; rintro _ w ⟨u, s, eu, es, rfl, hO1, hO2, N⟩ a F; replace M := M.joins N; clear N)
  rw [due_eq (T := []) rfl (htb base hbd.1 (by omega)) vl (htb base hbd.1 (by omega)), decide_eq_true (Int.le_refl base)] at F hO1 hO2
  simp only [if_true, hlv] at F hO1 hO2
  obtain ⟨p1, c1, rfl⟩ := hO1.slice
  obtain ⟨p2, c2, rfl⟩ := hO2.slice
  generalize mrg true l [] = S0 at *
  refine stepD rfl F rfl (o_move (F.ev rfl) ?_); clear F; clear a; intro a F
  refine stepD rfl F rfl (o_extract (F.ev rfl) rfl ?_); clear F; clear a; intro a F
  refine stepD rfl F rfl (o_extract (F.ev rfl) rfl ?_); clear F; clear a; intro a F
  refine stepD rfl F rfl (o_extract (F.ev rfl) rfl ?_); clear F; clear a; intro a F
  refine stepD rfl F rfl (o_extract (F.ev rfl) rfl ?_); clear F; clear a; intro a F
  (refine stepD rfl F rfl (o_alloc M ?_); clear F; clear M; intro b6 w M a F)
  (refine stepN rfl F (o_storeA M (F.ev rfl) (F.ev rfl) (by rfl) (by rfl) (by repeat (first | exact .here | apply Has.there)) (by rfl) (by repeat (first | exact .here | apply Upd.there)) ?_); clear F; clear M; intro w M a F)
  refine stepD rfl F rfl (o_assign (F.ev rfl) ?_); clear F; clear a; intro a F
  refine stepD rfl F rfl (o_assign (F.ev rfl) ?_); clear F; clear a; intro a F
  refine stepD rfl F rfl (o_assign (F.ev rfl) ?_); clear F; clear a; intro a F
  with_reducible refine l_nil ?_
  with_reducible refine q_then ?_
  with_reducible refine c_seq ?_
  with_reducible refine c_region ?_
  refine stepD rfl F rfl (o_loadA M (F.ev rfl) (by repeat (first | exact .here | apply Has.there)) (by first | assumption | rfl) ?_); clear F; clear a; intro a F
  refine stepD rfl F rfl (o_move (F.ev rfl) ?_); clear F; clear a; intro a F
  refine stepD rfl F rfl (o_add (F.ev rfl) (F.ev rfl) (w_i64 (by omega) (by omega)) ?_); clear F; clear a; intro a F
  refine stepD rfl F rfl (o_move (F.ev rfl) ?_); clear F; clear a; intro a F
  (refine stepD rfl F rfl (o_call (F.ev rfl) (F.evs (vs := [.agg (plC (.slice p1 l.length c1) (base + 3)).toArray, .int .i64 (base + 1), .slice pl l.length cl]) rfl) (Cal.mono (udue_c l l il il _ _ (base + 3) (base + 1) _ (hO1.slAt M (fun q hq => by simp [hq])) (hOl.slAt M (fun q hq => by simp [hq]))) ?_)); clear F; clear a; rintro _ w ⟨u', s', eu2, es2, rfl, hO3, hO4, N⟩ a F; replace M := M.joins N; clear N)
  rw [due_eq vl (htb (base + 3) (by omega) (by omega)) vl (htb (base + 1) (by omega) (by omega)), decide_eq_false (show ¬ base + 3 ≤ base + 1 by omega), mrg_same] at F hO3 hO4
  simp only [Bool.false_eq_true, if_false, List.any_nil] at F hO3 hO4
  obtain ⟨p3, c3, rfl⟩ := hO3.slice
  obtain ⟨p4, c4, rfl⟩ := hO4.slice
  rw [List.length_nil] at F
  refine stepD rfl F rfl (o_move (F.ev rfl) ?_); clear F; clear a; intro a F
  refine stepD rfl F rfl (o_extract (F.ev rfl) rfl ?_); clear F; clear a; intro a F
  refine stepD rfl F rfl (o_extract (F.ev rfl) rfl ?_); clear F; clear a; intro a F
  refine stepD rfl F rfl (o_extract (F.ev rfl) rfl ?_); clear F; clear a; intro a F
  refine stepD rfl F rfl (o_extract (F.ev rfl) rfl ?_); clear F; clear a; intro a F
  (refine stepD rfl F rfl (o_alloc M ?_); clear F; clear M; intro b10 w M a F)
  (refine stepN rfl F (o_storeA M (F.ev rfl) (F.ev rfl) (by rfl) (by rfl) (by repeat (first | exact .here | apply Has.there)) (by rfl) (by repeat (first | exact .here | apply Upd.there)) ?_); clear F; clear M; intro w M a F)
  replace M := M.perm (l' := (b10, .cells (plC (.slice p3 l.length c3) (base + 3)).toArray 24 (0, 0)) :: (b6, .cells (plC (.slice p1 l.length c1) (base + 3)).toArray 24 (0, 0)) :: (eu2 ++ es2 ++ (eu ++ es ++ el))) (by classical exact List.perm_iff_count.2 fun _ => by simp only [List.count_append, List.count_cons, List.count_nil, Nat.add_zero, Nat.zero_add] <;> ac_rfl)
  refine stepD rfl F rfl (o_assign (F.ev rfl) ?_); clear F; clear a; intro a F
  refine stepD rfl F rfl (o_assign (F.ev rfl) ?_); clear F; clear a; intro a F
  refine stepD rfl F rfl (o_assign (F.ev rfl) ?_); clear F; clear a; intro a F
  with_reducible refine l_nil ?_
  with_reducible refine q_then ?_
  with_reducible refine c_seq ?_
  with_reducible refine c_seq ?_
  with_reducible refine c_region ?_
  refine stepD rfl F rfl (o_move (F.ev rfl) ?_); clear F; clear a; intro a F
  refine stepD rfl F rfl (o_neqF (F.ev rfl) (F.ev rfl) (by omega) ?_); clear F; clear a; intro a F
  refine stepD rfl F rfl (o_move (F.ev rfl) ?_); clear F; clear a; intro a F
  refine stepG rfl F rfl rfl rfl (o_move (F.ev rfl) ?_); clear F; clear a; intro a F
  refine stepG rfl F rfl rfl rfl (o_neqF (F.ev rfl) (F.ev rfl) (by omega) ?_); clear F; clear a; intro a F
  refine stepD rfl F rfl (o_pickF (F.ev rfl) (F.ev rfl) ?_); clear F; clear a; intro a F
  refine stepD rfl F rfl (o_move (F.ev rfl) ?_); clear F; clear a; intro a F
  refine stepG rfl F rfl rfl rfl (o_move (F.ev rfl) ?_); clear F; clear a; intro a F
  refine stepG rfl F rfl rfl rfl (o_lenSl (F.ev rfl) ?_); clear F; clear a; intro a F
  refine stepG rfl F rfl rfl rfl (o_neqF (F.ev rfl) (F.ev rfl) (by omega) ?_); clear F; clear a; intro a F
  refine stepD rfl F rfl (o_pickF (F.ev rfl) (F.ev rfl) ?_); clear F; clear a; intro a F
  refine stepD rfl F rfl (o_move (F.ev rfl) ?_); clear F; clear a; intro a F
  refine stepG rfl F rfl rfl rfl (o_move (F.ev rfl) ?_); clear F; clear a; intro a F
  refine stepD rfl F rfl (o_pickF (F.ev rfl) (F.ev rfl) ?_); clear F; clear a; intro a F
  refine stepD rfl F rfl (o_move (F.ev rfl) ?_); clear F; clear a; intro a F
  refine stepG rfl F rfl rfl rfl (o_loadA M (F.ev rfl) (by repeat (first | exact .here | apply Has.there)) (by first | assumption | rfl) ?_); clear F; clear a; intro a F
  refine stepG rfl F rfl rfl rfl (o_loadA M (F.ev rfl) (by repeat (first | exact .here | apply Has.there)) (by first | assumption | rfl) ?_); clear F; clear a; intro a F
  (refine stepG rfl F rfl rfl rfl (o_call (F.ev rfl) (F.evs rfl) (Cal.mono (samePlan_c l il (by omega) _ _ (base + 3) _ (hO1.slAt M (fun q hq => by simp [hq])) (hO3.slAt M (fun q hq => by simp [hq]))) ?_)); clear F; clear a; rintro _ w ⟨rfl, hE⟩ a F; replace M := M.later hE; clear hE)
  refine stepG rfl F rfl rfl rfl (o_not (F.ev rfl) ?_); clear F; clear a; intro a F
  refine stepD rfl F rfl (o_pickF (F.ev rfl) (F.ev rfl) ?_); clear F; clear a; intro a F
  with_reducible refine l_nil ?_
  with_reducible refine q_then ?_
  refine c_false F rfl rfl ?_
  with_reducible refine c_skip ?_
  with_reducible refine q_then ?_
  with_reducible refine c_seq ?_
  with_reducible refine c_seq ?_
  with_reducible refine c_region ?_
  refine stepD rfl F rfl (o_move (F.ev rfl) ?_); clear F; clear a; intro a F
  refine stepD rfl F rfl (o_lenSl (F.ev rfl) ?_); clear F; clear a; intro a F
  refine stepD rfl F rfl (o_move (F.ev rfl) ?_); clear F; clear a; intro a F
  with_reducible refine l_nil ?_
  with_reducible refine q_then ?_
  with_reducible refine c_block ?_
  replace M : Mem [] W w ((b6, .cells (plC (.slice p1 l.length c1) (base + 3)).toArray 24 (0, 0)) :: (eu ++ el)) := (M.perm (l' := ((b6, .cells (plC (.slice p1 l.length c1) (base + 3)).toArray 24 (0, 0)) :: (eu ++ el)) ++ ((b10, .cells (plC (.slice p3 l.length c3) (base + 3)).toArray 24 (0, 0)) :: (eu2 ++ es2 ++ es))) (by classical exact List.perm_iff_count.2 fun _ => by simp only [List.count_append, List.count_cons, List.count_nil, Nat.add_zero, Nat.zero_add] <;> ac_rfl)).sub (List.sublist_append_left _ _)
  refine c_loop (fun m a w => ∃ i : Nat, m = l.length - i ∧ i ≤ l.length ∧ Frm a 113 [] [(70, .int .i64 i), (69, .int .i64 l.length), (5, .slice pl l.length cl), (6, .pointer (some ⟨b6, 0, none⟩)), (4, .int .i64 base)] ∧ Mem [] W w ((b6, .cells (plC (.slice p1 l.length c1) (base + 3)).toArray 24 (0, 0)) :: (eu ++ el))) l.length ⟨0, rfl, by omega, F.only [70, 69, 5, 6, 4] rfl, M⟩ ?_
  clear F M a
  rintro m a w ⟨i, hm', hi, F, M⟩
  by_cases hlt : i < l.length
  · have hli : IsAv l[i] := il _ (List.getElem_mem hlt)
    have hvm := set_valid hlt il vl
    have hvi := set_is hlt il
    have hvl : (l.set i (retr l[i])).length = l.length := by simp
    have hms := mrg_set l i hlt
    have hrm : (retr l[i]).own.met = inf := rfl
    with_reducible refine c_seq ?_
    with_reducible refine c_region ?_
    refine stepD rfl F rfl (o_lssT (F.ev rfl) (F.ev rfl) (by omega) ?_); clear F; clear a; intro a F
    with_reducible refine l_nil ?_
    with_reducible refine q_then ?_
    with_reducible refine c_seq ?_
    refine c_true F rfl rfl ?_
    with_reducible refine c_skip ?_
    with_reducible refine q_then ?_
    with_reducible refine c_seq ?_
    with_reducible refine c_block ?_
    with_reducible refine c_seq ?_
    with_reducible refine c_region ?_
    refine stepD rfl F rfl (o_move (F.ev rfl) ?_); clear F; clear a; intro a F
    refine stepD rfl F rfl (o_assign (F.ev rfl) ?_); clear F; clear a; intro a F
    with_reducible refine l_nil ?_
    with_reducible refine q_then ?_
    with_reducible refine c_seq ?_
    with_reducible refine c_region ?_
    refine stepD rfl F rfl (o_move (F.ev rfl) ?_); clear F; clear a; intro a F
    (refine stepD rfl F rfl (o_call (F.ev rfl) (F.evs rfl) (Cal.mono (cloneA_c l (by omega) _ _ (hOl.slAt M (fun q hq => by simp [hq])) ) ?_)); clear F; clear a; rintro _ w ⟨ec, hOc, _, N⟩ a F; replace M := M.joins N; clear N)
    rcases hOc with ⟨_, h0, _, _⟩ | ⟨bc, cc, junk, rfl, rfl, hxl, hjl, hnc⟩
    · omega
    rcases id hOl with ⟨_, h0, _, _⟩ | ⟨bl, ccl, jl, hsl, hel, _, _, _⟩
    · omega
    cases hsl
    subst hel
    have g1 : put (avsC l ++ junk) (0 + (i : Int).toNat * 37 + 35 + 1) [.int .i64 65535] = some (avsC (l.set i (retr l[i])) ++ junk) := encL_put (enc := avC) (avs_len il) junk hlt (av_put_own_met hli 65535) (by omega)
    have f1 : nth (avsC l ++ jl) (0 + (i : Int).toNat * 37 + 35 + 1) = some (.int .i64 l[i].own.met) := own_nth (enc := avC) (avs_len il) jl hlt (av_own_met hli) (by omega)
    generalize l[i].own.met = met at *
    generalize l.set i (retr l[i]) = ml at *
    generalize retr l[i] = rl at *
    refine stepD rfl F rfl (o_assign (F.ev rfl) ?_); clear F; clear a; intro a F
    with_reducible refine l_nil ?_
    with_reducible refine q_then ?_
    with_reducible refine c_seq ?_
    with_reducible refine c_region ?_
    refine stepD rfl F rfl (o_move (F.ev rfl) ?_); clear F; clear a; intro a F
    refine stepD rfl F rfl (o_move (F.ev rfl) ?_); clear F; clear a; intro a F
    refine stepD rfl F rfl (o_indexSl (F.ev rfl) (F.ev rfl) (by omega) (by omega) ?_); clear F; clear a; intro a F
    refine stepD rfl F rfl (o_fieldAddr (F.ev rfl) ?_); clear F; clear a; intro a F
    refine stepD rfl F rfl (o_fieldAddr (F.ev rfl) ?_); clear F; clear a; intro a F
    (refine stepN rfl F (o_store1 M (F.ev rfl) (F.ev rfl) rfl (by repeat (first | exact .here | apply Has.there)) (g1) (by repeat (first | exact .here | apply Upd.there)) ?_); clear F; clear M; intro w M a F)
    replace M : Mem [] W w ((bc, .cells (avsC ml ++ junk).toArray 52 (0, 0)) :: (b6, .cells (plC (.slice p1 l.length c1) (base + 3)).toArray 24 (0, 0)) :: (eu ++ [(bl, .cells (avsC l ++ jl).toArray 52 (0, 0))])) := M
    have hOm : OwnS 52 37 (.slice (some ⟨bc, 0, none⟩) l.length cc) ml.length (avsC ml) [(bc, .cells (avsC ml ++ junk).toArray 52 (0, 0))] := .inr ⟨bc, cc, junk, by rw [hvl], rfl, by rw [hvl, ← hvl]; exact encL_len (avs_len hvi), by rw [hvl]; exact hjl, by rw [hvl]; exact hnc⟩
    replace M := M.perm (l' := (bl, .cells (avsC l ++ jl).toArray 52 (0, 0)) :: (b6, .cells (plC (.slice p1 l.length c1) (base + 3)).toArray 24 (0, 0)) :: (bc, .cells (avsC ml ++ junk).toArray 52 (0, 0)) :: eu) (by classical exact List.perm_iff_count.2 fun _ => by simp only [List.count_append, List.count_cons, List.count_nil, Nat.add_zero, Nat.zero_add] <;> ac_rfl)
    with_reducible refine l_nil ?_
    with_reducible refine q_then ?_
    with_reducible refine c_seq ?_
    with_reducible refine c_region ?_
    refine stepD rfl F rfl (o_loadA M (F.ev rfl) (by repeat (first | exact .here | apply Has.there)) (by first | assumption | rfl) ?_); clear F; clear a; intro a F
    refine stepD rfl F rfl (o_move (F.ev rfl) ?_); clear F; clear a; intro a F
    refine stepD rfl F rfl (o_add (F.ev rfl) (F.ev rfl) (w_i64 (by omega) (by omega)) ?_); clear F; clear a; intro a F
    refine stepD rfl F rfl (o_move (F.ev rfl) ?_); clear F; clear a; intro a F
    (refine stepD rfl F rfl (o_call (F.ev rfl) (F.evs (vs := [.agg (plC (.slice p1 l.length c1) (base + 3)).toArray, .int .i64 (base + 2), .slice (some ⟨bc, 0, none⟩) l.length cc]) rfl) (Cal.mono (udue_c l ml il hvi _ _ (base + 3) (base + 2) _ (hO1.slAt M (fun q hq => by simp [hq])) (hOm.slAt M (fun q hq => by simp at hq; simp [hq]))) ?_)); clear F; clear a; rintro _ w ⟨u', s', eu3, es3, rfl, hO5, hO4, N⟩ a F; replace M := (M.joins N).sub (List.sublist_append_right _ _); clear N)
    rw [due_eq vl (htb (base + 3) (by omega) (by omega)) hvm (htb (base + 2) (by omega) (by omega)), decide_eq_false (show ¬ base + 3 ≤ base + 2 by omega), hms] at F hO4
    dsimp only at F hO4
    obtain ⟨p5, c5, rfl⟩ := hO5.slice
    clear hO5
    by_cases he : met = inf
    · simp only [if_pos he, List.any_nil, List.length_nil] at F hO4
      obtain ⟨p4, c4, rfl⟩ := hO4.slice
      clear hO4
      unfold inf at he
      refine stepD rfl F rfl (o_move (F.ev rfl) ?_); clear F; clear a; intro a F
      refine stepD rfl F rfl (o_extract (F.ev rfl) rfl ?_); clear F; clear a; intro a F
      refine stepD rfl F rfl (o_extract (F.ev rfl) rfl ?_); clear F; clear a; intro a F
      refine stepD rfl F rfl (o_extract (F.ev rfl) rfl ?_); clear F; clear a; intro a F
      refine stepD rfl F rfl (o_extract (F.ev rfl) rfl ?_); clear F; clear a; intro a F
      (refine stepD rfl F rfl (o_alloc M ?_); clear F; clear M; intro b16 w M a F)
      (refine stepN rfl F (o_storeA M (F.ev rfl) (F.ev rfl) (by rfl) (by rfl) (by repeat (first | exact .here | apply Has.there)) (by rfl) (by repeat (first | exact .here | apply Upd.there)) ?_); clear F; clear M; intro w M a F)
      refine stepD rfl F rfl (o_assign (F.ev rfl) ?_); clear F; clear a; intro a F
      refine stepD rfl F rfl (o_assign (F.ev rfl) ?_); clear F; clear a; intro a F
      refine stepD rfl F rfl (o_assign (F.ev rfl) ?_); clear F; clear a; intro a F
      with_reducible refine l_nil ?_
      with_reducible refine q_then ?_
      with_reducible refine c_seq ?_
      with_reducible refine c_region ?_
      refine stepD rfl F rfl (o_move (F.ev rfl) ?_); clear F; clear a; intro a F
      refine stepD rfl F rfl (o_move (F.ev rfl) ?_); clear F; clear a; intro a F
      refine stepD rfl F rfl (o_indexSl (F.ev rfl) (F.ev rfl) (by omega) (by omega) ?_); clear F; clear a; intro a F
      refine stepD rfl F rfl (o_fieldAddr (F.ev rfl) ?_); clear F; clear a; intro a F
      refine stepD rfl F rfl (o_fieldAddr (F.ev rfl) ?_); clear F; clear a; intro a F
      refine stepD rfl F rfl (o_load1 M (F.ev rfl) (by repeat (first | exact .here | apply Has.there)) (by first | assumption | rfl) ?_); clear F; clear a; intro a F
      refine stepD rfl F rfl (o_neqF (F.ev rfl) (F.ev rfl) (by omega) ?_); clear F; clear a; intro a F
      refine stepD rfl F rfl (o_assign (F.ev rfl) ?_); clear F; clear a; intro a F
      with_reducible refine l_nil ?_
      with_reducible refine q_then ?_
      with_reducible refine c_seq ?_
      with_reducible refine c_region ?_
      refine stepD rfl F rfl (o_move (F.ev rfl) ?_); clear F; clear a; intro a F
      refine stepD rfl F rfl (o_neqF (F.ev rfl) (F.ev rfl) (by omega) ?_); clear F; clear a; intro a F
      refine stepD rfl F rfl (o_move (F.ev rfl) ?_); clear F; clear a; intro a F
      refine stepG rfl F rfl rfl rfl (o_move (F.ev rfl) ?_); clear F; clear a; intro a F
      refine stepG rfl F rfl rfl rfl (o_move (F.ev rfl) ?_); clear F; clear a; intro a F
      refine stepG rfl F rfl rfl rfl (o_neqBF (F.ev rfl) (F.ev rfl) rfl ?_); clear F; clear a; intro a F
      refine stepD rfl F rfl (o_pickF (F.ev rfl) (F.ev rfl) ?_); clear F; clear a; intro a F
      refine stepD rfl F rfl (o_move (F.ev rfl) ?_); clear F; clear a; intro a F
      refine stepG rfl F rfl rfl rfl (o_move (F.ev rfl) ?_); clear F; clear a; intro a F
      refine stepG rfl F rfl rfl rfl (o_lenSl (F.ev rfl) ?_); clear F; clear a; intro a F
      refine stepG rfl F rfl rfl rfl (o_eqlF (F.ev rfl) (F.ev rfl) (by omega) ?_); clear F; clear a; intro a F
      refine stepG rfl F rfl rfl rfl (o_move (F.ev rfl) ?_); clear F; clear a; intro a F
      refine stepG rfl F rfl rfl rfl (o_neqBF (F.ev rfl) (F.ev rfl) rfl ?_); clear F; clear a; intro a F
      refine stepD rfl F rfl (o_pickF (F.ev rfl) (F.ev rfl) ?_); clear F; clear a; intro a F
      with_reducible refine l_nil ?_
      with_reducible refine q_then ?_
      refine c_false F rfl rfl ?_
      with_reducible refine c_skip ?_
      with_reducible refine q_inB ?_
      with_reducible refine q_then ?_
      with_reducible refine c_region ?_
      refine stepD rfl F rfl (o_add (F.ev rfl) (F.ev rfl) (w_i64 (by omega) (by omega)) ?_); clear F; clear a; intro a F
      refine stepD rfl F rfl (o_move (F.ev rfl) ?_); clear F; clear a; intro a F
      with_reducible refine l_nil ?_
      with_reducible refine q_then ?_
      exact ⟨_, by omega, i + 1, rfl, by omega, F.only [70, 69, 5, 6, 4] rfl, (M.perm (l' := ((b6, .cells (plC (.slice p1 l.length c1) (base + 3)).toArray 24 (0, 0)) :: (eu ++ [(bl, .cells (avsC l ++ jl).toArray 52 (0, 0))])) ++ [(b16, _), (bc, .cells (avsC ml ++ junk).toArray 52 (0, 0))]) (by classical exact List.perm_iff_count.2 fun _ => by simp only [List.count_append, List.count_cons, List.count_nil, Nat.add_zero, Nat.zero_add] <;> ac_rfl)).sub (List.sublist_append_left _ _)⟩
    · simp only [if_neg he, List.any_cons, List.any_nil, List.length_singleton, Bool.or_false, decide_eq_true hrm] at F hO4
      obtain ⟨p4, c4, rfl⟩ := hO4.slice
      clear hO4
      unfold inf at he
      refine stepD rfl F rfl (o_move (F.ev rfl) ?_); clear F; clear a; intro a F
      refine stepD rfl F rfl (o_extract (F.ev rfl) rfl ?_); clear F; clear a; intro a F
      refine stepD rfl F rfl (o_extract (F.ev rfl) rfl ?_); clear F; clear a; intro a F
      refine stepD rfl F rfl (o_extract (F.ev rfl) rfl ?_); clear F; clear a; intro a F
      refine stepD rfl F rfl (o_extract (F.ev rfl) rfl ?_); clear F; clear a; intro a F
      (refine stepD rfl F rfl (o_alloc M ?_); clear F; clear M; intro b16 w M a F)
      (refine stepN rfl F (o_storeA M (F.ev rfl) (F.ev rfl) (by rfl) (by rfl) (by repeat (first | exact .here | apply Has.there)) (by rfl) (by repeat (first | exact .here | apply Upd.there)) ?_); clear F; clear M; intro w M a F)
      refine stepD rfl F rfl (o_assign (F.ev rfl) ?_); clear F; clear a; intro a F
      refine stepD rfl F rfl (o_assign (F.ev rfl) ?_); clear F; clear a; intro a F
      refine stepD rfl F rfl (o_assign (F.ev rfl) ?_); clear F; clear a; intro a F
      with_reducible refine l_nil ?_
      with_reducible refine q_then ?_
      with_reducible refine c_seq ?_
      with_reducible refine c_region ?_
      refine stepD rfl F rfl (o_move (F.ev rfl) ?_); clear F; clear a; intro a F
      refine stepD rfl F rfl (o_move (F.ev rfl) ?_); clear F; clear a; intro a F
      refine stepD rfl F rfl (o_indexSl (F.ev rfl) (F.ev rfl) (by omega) (by omega) ?_); clear F; clear a; intro a F
      refine stepD rfl F rfl (o_fieldAddr (F.ev rfl) ?_); clear F; clear a; intro a F
      refine stepD rfl F rfl (o_fieldAddr (F.ev rfl) ?_); clear F; clear a; intro a F
      refine stepD rfl F rfl (o_load1 M (F.ev rfl) (by repeat (first | exact .here | apply Has.there)) (by first | assumption | rfl) ?_); clear F; clear a; intro a F
      refine stepD rfl F rfl (o_neqT (F.ev rfl) (F.ev rfl) (by omega) ?_); clear F; clear a; intro a F
      refine stepD rfl F rfl (o_assign (F.ev rfl) ?_); clear F; clear a; intro a F
      with_reducible refine l_nil ?_
      with_reducible refine q_then ?_
      with_reducible refine c_seq ?_
      with_reducible refine c_region ?_
      refine stepD rfl F rfl (o_move (F.ev rfl) ?_); clear F; clear a; intro a F
      refine stepD rfl F rfl (o_neqF (F.ev rfl) (F.ev rfl) (by omega) ?_); clear F; clear a; intro a F
      refine stepD rfl F rfl (o_move (F.ev rfl) ?_); clear F; clear a; intro a F
      refine stepG rfl F rfl rfl rfl (o_move (F.ev rfl) ?_); clear F; clear a; intro a F
      refine stepG rfl F rfl rfl rfl (o_move (F.ev rfl) ?_); clear F; clear a; intro a F
      refine stepG rfl F rfl rfl rfl (o_neqBF (F.ev rfl) (F.ev rfl) rfl ?_); clear F; clear a; intro a F
      refine stepD rfl F rfl (o_pickF (F.ev rfl) (F.ev rfl) ?_); clear F; clear a; intro a F
      refine stepD rfl F rfl (o_move (F.ev rfl) ?_); clear F; clear a; intro a F
      refine stepG rfl F rfl rfl rfl (o_move (F.ev rfl) ?_); clear F; clear a; intro a F
      refine stepG rfl F rfl rfl rfl (o_lenSl (F.ev rfl) ?_); clear F; clear a; intro a F
      refine stepG rfl F rfl rfl rfl (o_eqlT (F.ev rfl) (F.ev rfl) (by omega) ?_); clear F; clear a; intro a F
      refine stepG rfl F rfl rfl rfl (o_move (F.ev rfl) ?_); clear F; clear a; intro a F
      refine stepG rfl F rfl rfl rfl (o_neqBF (F.ev rfl) (F.ev rfl) rfl ?_); clear F; clear a; intro a F
      refine stepD rfl F rfl (o_pickF (F.ev rfl) (F.ev rfl) ?_); clear F; clear a; intro a F
      with_reducible refine l_nil ?_
      with_reducible refine q_then ?_
      refine c_false F rfl rfl ?_
      with_reducible refine c_skip ?_
      with_reducible refine q_inB ?_
      with_reducible refine q_then ?_
      with_reducible refine c_region ?_
      refine stepD rfl F rfl (o_add (F.ev rfl) (F.ev rfl) (w_i64 (by omega) (by omega)) ?_); clear F; clear a; intro a F
      refine stepD rfl F rfl (o_move (F.ev rfl) ?_); clear F; clear a; intro a F
      with_reducible refine l_nil ?_
      with_reducible refine q_then ?_
      exact ⟨_, by omega, i + 1, rfl, by omega, F.only [70, 69, 5, 6, 4] rfl, (M.perm (l' := ((b6, .cells (plC (.slice p1 l.length c1) (base + 3)).toArray 24 (0, 0)) :: (eu ++ [(bl, .cells (avsC l ++ jl).toArray 52 (0, 0))])) ++ [(b16, _), (bc, .cells (avsC ml ++ junk).toArray 52 (0, 0))]) (by classical exact List.perm_iff_count.2 fun _ => by simp only [List.count_append, List.count_cons, List.count_nil, Nat.add_zero, Nat.zero_add] <;> ac_rfl)).sub (List.sublist_append_left _ _)⟩
  · with_reducible refine c_seq ?_
    with_reducible refine c_region ?_
    refine stepD rfl F rfl (o_lssF (F.ev rfl) (F.ev rfl) (by omega) ?_); clear F; clear a; intro a F
    with_reducible refine l_nil ?_
    with_reducible refine q_then ?_
    with_reducible refine c_seq ?_
    refine c_false F rfl rfl ?_
    with_reducible refine c_exit ?_
    with_reducible refine q_thenX ?_
    with_reducible refine q_thenX ?_
    with_reducible refine q_inBX ?_
    with_reducible refine q_then ?_
    with_reducible refine c_seq ?_
    with_reducible refine c_region ?_
    (refine stepD rfl F rfl (o_call (F.ev rfl) (F.evs rfl) (Cal.mono (known_c _) ?_)); clear F; clear a; rintro _ w ⟨rfl, hE⟩ a F; replace M := M.later hE; clear hE)
    refine stepD rfl F rfl (o_assign (F.ev rfl) ?_); clear F; clear a; intro a F
    with_reducible refine l_nil ?_
    with_reducible refine q_then ?_
    with_reducible refine c_ret ?_
    refine p_ret F rfl (.cons (.tmp (F.ev rfl)) .nil) ?_
    exact ⟨rfl, M.ext⟩
end Go.Proofs.Ytilgoepokaaleaa
namespace Go.Proofs.Ytilgoepokaaleaa
set_option linter.unusedVariables false
set_option linter.unusedSimpArgs false
open Go.ChangeShapes Go.WideShapes Go.ChangeAt Go.RowKit
set_option maxRecDepth 100000 in
theorem updatesQuiet_contract (H : Type) (enc : TypeId × Value → H) (W : World) (base : Nat) (args : Array Value) (ds gs : List (DataW H)) (before : List MemPlace)
    (hval : ∀ (j : Nat) t v, Try.f6.params[j]? = some t → args[j]? = some v → Value.okWide Try.prog W .any base t v)
    (hW : DataW.Whole enc Try.prog Try.f6.params.toList Rows.updatesQuietSpec.vars false W args.toList ds gs before) (hL : laidMetH Try.prog seatLaid W) (hS : W.ShapedOpen Try.prog) :
    Calls Try.prog 6 args W fun e W' => ∃ v, e = .returned v ∧ Rows.updatesQuietSpec.post enc Try.prog Try.f6 false true false false W args v W' := by
  have hW' := hW
  obtain ⟨p, q, hA0, hV, rfl, hfz, hnd⟩ := hW
  have hA : DataW.TrodAll enc Try.prog W 0 (fun _ => true) true Try.f6.params.toList args.toList ds p := hA0
  rw [Try.params6] at hA hval
  obtain ⟨v0, vs0, d0, ds0, p0, q0, hargs, rfl, rfl, h0, r0⟩ := trodAll_cons hA
  obtain ⟨rfl, rfl, rfl⟩ := trodAll_nil r0
  obtain rfl : args = #[v0] := by cases args; simp_all
  obtain ⟨l0, q0p, cap0, rfl, hc0, hx0⟩ := open_il (hval 0 _ v0 rfl rfl) h0
  refine ((quietL_c q0p cap0 l0 W hx0 hc0).calls).mono ?_
  rintro e W' ⟨v, rfl, rfl, hE⟩
  exact ⟨_, rfl, law_post (tb := 4) laidOut (by kernel_rfl) rfl (by kernel_rfl) Try.underlying4 (fun xs hx => by rw [Try.params6] at hx; match xs, hx with | [_], _ => rfl) hW' hE⟩
set_option maxRecDepth 100000 in
theorem updatesQuiet_lifted (os : Os) (started : os.Started) (H : Type) (enc : TypeId × Value → H) (F : Stop.Interp) :
    ReturnsInHanded {} Try.checked os 6 .any ((OpenSpec.ofChange Rows.updatesQuietSpec).preRow enc Try.prog Try.f6 Rows.updatesQuietRow.domain false Rows.updatesQuietRow.laid) (((OpenSpec.ofChange Rows.updatesQuietSpec).at F).post enc Try.prog Try.f6 false true false false) := by
  have hx : ∃ places ds, DataW.whole enc Try.prog ((laidWorld os).forCall (fun _ _ => 0) ⟨#[], #[.slice none 0 0], []⟩).memory Try.f6.params.toList Rows.updatesQuietSpec.vars false #[Value.slice none 0 0].toList 8 = some (ds, [], places) ∧ ds = [.nil] := ⟨[], [.nil], by kernel_rfl, rfl⟩
  obtain ⟨places, ds, hx, rfl⟩ := hx
  refine returnsInHanded_of_row (C := Try.checked) (s := OpenSpec.ofChange Rows.updatesQuietSpec) own started (by kernel_rfl) Try.func6
    (witness_row_at (enc := enc) (C := Try.checked) false (laidWorld os) #[.slice none 0 0] rfl (by kernel_rfl) (by kernel_rfl) (by kernel_rfl)
      (OpenSpec.preRow_of_cond 8 hx (by kernel_rfl) (fun k hk => by cases hk) (by kernel_rfl) (laid_met os _))) ?_
  intro W base args ds gs before hval hW _ hcond _ hL hS _
  exact updatesQuiet_contract H enc W base args ds gs before hval hW hL hS
theorem updatesQuiet_said : Rows.UpdatesQuietSaid :=
  OpenClaim.holds_of_cond 6 Try.f6 rfl rfl rfl rfl rfl rfl rfl ⟨rfl, rfl, rfl, rfl, rfl⟩ rfl rfl rfl rfl rfl (by kernel_rfl) Try.func6 (by kernel_rfl)
    (of_decide_eq_true (by kernel_rfl)) (by unfold Func.isWrapper; first | (rw [if_pos (by decide +kernel)]; kernel_rfl) | (rw [if_neg (by decide +kernel)]; exact ⟨rfl, rfl⟩))
    (fun os started H enc _ F => by rw [OpenClaim.pre_eq_preRow]; exact updatesQuiet_lifted os started H enc F)
#print axioms updatesQuiet_said
end Go.Proofs.Ytilgoepokaaleaa

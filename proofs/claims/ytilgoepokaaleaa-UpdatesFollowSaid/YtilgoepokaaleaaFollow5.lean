/-
  PROVED: for every input UpdatesFollow answers true, and each argument reads afterwards as it read before.
-/
import Derived.Test.YtilgoepokaaleaaFollow4
/-! YJ -/
namespace Go.Proofs.Ytilgoepokaaleaa
set_option linter.unusedVariables false
set_option linter.unusedSimpArgs false
open Go.RowKit
attribute [local irreducible] OpTo wpListIn Code.wpIn MW Cal
set_option maxHeartbeats 8000000 in
theorem followL_c (pt : Option Addr) (cap : Nat) (xs0 : List Int) (W : World) (hI : IntsAt W (.slice pt xs0.length cap) xs0) (hcap : xs0.length ≤ cap) :
    Cal Try.prog 4 [.slice pt xs0.length cap].toArray W fun v w' => v = .bool true ∧ Ext [] W w' := by
  have hmem : 0 < xs0.length → ∃ b o cs t fz, pt = some ⟨b, o, none⟩ ∧ W.heap[b]? = some (.cells cs t fz) ∧ seg cs.toList o xs0.length = some (i64C xs0) := fun hl => by
    obtain ⟨p', cap', h1, _, h3⟩ := hI.ex
    cases h1
    exact h3 hl
  refine fn_ofM (n := 53) [] Try.func4 rfl rfl rfl ?_
  intro a w F M hwW
  with_reducible refine c_seq ?_
  with_reducible refine c_region ?_
  refine stepD rfl F rfl (o_assign (F.ev rfl) ?_); clear F; clear a; intro a F
  with_reducible refine l_nil ?_
  with_reducible refine q_then ?_
  with_reducible refine c_seq ?_
  with_reducible refine c_region ?_
  refine stepD rfl F rfl (o_move (F.ev rfl) ?_); clear F; clear a; intro a F
  (refine stepD rfl F rfl (o_call (F.ev rfl) (F.evs rfl) (Cal.mono (new_c xs0 _ (hI.later M.ext) hcap ) ?_)); clear F; clear a; rintro _ w ⟨bt, rfl, N⟩ a F; replace M := M.joins N; clear N)
  have hbt : W.heap.size ≤ bt := (M.own _ List.mem_cons_self).resolve_left (by simp)
  have hT : TapeS W bt pt (cut400 xs0).length (cut400 xs0) := tape_new (Ext.refl [] W) hbt hI.bd hmem
  generalize hxs : cut400 xs0 = xs at *
  generalize hlen : xs.length = len at *
  clear hxs hI hmem hcap
  simp only [List.cons_append, List.nil_append] at M
  refine stepD rfl F rfl (o_assign (F.ev rfl) ?_); clear F; clear a; intro a F
  with_reducible refine l_nil ?_
  with_reducible refine q_then ?_
  with_reducible refine c_seq ?_
  with_reducible refine c_region ?_
  (refine stepD rfl F rfl (o_alloc M ?_); clear F; clear M; intro b4 w M a F)
  with_reducible refine l_nil ?_
  with_reducible refine q_then ?_
  with_reducible refine c_seq ?_
  with_reducible refine c_region ?_
  refine stepD rfl F rfl (o_assign (F.ev rfl) ?_); clear F; clear a; intro a F
  with_reducible refine l_nil ?_
  with_reducible refine q_then ?_
  with_reducible refine c_seq ?_
  with_reducible refine c_region ?_
  refine stepD rfl F rfl (o_move (F.ev rfl) ?_); clear F; clear a; intro a F
  (refine stepD rfl F rfl (o_call (F.ev rfl) (F.evs rfl) (Cal.mono (adverts_c _ (hT.later M.ext.any) (M.heap (.there .here)) ) ?_)); clear F; clear a; have M0 := M; clear M; rintro _ w ⟨l, k2, el, hOl, il, hl7, vld, N⟩ a F)
  replace M := M0.turnJ N (.there .here)
  clear M0 N
  obtain ⟨pl, cl, rfl⟩ := hOl.slice
  refine stepD rfl F rfl (o_assign (F.ev rfl) ?_); clear F; clear a; intro a F
  with_reducible refine l_nil ?_
  with_reducible refine q_then ?_
  with_reducible refine c_seq ?_
  with_reducible refine c_region ?_
  refine stepD rfl F rfl (o_assign (F.ev rfl) ?_); clear F; clear a; intro a F
  with_reducible refine l_nil ?_
  with_reducible refine q_then ?_
  with_reducible refine c_seq ?_
  with_reducible refine c_seq ?_
  with_reducible refine c_region ?_
  refine stepD rfl F rfl (o_assign (F.ev rfl) ?_); clear F; clear a; intro a F
  with_reducible refine l_nil ?_
  with_reducible refine q_then ?_
  with_reducible refine c_block ?_
  have htb : ∀ x, 0 ≤ x → x < 2000 → isTime x = true := fun x h1 h2 => by
    unfold isTime
    rw [decide_eq_true h1, decide_eq_true (by omega)]
    rfl
  refine c_loop (fun m a w => ∃ (i k : Nat) (T l : List AdvV) (fl now : Int) (uT vk vl : Value) (eT ek el : List (Nat × Obj)), (m = 12 - i ∧ i ≤ 12 ∧ 0 ≤ now ∧ now ≤ 2 * i) ∧ (validAs T = true ∧ (∀ x ∈ T, IsAv x) ∧ T.length ≤ 7 ∧ OwnS 52 37 uT T.length (avsC T) eT) ∧ isTime fl = true ∧ OwnS 52 37 vk (finV T).length (avsC (finV T)) ek ∧ (validAs l = true ∧ (∀ x ∈ l, IsAv x) ∧ l.length ≤ 7 ∧ OwnS 52 37 vl l.length (avsC l) el) ∧ Frm a 53 [] [(8, .int .i64 (i : Int)), (7, .int .i64 now), (6, vl), (5, vk), (4, .pointer (some ⟨b4, 0, none⟩)), (3, .pointer (some ⟨bt, 0, none⟩))] ∧ Mem [] W w ((b4, .cells (plC uT fl).toArray 24 (0, 0)) :: (bt, tobj pt len cap k) :: (eT ++ (ek ++ el)))) 12 ⟨0, k2, [], l, 0, 0, .slice none 0 0, .slice none 0 0, .slice pl l.length cl, [], [], el, ⟨rfl, by omega, by omega, by omega⟩, ⟨rfl, by simp, by simp, OwnS.nil _ _⟩, rfl, OwnS.nil _ _, ⟨vld, il, hl7, hOl⟩, F.only [8, 7, 6, 5, 4, 3] rfl, M.perm (by classical exact List.perm_iff_count.2 fun _ => by simp only [List.count_append, List.count_cons, List.count_nil, Nat.add_zero, Nat.zero_add] <;> ac_rfl)⟩ ?_
  clear F M a hOl il hl7 vld
  clear pl cl l
  rintro m a w ⟨i, k, T, l, fl, now, uT, vk, vl, eT, ek, el, ⟨hm, hi, hn0, hn1⟩, ⟨vT, iT, hT7, hOT⟩, tfl, hOk, ⟨vld, il, hl7, hOl⟩, F, M⟩
  by_cases hlt : i < 12
  · obtain ⟨pl, cl, rfl⟩ := hOl.slice
    obtain ⟨pT, cT, rfl⟩ := hOT.slice
    obtain ⟨pk, ck, rfl⟩ := hOk.slice
    have tnow := htb now hn0 (by omega)
    with_reducible refine c_seq ?_
    with_reducible refine c_seq ?_
    with_reducible refine c_region ?_
    refine stepD rfl F rfl (o_move (F.ev rfl) ?_); clear F; clear a; intro a F
    refine stepD rfl F rfl (o_lssT (F.ev rfl) (F.ev rfl) (by omega) ?_); clear F; clear a; intro a F
    with_reducible refine l_nil ?_
    with_reducible refine q_then ?_
    refine c_true F rfl rfl ?_
    with_reducible refine c_skip ?_
    with_reducible refine q_then ?_
    with_reducible refine c_seq ?_
    with_reducible refine c_block ?_
    with_reducible refine c_seq ?_
    with_reducible refine c_region ?_
    refine stepD rfl F rfl (o_loadA M (F.ev rfl) (by repeat (first | exact .here | apply Has.there)) (by first | assumption | rfl) ?_); clear F; clear a; intro a F
    refine stepD rfl F rfl (o_move (F.ev rfl) ?_); clear F; clear a; intro a F
    refine stepD rfl F rfl (o_move (F.ev rfl) ?_); clear F; clear a; intro a F
    (refine stepD rfl F rfl (o_call (F.ev rfl) (F.evs (vs := [.agg (plC (.slice pT T.length cT) fl).toArray, .int .i64 now, .slice pl l.length cl]) rfl) (Cal.mono (udue_c T l iT il _ _ fl now _ (hOT.slAt M (fun q hq => by simp [hq])) (hOl.slAt M (fun q hq => by simp [hq]))) ?_)); clear F; clear a; rintro _ w ⟨u, s, eu, es, rfl, hO1, hO2, N⟩ a F; replace M := M.joins N; clear N)
    rw [due_eq vT tfl vld tnow] at F hO1 hO2
    dsimp only at F hO1 hO2
    have tfl2 : isTime (if decide (fl ≤ now) then laterV now 3 else fl) = true := by
      split
      · exact laterV_time tnow (by omega)
      · exact tfl
    have hsi := mrg_is (full := decide (fl ≤ now)) vT vld iT il
    have hsl := mrg_len (decide (fl ≤ now)) l T
    have ham := app_mrg (full := decide (fl ≤ now)) (validAs_asc vT) (validAs_asc vld) (fun x h => (iT x h).1) (fun x h => (il x h).1)
    generalize mrg (decide (fl ≤ now)) l T = S at *
    generalize (if decide (fl ≤ now) then laterV now 3 else fl) = fl2 at *
    generalize (S.any fun a => decide (a.own.met = inf)) = ub at *
    obtain ⟨p1, c1, rfl⟩ := hO1.slice
    obtain ⟨p2, c2, rfl⟩ := hO2.slice
    refine stepD rfl F rfl (o_move (F.ev rfl) ?_); clear F; clear a; intro a F
    refine stepD rfl F rfl (o_extract (F.ev rfl) rfl ?_); clear F; clear a; intro a F
    refine stepD rfl F rfl (o_extract (F.ev rfl) rfl ?_); clear F; clear a; intro a F
    refine stepD rfl F rfl (o_extract (F.ev rfl) rfl ?_); clear F; clear a; intro a F
    refine stepD rfl F rfl (o_extract (F.ev rfl) rfl ?_); clear F; clear a; intro a F
    (refine stepD rfl F rfl (o_alloc M ?_); clear F; clear M; intro b9 w M a F)
    (refine stepN rfl F (o_storeA M (F.ev rfl) (F.ev rfl) (by rfl) (by rfl) (by repeat (first | exact .here | apply Has.there)) (by rfl) (by repeat (first | exact .here | apply Upd.there)) ?_); clear F; clear M; intro w M a F)
    refine stepD rfl F rfl (o_assign (F.ev rfl) ?_); clear F; clear a; intro a F
    refine stepD rfl F rfl (o_assign (F.ev rfl) ?_); clear F; clear a; intro a F
    refine stepD rfl F rfl (o_assign (F.ev rfl) ?_); clear F; clear a; intro a F
    with_reducible refine l_nil ?_
    with_reducible refine q_then ?_
    with_reducible refine c_seq ?_
    with_reducible refine c_seq ?_
    with_reducible refine c_region ?_
    refine stepD rfl F rfl (o_move (F.ev rfl) ?_); clear F; clear a; intro a F
    refine stepD rfl F rfl (o_neqF (F.ev rfl) (F.ev rfl) (by omega) ?_); clear F; clear a; intro a F
    with_reducible refine l_nil ?_
    with_reducible refine q_then ?_
    refine c_false F rfl rfl ?_
    with_reducible refine c_skip ?_
    with_reducible refine q_then ?_
    with_reducible refine c_seq ?_
    with_reducible refine c_region ?_
    refine stepD rfl F rfl (o_move (F.ev rfl) ?_); clear F; clear a; intro a F
    refine stepD rfl F rfl (o_move (F.ev rfl) ?_); clear F; clear a; intro a F
    have hfT : (finV T).length ≤ T.length := List.length_filter_le _ _
    (refine stepD rfl F rfl (o_call (F.ev rfl) (F.evs rfl) (Cal.mono (apply_c (finV T) S (fun x hx => iT x (mem_fin.1 hx).1) hsi (by omega) (by omega) _ _ _ (hOk.slAt M (fun q hq => by simp [hq])) (hO2.slAt M (fun q hq => by simp [hq])) ) ?_)); clear F; clear a; rintro _ w ⟨ek2, hOk2, N⟩ a F; replace M := M.joins N; clear N)
    rw [ham] at hOk2
    obtain ⟨pk2, ck2, rfl⟩ := hOk2.slice
    refine stepD rfl F rfl (o_assign (F.ev rfl) ?_); clear F; clear a; intro a F
    with_reducible refine l_nil ?_
    with_reducible refine q_then ?_
    with_reducible refine c_seq ?_
    with_reducible refine c_seq ?_
    with_reducible refine c_region ?_
    refine stepD rfl F rfl (o_move (F.ev rfl) ?_); clear F; clear a; intro a F
    refine stepD rfl F rfl (o_move (F.ev rfl) ?_); clear F; clear a; intro a F
    (refine stepD rfl F rfl (o_call (F.ev rfl) (F.evs rfl) (Cal.mono (finite_c l il (by omega) _ _ (hOl.slAt M (fun q hq => by simp [hq])) ) ?_)); clear F; clear a; rintro _ w ⟨ef, hOf, N⟩ a F; replace M := M.joins N; clear N)
    obtain ⟨pf, cf, rfl⟩ := hOf.slice
    have hfl : (finV l).length ≤ l.length := List.length_filter_le _ _
    skip
    (refine stepD rfl F rfl (o_call (F.ev rfl) (F.evs rfl) (Cal.mono (equalA_c (finV l) (fun x hx => il x (mem_fin.1 hx).1) (by omega) _ _ _ (hOk2.slAt M (fun q hq => by simp [hq])) (hOf.slAt M (fun q hq => by simp [hq]))) ?_)); clear F; clear a; rintro _ w ⟨rfl, hE⟩ a F; replace M := M.later hE; clear hE)
    replace M := (M.perm (l' := ((b9, .cells (plC (.slice p1 l.length c1) fl2).toArray 24 (0, 0)) :: (b4, .cells (plC (.slice pT T.length cT) fl).toArray 24 (0, 0)) :: (bt, tobj pt len cap k) :: (ek2 ++ (eu ++ el))) ++ (ef ++ (es ++ (eT ++ ek)))) (by classical exact List.perm_iff_count.2 fun _ => by simp only [List.count_append, List.count_cons, List.count_nil, Nat.add_zero, Nat.zero_add] <;> ac_rfl)).sub (List.sublist_append_left _ _)
    refine stepD rfl F rfl (o_not (F.ev rfl) ?_); clear F; clear a; intro a F
    with_reducible refine l_nil ?_
    with_reducible refine q_then ?_
    refine c_false F rfl rfl ?_
    with_reducible refine c_skip ?_
    with_reducible refine q_then ?_
    with_reducible refine c_seq ?_
    with_reducible refine c_region ?_
    refine stepD rfl F rfl (o_loadA M (F.ev rfl) (by repeat (first | exact .here | apply Has.there)) (by first | assumption | rfl) ?_); clear F; clear a; intro a F
    (refine stepN rfl F (o_storeA M (F.ev rfl) (F.ev rfl) (by rfl) (by rfl) (by repeat (first | exact .here | apply Has.there)) (by rfl) (by repeat (first | exact .here | apply Upd.there)) ?_); clear F; clear M; intro w M a F)
    with_reducible refine l_nil ?_
    with_reducible refine q_then ?_
    with_reducible refine c_seq ?_
    with_reducible refine c_seq ?_
    with_reducible refine c_region ?_
    refine stepD rfl F rfl (o_move (F.ev rfl) ?_); clear F; clear a; intro a F
    (refine stepD rfl F rfl (o_call (F.ev rfl) (F.evs rfl) (Cal.mono (boolE_c 4 (by omega) (by omega) _ (hT.later M.ext.any) (M.heap (.there (.there .here))) ) ?_)); clear F; clear a; have M0 := M; clear M; rintro _ w ⟨c, k5, rfl, N⟩ a F)
    replace M := M0.turn1 N (.there (.there .here))
    clear M0 N
    cases c
    · with_reducible refine l_nil ?_
      with_reducible refine q_then ?_
      refine c_false F rfl rfl ?_
      with_reducible refine c_region ?_
      refine stepD rfl F rfl (o_move (F.ev rfl) ?_); clear F; clear a; intro a F
      refine stepD rfl F rfl (o_move (F.ev rfl) ?_); clear F; clear a; intro a F
      have hnd := nd_not (M.perm (l' := (bt, tobj pt len cap k5) :: ((b9, .cells (plC (.slice p1 l.length c1) fl2).toArray 24 (0, 0)) :: (b4, .cells (plC (.slice p1 l.length c1) fl2).toArray 24 (0, 0)) :: (ek2 ++ (eu ++ el)))) (by classical exact List.perm_iff_count.2 fun _ => by simp only [List.count_append, List.count_cons, List.count_nil, Nat.add_zero, Nat.zero_add] <;> ac_rfl)).nd (ent := el) (fun q hq => by simp [hq])
      (refine stepD rfl F rfl (o_call (F.ev rfl) (F.evs rfl) (Cal.mono (vary_c l il (by omega) _ _ (hOl.slAt M (fun q hq => by simp [hq])) (hOl.notB hnd) (hT.later M.ext.any) (M.heap (.there (.there .here))) ) ?_)); clear F; clear a; have M0 := M; clear M; rintro _ w ⟨l2, k6, el2, hOl2, il2, hl27, vl2, N⟩ a F)
      replace M := M0.turnJ N (.there (.there .here))
      clear M0 N
      obtain ⟨pl2, cl2, rfl⟩ := hOl2.slice
      replace M := (M.perm (l' := ((b4, .cells (plC (.slice p1 l.length c1) fl2).toArray 24 (0, 0)) :: (bt, tobj pt len cap k6) :: (eu ++ (ek2 ++ el2))) ++ ((b9, .cells (plC (.slice p1 l.length c1) fl2).toArray 24 (0, 0)) :: el)) (by classical exact List.perm_iff_count.2 fun _ => by simp only [List.count_append, List.count_cons, List.count_nil, Nat.add_zero, Nat.zero_add] <;> ac_rfl)).sub (List.sublist_append_left _ _)
      refine stepD rfl F rfl (o_assign (F.ev rfl) ?_); clear F; clear a; intro a F
      with_reducible refine l_nil ?_
      with_reducible refine q_then ?_
      with_reducible refine c_region ?_
      refine stepD rfl F rfl (o_move (F.ev rfl) ?_); clear F; clear a; intro a F
      refine stepD rfl F rfl (o_move (F.ev rfl) ?_); clear F; clear a; intro a F
      (refine stepD rfl F rfl (o_call (F.ev rfl) (F.evs rfl) (Cal.mono (nextE_c 3 (by omega) (by omega) _ (hT.later M.ext.any) (M.heap (.there .here)) ) ?_)); clear F; clear a; have M0 := M; clear M; rintro _ w ⟨z, k7, rfl, hz, N⟩ a F)
      replace M := M0.turn1 N (.there .here)
      clear M0 N
      refine stepD rfl F rfl (o_add (F.ev rfl) (F.ev rfl) (w_i64 (by omega) (by omega)) ?_); clear F; clear a; intro a F
      refine stepD rfl F rfl (o_assign (F.ev rfl) ?_); clear F; clear a; intro a F
      with_reducible refine l_nil ?_
      with_reducible refine q_inB ?_
      with_reducible refine q_then ?_
      with_reducible refine c_region ?_
      refine stepD rfl F rfl (o_move (F.ev rfl) ?_); clear F; clear a; intro a F
      refine stepD rfl F rfl (o_add (F.ev rfl) (F.ev rfl) (w_i64 (by omega) (by omega)) ?_); clear F; clear a; intro a F
      refine stepD rfl F rfl (o_assign (F.ev rfl) ?_); clear F; clear a; intro a F
      with_reducible refine l_nil ?_
      with_reducible refine q_then ?_
      exact ⟨_, by omega, i + 1, k7, l, l2, fl2, now + z, _, _, _, eu, ek2, el2, ⟨rfl, by omega, by omega, by omega⟩, ⟨vld, il, hl7, hO1⟩, tfl2, hOk2, ⟨vl2 vld, il2, by omega, hOl2⟩, F.only [8, 7, 6, 5, 4, 3] rfl, M⟩
    · with_reducible refine l_nil ?_
      with_reducible refine q_then ?_
      refine c_true F rfl rfl ?_
      with_reducible refine c_region ?_
      refine stepD rfl F rfl (o_move (F.ev rfl) ?_); clear F; clear a; intro a F
      (refine stepD rfl F rfl (o_call (F.ev rfl) (F.evs rfl) (Cal.mono (adverts_c _ (hT.later M.ext.any) (M.heap (.there (.there .here))) ) ?_)); clear F; clear a; have M0 := M; clear M; rintro _ w ⟨l2, k6, el2, hOl2, il2, hl27, vl2, N⟩ a F)
      replace M := M0.turnJ N (.there (.there .here))
      clear M0 N
      obtain ⟨pl2, cl2, rfl⟩ := hOl2.slice
      replace M := (M.perm (l' := ((b4, .cells (plC (.slice p1 l.length c1) fl2).toArray 24 (0, 0)) :: (bt, tobj pt len cap k6) :: (eu ++ (ek2 ++ el2))) ++ ((b9, .cells (plC (.slice p1 l.length c1) fl2).toArray 24 (0, 0)) :: el)) (by classical exact List.perm_iff_count.2 fun _ => by simp only [List.count_append, List.count_cons, List.count_nil, Nat.add_zero, Nat.zero_add] <;> ac_rfl)).sub (List.sublist_append_left _ _)
      refine stepD rfl F rfl (o_assign (F.ev rfl) ?_); clear F; clear a; intro a F
      with_reducible refine l_nil ?_
      with_reducible refine q_then ?_
      with_reducible refine c_region ?_
      refine stepD rfl F rfl (o_move (F.ev rfl) ?_); clear F; clear a; intro a F
      refine stepD rfl F rfl (o_move (F.ev rfl) ?_); clear F; clear a; intro a F
      (refine stepD rfl F rfl (o_call (F.ev rfl) (F.evs rfl) (Cal.mono (nextE_c 3 (by omega) (by omega) _ (hT.later M.ext.any) (M.heap (.there .here)) ) ?_)); clear F; clear a; have M0 := M; clear M; rintro _ w ⟨z, k7, rfl, hz, N⟩ a F)
      replace M := M0.turn1 N (.there .here)
      clear M0 N
      refine stepD rfl F rfl (o_add (F.ev rfl) (F.ev rfl) (w_i64 (by omega) (by omega)) ?_); clear F; clear a; intro a F
      refine stepD rfl F rfl (o_assign (F.ev rfl) ?_); clear F; clear a; intro a F
      with_reducible refine l_nil ?_
      with_reducible refine q_inB ?_
      with_reducible refine q_then ?_
      with_reducible refine c_region ?_
      refine stepD rfl F rfl (o_move (F.ev rfl) ?_); clear F; clear a; intro a F
      refine stepD rfl F rfl (o_add (F.ev rfl) (F.ev rfl) (w_i64 (by omega) (by omega)) ?_); clear F; clear a; intro a F
      refine stepD rfl F rfl (o_assign (F.ev rfl) ?_); clear F; clear a; intro a F
      with_reducible refine l_nil ?_
      with_reducible refine q_then ?_
      exact ⟨_, by omega, i + 1, k7, l, l2, fl2, now + z, _, _, _, eu, ek2, el2, ⟨rfl, by omega, by omega, by omega⟩, ⟨vld, il, hl7, hO1⟩, tfl2, hOk2, ⟨vl2, il2, hl27, hOl2⟩, F.only [8, 7, 6, 5, 4, 3] rfl, M⟩
  · with_reducible refine c_seq ?_
    with_reducible refine c_seq ?_
    with_reducible refine c_region ?_
    refine stepD rfl F rfl (o_move (F.ev rfl) ?_); clear F; clear a; intro a F
    refine stepD rfl F rfl (o_lssF (F.ev rfl) (F.ev rfl) (by omega) ?_); clear F; clear a; intro a F
    with_reducible refine l_nil ?_
    with_reducible refine q_then ?_
    refine c_false F rfl rfl ?_
    with_reducible refine c_exit ?_
    with_reducible refine q_thenX ?_
    with_reducible refine q_thenX ?_
    with_reducible refine q_inBX ?_
    with_reducible refine q_then ?_
    with_reducible refine c_seq ?_
    with_reducible refine c_region ?_
    (refine stepD rfl F rfl (o_call (F.ev rfl) (F.evs rfl) (Cal.mono (known_c _) ?_)); clear F; clear a; rintro _ w ⟨rfl, hE⟩ a F; replace M := M.later hE; clear hE)
    refine stepD rfl F rfl (o_assign (F.ev rfl) ?_); clear F; clear a; intro a F
    with_reducible refine l_nil ?_
    with_reducible refine q_then ?_
    with_reducible refine c_ret ?_
    refine p_ret F rfl (.cons (.tmp (F.ev rfl)) .nil) ?_
    exact ⟨rfl, M.ext⟩
end Go.Proofs.Ytilgoepokaaleaa
namespace Go.Proofs.Ytilgoepokaaleaa
set_option linter.unusedVariables false
set_option linter.unusedSimpArgs false
open Go.ChangeShapes Go.WideShapes Go.ChangeAt Go.RowKit
set_option maxRecDepth 100000 in
theorem updatesFollow_contract (H : Type) (enc : TypeId × Value → H) (W : World) (base : Nat) (args : Array Value) (ds gs : List (DataW H)) (before : List MemPlace)
    (hval : ∀ (j : Nat) t v, Try.f4.params[j]? = some t → args[j]? = some v → Value.okWide Try.prog W .any base t v)
    (hW : DataW.Whole enc Try.prog Try.f4.params.toList Rows.updatesFollowSpec.vars false W args.toList ds gs before) (hL : laidMetH Try.prog seatLaid W) (hS : W.ShapedOpen Try.prog) :
    Calls Try.prog 4 args W fun e W' => ∃ v, e = .returned v ∧ Rows.updatesFollowSpec.post enc Try.prog Try.f4 false true false false W args v W' := by
  have hW' := hW
  obtain ⟨p, q, hA0, hV, rfl, hfz, hnd⟩ := hW
  have hA : DataW.TrodAll enc Try.prog W 0 (fun _ => true) true Try.f4.params.toList args.toList ds p := hA0
  rw [Try.params4] at hA hval
  obtain ⟨v0, vs0, d0, ds0, p0, q0, hargs, rfl, rfl, h0, r0⟩ := trodAll_cons hA
  obtain ⟨rfl, rfl, rfl⟩ := trodAll_nil r0
  obtain rfl : args = #[v0] := by cases args; simp_all
  obtain ⟨l0, q0p, cap0, rfl, hc0, hx0⟩ := open_il (hval 0 _ v0 rfl rfl) h0
  refine ((followL_c q0p cap0 l0 W hx0 hc0).calls).mono ?_
  rintro e W' ⟨v, rfl, rfl, hE⟩
  exact ⟨_, rfl, law_post (tb := 4) laidOut (by kernel_rfl) rfl (by kernel_rfl) Try.underlying4 (fun xs hx => by rw [Try.params4] at hx; match xs, hx with | [_], _ => rfl) hW' hE⟩
set_option maxRecDepth 100000 in
theorem updatesFollow_lifted (os : Os) (started : os.Started) (H : Type) (enc : TypeId × Value → H) (F : Stop.Interp) :
    ReturnsInHanded {} Try.checked os 4 .any ((OpenSpec.ofChange Rows.updatesFollowSpec).preRow enc Try.prog Try.f4 Rows.updatesFollowRow.domain false Rows.updatesFollowRow.laid) (((OpenSpec.ofChange Rows.updatesFollowSpec).at F).post enc Try.prog Try.f4 false true false false) := by
  have hx : ∃ places ds, DataW.whole enc Try.prog ((laidWorld os).forCall (fun _ _ => 0) ⟨#[], #[.slice none 0 0], []⟩).memory Try.f4.params.toList Rows.updatesFollowSpec.vars false #[Value.slice none 0 0].toList 8 = some (ds, [], places) ∧ ds = [.nil] := ⟨[], [.nil], by kernel_rfl, rfl⟩
  obtain ⟨places, ds, hx, rfl⟩ := hx
  refine returnsInHanded_of_row (C := Try.checked) (s := OpenSpec.ofChange Rows.updatesFollowSpec) own started (by kernel_rfl) Try.func4
    (witness_row_at (enc := enc) (C := Try.checked) false (laidWorld os) #[.slice none 0 0] rfl (by kernel_rfl) (by kernel_rfl) (by kernel_rfl)
      (OpenSpec.preRow_of_cond 8 hx (by kernel_rfl) (fun k hk => by cases hk) (by kernel_rfl) (laid_met os _))) ?_
  intro W base args ds gs before hval hW _ hcond _ hL hS _
  exact updatesFollow_contract H enc W base args ds gs before hval hW hL hS
theorem updatesFollow_said : Rows.UpdatesFollowSaid :=
  OpenClaim.holds_of_cond 4 Try.f4 rfl rfl rfl rfl rfl rfl rfl ⟨rfl, rfl, rfl, rfl, rfl⟩ rfl rfl rfl rfl rfl (by kernel_rfl) Try.func4 (by kernel_rfl)
    (of_decide_eq_true (by kernel_rfl)) (by unfold Func.isWrapper; first | (rw [if_pos (by decide +kernel)]; kernel_rfl) | (rw [if_neg (by decide +kernel)]; exact ⟨rfl, rfl⟩))
    (fun os started H enc _ F => by rw [OpenClaim.pre_eq_preRow]; exact updatesFollow_lifted os started H enc F)
#print axioms updatesFollow_said
end Go.Proofs.Ytilgoepokaaleaa

/-
  PROVED: for every input UpdatesForms answers true, and each argument reads afterwards as it read before.
-/
import Derived.Test.YtilgoepokaaleaaForms4
/-! Y9 -/
namespace Go.Proofs.Ytilgoepokaaleaa
set_option linter.unusedVariables false
set_option linter.unusedSimpArgs false
open Go.RowKit
attribute [local irreducible] OpTo wpListIn Code.wpIn MW Cal
theorem lk_own {T : List AdvV} (h : AscA T) (t : DstV) : (getA t (mapV (mapD T))).getD (diV di0) = diV ((getO T t).getD di0) := by
  rw [getA_mapV, getA_mapD h]
  cases getO T t <;> rfl
theorem lk_is {T : List AdvV} (h : AscA T) (t : DstV) : (getA t (mapV (mapD T))).isSome = (getO T t).isSome := by
  rw [getA_mapV, getA_mapD h]
  cases getO T t <;> rfl
theorem MapIn.mk {κ : Type} {w : World} {kv : κ → Value} {b : Nat} {o : Obj} {m : List (κ × Value)} (h : w.heap[b]? = some o) (hA : MapAt kv m o) : MapIn w kv (.map (some b)) m := ⟨b, o, rfl, h, hA⟩
theorem zero_di : zeroIs Try.prog 50 (diV di0) := by
  unfold zeroIs
  kernel_rfl
theorem sentG_nodup {full : Bool} {T l : List AdvV} (hl : AscA l) (hT : AscA T) : ((sentG full T l).map (·.to)).Nodup := by
  have key : ∀ {l : List AdvV}, AscA l → (l.map (·.to)).Nodup := by
    intro l h
    rw [List.Nodup, List.pairwise_map]
    exact List.Pairwise.imp (fun {a b} h2 e => by rw [e, cmpD_self] at h2; omega) h
  unfold sentG
  rw [List.map_append, List.nodup_append]
  refine ⟨key (AscK.filter hl _), ?_, ?_⟩
  · rw [List.map_map]
    exact key (AscK.filter hT _)
  · rintro d hd e he rfl
    obtain ⟨x, hx, rfl⟩ := List.mem_map.1 hd
    obtain ⟨y', hy', e1⟩ := List.mem_map.1 he
    obtain ⟨y, hy, rfl⟩ := List.mem_map.1 hy'
    have h1 := (List.mem_filter.1 hx).1
    have h2 := (List.mem_filter.1 hy).2
    unfold dropG at h2
    have h3 := getO_mem hl h1
    rw [← e1] at h3
    change getO l y.to = _ at h3
    rw [h3] at h2
    simp at h2
theorem sentG_len (full : Bool) (T l : List AdvV) : (sentG full T l).length ≤ l.length + T.length := by
  unfold sentG
  rw [List.length_append, List.length_map]
  have h1 := List.length_filter_le (keepG full T) l
  have h2 := List.length_filter_le (dropG l) T
  omega
theorem mem_sentG {full : Bool} {T l : List AdvV} {x : AdvV} : x ∈ sentG full T l ↔ (x ∈ l ∧ keepG full T x = true) ∨ ∃ y ∈ T, dropG l y = true ∧ x = retr y := by
  unfold sentG
  simp only [List.mem_append, List.mem_filter, List.mem_map]
  constructor
  · rintro (h | ⟨y, h, rfl⟩)
    · exact .inl h
    · exact .inr ⟨y, h.1, h.2, rfl⟩
  · rintro (h | ⟨y, h1, h2, rfl⟩)
    · exact .inl h
    · exact .inr ⟨y, ⟨h1, h2⟩, rfl⟩
set_option maxHeartbeats 8000000 in
theorem udue_c (T l : List AdvV) (iT : ∀ x ∈ T, IsAv x) (il : ∀ x ∈ l, IsAv x) (vt vl : Value) (fl now : Int) (W : World) (hST : SlAt W 37 vt T.length (avsC T)) (hSl : SlAt W 37 vl l.length (avsC l)) :
    Cal Try.prog 17 [.agg (plC vt fl).toArray, .int .i64 now, vl].toArray W fun r w' => DueP (dueV T fl now l) r w' W := by
  have k0 := uvalid_c T iT vt fl
  have k1 := uvalidAs_c l il vl
  have h1 := hST.one
  unfold plC at *
  cases c1 : validAs T && isTime fl
  · have hD : dueV T fl now l = ⟨[], 0, [], false, 1⟩ := by unfold dueV; rw [c1]; rfl
    rw [hD]
    refine fn_ofM (n := 130) [] Try.func17 rfl rfl rfl ?_
    intro a w F M hwW
    refine c_seq ?_
    refine c_region ?_
    (refine stepD rfl F rfl (o_box M (F.ev rfl) rfl ?_); clear F; clear M; intro b3 w M a F)
    (refine stepD rfl F rfl (o_alloc M ?_); clear F; clear M; intro b6 w M a F)
    refine stepD rfl F rfl (o_assign (F.ev rfl) ?_); clear F; clear a; intro a F
    refine stepD rfl F rfl (o_assign (F.ev rfl) ?_); clear F; clear a; intro a F
    refine stepD rfl F rfl (o_assign (F.ev rfl) ?_); clear F; clear a; intro a F
    with_reducible refine l_nil ?_
    with_reducible refine q_then ?_
    with_reducible refine c_seq ?_
    with_reducible refine c_seq ?_
    with_reducible refine c_region ?_
    refine stepD rfl F rfl (o_loadA M (F.ev rfl) (by repeat (first | exact .here | apply Has.there)) (by first | assumption | rfl) ?_); clear F; clear a; intro a F
    (refine stepD rfl F rfl (o_call (F.ev rfl) (F.evs rfl) (Cal.mono (k0 _ (hST.later M.ext)) ?_)); clear F; clear a; rintro _ w ⟨rfl, hE⟩ a F; replace M := M.later hE; clear hE)
    rw [c1] at F
    refine stepD rfl F rfl (o_not (F.ev rfl) ?_); clear F; clear a; intro a F
    refine stepD rfl F rfl (o_move (F.ev rfl) ?_); clear F; clear a; intro a F
    refine stepOff F rfl rfl rfl rfl ?_; clear F; clear a; intro a F
    refine stepOff F rfl rfl rfl rfl ?_; clear F; clear a; intro a F
    refine stepOff F rfl rfl rfl rfl ?_; clear F; clear a; intro a F
    refine stepD rfl F rfl (o_pickT (F.ev rfl) (F.ev rfl) ?_); clear F; clear a; intro a F
    with_reducible refine l_nil ?_
    with_reducible refine q_then ?_
    refine c_true F rfl rfl ?_
    with_reducible refine c_seq ?_
    with_reducible refine c_region ?_
    refine stepD rfl F rfl (o_build F rfl rfl ?_); clear F; clear a; intro a F
    (refine stepN rfl F (o_storeA M (F.ev rfl) (F.ev rfl) (by rfl) (by rfl) (by repeat (first | exact .here | apply Has.there)) (by rfl) (by repeat (first | exact .here | apply Upd.there)) ?_); clear F; clear M; intro w M a F)
    refine stepD rfl F rfl (o_assign (F.ev rfl) ?_); clear F; clear a; intro a F
    refine stepD rfl F rfl (o_assign (F.ev rfl) ?_); clear F; clear a; intro a F
    refine stepD rfl F rfl (o_assign (F.ev rfl) ?_); clear F; clear a; intro a F
    with_reducible refine l_nil ?_
    with_reducible refine q_then ?_
    with_reducible refine c_ret ?_
    with_reducible refine q_thenR ?_
    exact p_ret F rfl (.cons (.cell (F.ev rfl) (run_loadVar_agg TAgg.h (M.heap (by repeat (first | exact .here | apply Has.there))) rfl)) (.cons (.tmp (F.ev rfl)) (.cons (.tmp (F.ev rfl)) (.cons (.tmp (F.ev rfl)) .nil)))) ⟨_, _, [], [], rfl, zeroPl, zeroPl, M.sub (by simp)⟩
  cases c2 : validAs l
  · have hD : dueV T fl now l = ⟨[], 0, [], false, 1⟩ := by unfold dueV; rw [c1, c2]; rfl
    rw [hD]
    refine fn_ofM (n := 130) [] Try.func17 rfl rfl rfl ?_
    intro a w F M hwW
    refine c_seq ?_
    refine c_region ?_
    (refine stepD rfl F rfl (o_box M (F.ev rfl) rfl ?_); clear F; clear M; intro b3 w M a F)
    (refine stepD rfl F rfl (o_alloc M ?_); clear F; clear M; intro b6 w M a F)
    refine stepD rfl F rfl (o_assign (F.ev rfl) ?_); clear F; clear a; intro a F
    refine stepD rfl F rfl (o_assign (F.ev rfl) ?_); clear F; clear a; intro a F
    refine stepD rfl F rfl (o_assign (F.ev rfl) ?_); clear F; clear a; intro a F
    with_reducible refine l_nil ?_
    with_reducible refine q_then ?_
    with_reducible refine c_seq ?_
    with_reducible refine c_seq ?_
    with_reducible refine c_region ?_
    refine stepD rfl F rfl (o_loadA M (F.ev rfl) (by repeat (first | exact .here | apply Has.there)) (by first | assumption | rfl) ?_); clear F; clear a; intro a F
    (refine stepD rfl F rfl (o_call (F.ev rfl) (F.evs rfl) (Cal.mono (k0 _ (hST.later M.ext)) ?_)); clear F; clear a; rintro _ w ⟨rfl, hE⟩ a F; replace M := M.later hE; clear hE)
    rw [c1] at F
    refine stepD rfl F rfl (o_not (F.ev rfl) ?_); clear F; clear a; intro a F
    refine stepD rfl F rfl (o_move (F.ev rfl) ?_); clear F; clear a; intro a F
    refine stepG rfl F rfl rfl rfl (o_move (F.ev rfl) ?_); clear F; clear a; intro a F
    (refine stepG rfl F rfl rfl rfl (o_call (F.ev rfl) (F.evs rfl) (Cal.mono (k1 _ (hSl.later M.ext)) ?_)); clear F; clear a; rintro _ w ⟨rfl, hE⟩ a F; replace M := M.later hE; clear hE)
    rw [c2] at F
    refine stepG rfl F rfl rfl rfl (o_not (F.ev rfl) ?_); clear F; clear a; intro a F
    refine stepD rfl F rfl (o_pickF (F.ev rfl) (F.ev rfl) ?_); clear F; clear a; intro a F
    with_reducible refine l_nil ?_
    with_reducible refine q_then ?_
    refine c_true F rfl rfl ?_
    with_reducible refine c_seq ?_
    with_reducible refine c_region ?_
    refine stepD rfl F rfl (o_build F rfl rfl ?_); clear F; clear a; intro a F
    (refine stepN rfl F (o_storeA M (F.ev rfl) (F.ev rfl) (by rfl) (by rfl) (by repeat (first | exact .here | apply Has.there)) (by rfl) (by repeat (first | exact .here | apply Upd.there)) ?_); clear F; clear M; intro w M a F)
    refine stepD rfl F rfl (o_assign (F.ev rfl) ?_); clear F; clear a; intro a F
    refine stepD rfl F rfl (o_assign (F.ev rfl) ?_); clear F; clear a; intro a F
    refine stepD rfl F rfl (o_assign (F.ev rfl) ?_); clear F; clear a; intro a F
    with_reducible refine l_nil ?_
    with_reducible refine q_then ?_
    with_reducible refine c_ret ?_
    with_reducible refine q_thenR ?_
    exact p_ret F rfl (.cons (.cell (F.ev rfl) (run_loadVar_agg TAgg.h (M.heap (by repeat (first | exact .here | apply Has.there))) rfl)) (.cons (.tmp (F.ev rfl)) (.cons (.tmp (F.ev rfl)) (.cons (.tmp (F.ev rfl)) .nil)))) ⟨_, _, [], [], rfl, zeroPl, zeroPl, M.sub (by simp)⟩
  cases c3 : isTime now
  · have hD : dueV T fl now l = ⟨[], 0, [], false, 2⟩ := by unfold dueV; rw [c1, c2, c3]; rfl
    rw [hD]
    refine fn_ofM (n := 130) [] Try.func17 rfl rfl rfl ?_
    intro a w F M hwW
    refine c_seq ?_
    refine c_region ?_
    (refine stepD rfl F rfl (o_box M (F.ev rfl) rfl ?_); clear F; clear M; intro b3 w M a F)
    (refine stepD rfl F rfl (o_alloc M ?_); clear F; clear M; intro b6 w M a F)
    refine stepD rfl F rfl (o_assign (F.ev rfl) ?_); clear F; clear a; intro a F
    refine stepD rfl F rfl (o_assign (F.ev rfl) ?_); clear F; clear a; intro a F
    refine stepD rfl F rfl (o_assign (F.ev rfl) ?_); clear F; clear a; intro a F
    with_reducible refine l_nil ?_
    with_reducible refine q_then ?_
    with_reducible refine c_seq ?_
    with_reducible refine c_seq ?_
    with_reducible refine c_region ?_
    refine stepD rfl F rfl (o_loadA M (F.ev rfl) (by repeat (first | exact .here | apply Has.there)) (by first | assumption | rfl) ?_); clear F; clear a; intro a F
    (refine stepD rfl F rfl (o_call (F.ev rfl) (F.evs rfl) (Cal.mono (k0 _ (hST.later M.ext)) ?_)); clear F; clear a; rintro _ w ⟨rfl, hE⟩ a F; replace M := M.later hE; clear hE)
    rw [c1] at F
    refine stepD rfl F rfl (o_not (F.ev rfl) ?_); clear F; clear a; intro a F
    refine stepD rfl F rfl (o_move (F.ev rfl) ?_); clear F; clear a; intro a F
    refine stepG rfl F rfl rfl rfl (o_move (F.ev rfl) ?_); clear F; clear a; intro a F
    (refine stepG rfl F rfl rfl rfl (o_call (F.ev rfl) (F.evs rfl) (Cal.mono (k1 _ (hSl.later M.ext)) ?_)); clear F; clear a; rintro _ w ⟨rfl, hE⟩ a F; replace M := M.later hE; clear hE)
    rw [c2] at F
    refine stepG rfl F rfl rfl rfl (o_not (F.ev rfl) ?_); clear F; clear a; intro a F
    refine stepD rfl F rfl (o_pickF (F.ev rfl) (F.ev rfl) ?_); clear F; clear a; intro a F
    with_reducible refine l_nil ?_
    with_reducible refine q_then ?_
    refine c_false F rfl rfl ?_
    with_reducible refine c_skip ?_
    with_reducible refine q_then ?_
    with_reducible refine c_seq ?_
    with_reducible refine c_seq ?_
    with_reducible refine c_region ?_
    refine stepD rfl F rfl (o_move (F.ev rfl) ?_); clear F; clear a; intro a F
    (refine stepD rfl F rfl (o_call (F.ev rfl) (F.evs rfl) (Cal.mono (uisTime_c now _) ?_)); clear F; clear a; rintro _ w ⟨rfl, hE⟩ a F; replace M := M.later hE; clear hE)
    rw [c3] at F
    refine stepD rfl F rfl (o_not (F.ev rfl) ?_); clear F; clear a; intro a F
    with_reducible refine l_nil ?_
    with_reducible refine q_then ?_
    refine c_true F rfl rfl ?_
    with_reducible refine c_seq ?_
    with_reducible refine c_region ?_
    refine stepD rfl F rfl (o_build F rfl rfl ?_); clear F; clear a; intro a F
    (refine stepN rfl F (o_storeA M (F.ev rfl) (F.ev rfl) (by rfl) (by rfl) (by repeat (first | exact .here | apply Has.there)) (by rfl) (by repeat (first | exact .here | apply Upd.there)) ?_); clear F; clear M; intro w M a F)
    refine stepD rfl F rfl (o_assign (F.ev rfl) ?_); clear F; clear a; intro a F
    refine stepD rfl F rfl (o_assign (F.ev rfl) ?_); clear F; clear a; intro a F
    refine stepD rfl F rfl (o_assign (F.ev rfl) ?_); clear F; clear a; intro a F
    with_reducible refine l_nil ?_
    with_reducible refine q_then ?_
    with_reducible refine c_ret ?_
    with_reducible refine q_thenR ?_
    exact p_ret F rfl (.cons (.cell (F.ev rfl) (run_loadVar_agg TAgg.h (M.heap (by repeat (first | exact .here | apply Has.there))) rfl)) (.cons (.tmp (F.ev rfl)) (.cons (.tmp (F.ev rfl)) (.cons (.tmp (F.ev rfl)) .nil)))) ⟨_, _, [], [], rfl, zeroPl, zeroPl, M.sub (by simp)⟩
  obtain ⟨c4, c5⟩ := Bool.and_eq_true_iff.1 c1
  have hTl := (validAs_iff.1 c4).1
  have hll := (validAs_iff.1 c2).1
  have aT := validAs_asc c4
  have al := validAs_asc c2
  have hnow : 0 ≤ now ∧ now ≤ 1099511627776 := by
    unfold isTime at c3
    simpa using c3
  have hD : dueV T fl now l = ⟨l, if decide (fl ≤ now) then laterV now 3 else fl, mrg (decide (fl ≤ now)) l T, (mrg (decide (fl ≤ now)) l T).any fun a => decide (a.own.met = inf), 0⟩ := by unfold dueV; rw [c1, c2, c3]; rfl
  rw [hD]
  have jT : ∀ x ∈ T, IsDv x.to := fun x h => (iT x h).1
  have jl : ∀ x ∈ l, IsDv x.to := fun x h => (il x h).1
  have hmlen := mrg_len (decide (fl ≤ now)) l T
  have hspec := mrg_spec (decide (fl ≤ now)) l T al aT jl jT
  refine fn_ofM (n := 130) [] Try.func17 rfl rfl rfl ?_
  intro a w F M hwW
  refine c_seq ?_
  refine c_region ?_
  (refine stepD rfl F rfl (o_box M (F.ev rfl) rfl ?_); clear F; clear M; intro b3 w M a F)
  (refine stepD rfl F rfl (o_alloc M ?_); clear F; clear M; intro b6 w M a F)
  refine stepD rfl F rfl (o_assign (F.ev rfl) ?_); clear F; clear a; intro a F
  refine stepD rfl F rfl (o_assign (F.ev rfl) ?_); clear F; clear a; intro a F
  refine stepD rfl F rfl (o_assign (F.ev rfl) ?_); clear F; clear a; intro a F
  with_reducible refine l_nil ?_
  with_reducible refine q_then ?_
  with_reducible refine c_seq ?_
  with_reducible refine c_seq ?_
  with_reducible refine c_region ?_
  refine stepD rfl F rfl (o_loadA M (F.ev rfl) (by repeat (first | exact .here | apply Has.there)) (by first | assumption | rfl) ?_); clear F; clear a; intro a F
  (refine stepD rfl F rfl (o_call (F.ev rfl) (F.evs rfl) (Cal.mono (k0 _ (hST.later M.ext)) ?_)); clear F; clear a; rintro _ w ⟨rfl, hE⟩ a F; replace M := M.later hE; clear hE)
  rw [c1] at F
  refine stepD rfl F rfl (o_not (F.ev rfl) ?_); clear F; clear a; intro a F
  refine stepD rfl F rfl (o_move (F.ev rfl) ?_); clear F; clear a; intro a F
  refine stepG rfl F rfl rfl rfl (o_move (F.ev rfl) ?_); clear F; clear a; intro a F
  (refine stepG rfl F rfl rfl rfl (o_call (F.ev rfl) (F.evs rfl) (Cal.mono (k1 _ (hSl.later M.ext)) ?_)); clear F; clear a; rintro _ w ⟨rfl, hE⟩ a F; replace M := M.later hE; clear hE)
  rw [c2] at F
  refine stepG rfl F rfl rfl rfl (o_not (F.ev rfl) ?_); clear F; clear a; intro a F
  refine stepD rfl F rfl (o_pickF (F.ev rfl) (F.ev rfl) ?_); clear F; clear a; intro a F
  with_reducible refine l_nil ?_
  with_reducible refine q_then ?_
  refine c_false F rfl rfl ?_
  with_reducible refine c_skip ?_
  with_reducible refine q_then ?_
  with_reducible refine c_seq ?_
  with_reducible refine c_seq ?_
  with_reducible refine c_region ?_
  refine stepD rfl F rfl (o_move (F.ev rfl) ?_); clear F; clear a; intro a F
  (refine stepD rfl F rfl (o_call (F.ev rfl) (F.evs rfl) (Cal.mono (uisTime_c now _) ?_)); clear F; clear a; rintro _ w ⟨rfl, hE⟩ a F; replace M := M.later hE; clear hE)
  rw [c3] at F
  refine stepD rfl F rfl (o_not (F.ev rfl) ?_); clear F; clear a; intro a F
  with_reducible refine l_nil ?_
  with_reducible refine q_then ?_
  refine c_false F rfl rfl ?_
  with_reducible refine c_skip ?_
  with_reducible refine q_then ?_
  with_reducible refine c_seq ?_
  replace F := F.only [2, 1, 3, 6] rfl
  refine c_draw 6 F (by kernel_rfl) ?_
  intro w1 hE hok
  have M1 := M.later hE
  refine mK hok rfl rfl (fun a' w' F' E' => o_move (F'.ev rfl) ⟨Ext.refl _ _, rfl⟩) ?_
  refine mX (V := NewP w1.heap.size (PhA l)) hok rfl rfl (NewP.stays _ _) (fun a' w' F' E' D' => o_call (F'.ev rfl) (F'.evs rfl) (Cal.mono (cloneA_c l (by omega) vl _ (hSl.later (M1.ext.trans E'))) fun _ _ hh => newP_of E' (hh.elim fun ent hq => ⟨ent, hq.1, hq.2.2⟩))) ?_
  refine mK hok rfl rfl (fun a' w' F' E' => o_fieldAddr (F'.ev rfl) ⟨Ext.refl _ _, rfl⟩) ?_
  refine mK hok rfl rfl (fun a' w' F' E' => o_load1 (M1.later E') (F'.ev rfl) (by repeat (first | exact .here | apply Has.there)) (by first | assumption | rfl) ⟨Ext.refl _ _, rfl⟩) ?_
  refine mX (V := NewP w1.heap.size (PhPl l fl)) hok rfl rfl (NewP.stays _ _) (fun a' w' F' E' D' => by
    obtain ⟨ent, g1, g2⟩ := D' 1 (memDep rfl) _ rfl
    obtain ⟨p, c, g3⟩ := OwnS.slice g1
    have F2 := F'.know (d := 38) g3
    exact o_build F2 rfl rfl ⟨Ext.refl _ _, ent, ⟨_, rfl, g3 ▸ g1⟩, g2⟩) ?_
  refine mAl hok rfl rfl (Al.stays _ _) (fun w => Ext.alloc w _) (fun a' w' F' E' => run_al) ?_
  (refine mDone rfl rfl ?_; clear F; clear M; intro a w F hE2 hX hTT hDD hPP; have M := M1.later hE2; (try dsimp only at F))
  obtain ⟨eu, ⟨u, hr, hO⟩, hN⟩ := hX 4 _ rfl
  obtain ⟨b10, e_1, g_1, q_1⟩ := hX 5 _ rfl
  have hap := OwnS.apart hO hN.at_ (by decide) q_1
  replace M := M.joinNew M1 hN
  replace M := Mem.al (pre := eu) M M1 q_1 g_1 hap
  replace F := (F.know (d := 41) hr).know (d := 10) e_1
  clear hr e_1 g_1 q_1 hap hN M1 hX hE2 hok hE hTT hDD hPP
  obtain ⟨p, c, rfl⟩ := hO.slice
  dsimp only [ptrTo] at F
  (refine stepN rfl F (o_storeA M (F.ev rfl) (F.ev rfl) (by rfl) (by rfl) (by repeat (first | exact .here | apply Has.there)) (by rfl) (by repeat (first | exact .here | apply Upd.there)) ?_); clear F; clear M; intro w M a F)
  replace F := F.only [2, 1, 3, 6, 10] rfl
  replace M := M.perm (l' := (b10, .cells (plC (.slice p l.length c) fl).toArray 24 (0, 0)) :: (b6, .cells #[.slice none 0 0, .int .i64 0] 24 (0, 0)) :: (b3, .cells #[vt, .int .i64 fl] 24 (0, 0)) :: eu) (by classical exact List.perm_iff_count.2 fun _ => by simp only [List.count_append, List.count_cons, List.count_nil, Nat.add_zero, Nat.zero_add] <;> ac_rfl)
  with_reducible refine l_nil ?_
  with_reducible refine q_then ?_
  with_reducible refine c_seq ?_
  with_reducible refine c_region ?_
  refine stepD rfl F rfl (o_move (F.ev rfl) ?_); clear F; clear a; intro a F
  refine stepD rfl F rfl (o_fieldAddr (F.ev rfl) ?_); clear F; clear a; intro a F
  refine stepD rfl F rfl (o_load1 M (F.ev rfl) (by repeat (first | exact .here | apply Has.there)) (by first | assumption | rfl) ?_); clear F; clear a; intro a F
  refine stepD rfl F rfl (o_geq (F.ev rfl) (F.ev rfl) ?_); clear F; clear a; intro a F
  refine stepD rfl F rfl (o_assign (F.ev rfl) ?_); clear F; clear a; intro a F
  with_reducible refine l_nil ?_
  with_reducible refine q_then ?_
  with_reducible refine c_seq ?_
  with_reducible refine c_seq ?_
  with_reducible refine c_region ?_
  refine stepD rfl F rfl (o_move (F.ev rfl) ?_); clear F; clear a; intro a F
  with_reducible refine l_nil ?_
  with_reducible refine q_then ?_
  generalize decide (fl ≤ now) = full at *
  refine c_cut (fun a w => Frm a 130 [] [(11, .bool full), (2, vl), (1, .int .i64 now), (3, .pointer (some ⟨b3, 0, none⟩)), (6, .pointer (some ⟨b6, 0, none⟩)), (10, .pointer (some ⟨b10, 0, none⟩))] ∧ Mem [] W w ((b10, .cells (plC (.slice p l.length c) (if full = true then laterV now 3 else fl)).toArray 24 (0, 0)) :: (b6, .cells #[.slice none 0 0, .int .i64 0] 24 (0, 0)) :: (b3, .cells #[vt, .int .i64 fl] 24 (0, 0)) :: eu)) ?_ ?_
  · cases full
    · refine c_false F rfl rfl ?_
      with_reducible refine c_skip ?_
      exact ⟨F.only [11, 2, 1, 3, 6, 10] rfl, M⟩
    · refine c_true F rfl rfl ?_
      with_reducible refine c_region ?_
      refine stepD rfl F rfl (o_move (F.ev rfl) ?_); clear F; clear a; intro a F
      refine stepD rfl F rfl (o_add (F.ev rfl) (F.ev rfl) (w_i64 (by omega) (by omega)) ?_); clear F; clear a; intro a F
      refine stepD rfl F rfl (o_min (F.ev rfl) (F.ev rfl) ?_); clear F; clear a; intro a F
      refine stepD rfl F rfl (o_fieldAddr (F.ev rfl) ?_); clear F; clear a; intro a F
      (refine stepN rfl F (o_store1 M (F.ev rfl) (F.ev rfl) rfl (by repeat (first | exact .here | apply Has.there)) (by rfl) (by repeat (first | exact .here | apply Upd.there)) ?_); clear F; clear M; intro w M a F)
      with_reducible refine l_nil ?_
      exact ⟨F.only [11, 2, 1, 3, 6, 10] rfl, M⟩
  clear F M a w
  rintro a w ⟨F, M⟩
  generalize (if full = true then laterV now 3 else fl) = fl2 at *
  obtain ⟨ql, cl, rfl, hcl, hspl, hlenl, hml⟩ := id hSl
  obtain ⟨qt, ct, rfl, hct, hspt, hlent, hmt⟩ := id hST
  with_reducible refine q_then ?_
  with_reducible refine c_seq ?_
  with_reducible refine c_region ?_
  refine stepD rfl F rfl (o_fieldAddr (F.ev rfl) ?_); clear F; clear a; intro a F
  refine stepD rfl F rfl (o_load1 M (F.ev rfl) (by repeat (first | exact .here | apply Has.there)) (by first | assumption | rfl) ?_); clear F; clear a; intro a F
  (refine stepD rfl F rfl (o_call (F.ev rfl) (F.evs rfl) (Cal.mono (byDest_c T iT (by omega) _ _ (hST.later M.ext) ) ?_)); clear F; clear a; rintro _ w ⟨em1, ⟨m1, o1, rfl, rfl, hA1⟩, N⟩ a F; replace M := M.joins N; clear N)
  refine stepD rfl F rfl (o_move (F.ev rfl) ?_); clear F; clear a; intro a F
  (refine stepD rfl F rfl (o_call (F.ev rfl) (F.evs rfl) (Cal.mono (byDest_c l il (by omega) _ _ (hSl.later M.ext) ) ?_)); clear F; clear a; rintro _ w ⟨em2, ⟨m2, o2, rfl, rfl, hA2⟩, N⟩ a F; replace M := M.joins N; clear N)
  refine stepD rfl F rfl (o_assign (F.ev rfl) ?_); clear F; clear a; intro a F
  refine stepD rfl F rfl (o_assign (F.ev rfl) ?_); clear F; clear a; intro a F
  with_reducible refine l_nil ?_
  with_reducible refine q_then ?_
  with_reducible refine c_seq ?_
  with_reducible refine c_region ?_
  refine stepD rfl F rfl (o_assign (F.ev rfl) ?_); clear F; clear a; intro a F
  with_reducible refine l_nil ?_
  with_reducible refine q_then ?_
  with_reducible refine c_seq ?_
  with_reducible refine c_seq ?_
  with_reducible refine c_region ?_
  refine stepD rfl F rfl (o_move (F.ev rfl) ?_); clear F; clear a; intro a F
  refine stepD rfl F rfl (o_lenSl (F.ev rfl) ?_); clear F; clear a; intro a F
  refine stepD rfl F rfl (o_move (F.ev rfl) ?_); clear F; clear a; intro a F
  with_reducible refine l_nil ?_
  with_reducible refine q_then ?_
  with_reducible refine c_block ?_
  obtain ⟨v, hv⟩ : ∃ v, v = Value.slice none 0 0 := ⟨_, rfl⟩
  rw [← hv] at F
  obtain ⟨es, hes⟩ : ∃ es : List (Nat × Obj), es = [] := ⟨_, rfl⟩
  replace M : Mem [] W w ((b10, .cells (plC (.slice p l.length c) fl2).toArray 24 (0, 0)) :: (b6, .cells #[.slice none 0 0, .int .i64 0] 24 (0, 0)) :: (b3, .cells #[.slice qt T.length ct, .int .i64 fl] 24 (0, 0)) :: (m1, o1) :: (m2, o2) :: (eu ++ es)) := by
    rw [hes]
    exact M.perm (by classical exact List.perm_iff_count.2 fun _ => by simp only [List.count_append, List.count_cons, List.count_nil, Nat.add_zero, Nat.zero_add] <;> ac_rfl)
  have hOs : OwnS 52 37 v ((l.take 0).filter (keepG full T)).length (avsC ((l.take 0).filter (keepG full T))) es := by
    rw [hv, hes]
    exact OwnS.nil _ _
  clear hv hes
  refine c_loop (fun m a w => ∃ (i : Nat) (v : Value) (es : List (Nat × Obj)), m = l.length - i ∧ i ≤ l.length ∧ OwnS 52 37 v ((l.take i).filter (keepG full T)).length (avsC ((l.take i).filter (keepG full T))) es ∧ Frm a 130 [] [(58, .int .i64 i), (57, .int .i64 l.length), (56, .slice ql l.length cl), (14, v), (11, .bool full), (12, .map (some m1)), (13, .map (some m2)), (3, .pointer (some ⟨b3, 0, none⟩)), (6, .pointer (some ⟨b6, 0, none⟩)), (10, .pointer (some ⟨b10, 0, none⟩))] ∧ Mem [] W w ((b10, .cells (plC (.slice p l.length c) fl2).toArray 24 (0, 0)) :: (b6, .cells #[.slice none 0 0, .int .i64 0] 24 (0, 0)) :: (b3, .cells #[.slice qt T.length ct, .int .i64 fl] 24 (0, 0)) :: (m1, o1) :: (m2, o2) :: (eu ++ es))) l.length ⟨0, v, es, rfl, by omega, hOs, F.only [58, 57, 56, 14, 11, 12, 13, 3, 6, 10] rfl, M⟩ ?_
  clear F M a w hOs v es
  rintro m a w ⟨i, v, es, hm', hi, hOs, F, M⟩
  by_cases hlt : i < l.length
  · obtain ⟨b, o, cs, t, fz, rfl, hb, hs⟩ := hml (by omega)
    have hfl := filter_take_succ (keepG full T) hlt
    have hol : ((l.take i).filter (keepG full T)).length ≤ 520 := by
      have h2 := List.length_filter_le (keepG full T) (l.take i)
      rw [List.length_take] at h2
      omega
    generalize (l.take i).filter (keepG full T) = out at *
    obtain ⟨x, hx0⟩ : ∃ x, x = l[i] := ⟨_, rfl⟩
    have hxi : IsAv x := by rw [hx0]; exact il _ (List.getElem_mem hlt)
    have f1 : seg cs (o + (i : Int).toNat * 37) 37 = some (avC x) := by rw [hx0]; exact seg_el (avs_len il) hs hlt (by omega)
    rw [← hx0] at hfl
    have f3 : (avC x).length = 37 := av_len hxi
    have f4 := av_to hxi
    have f5 := av_own hxi
    have f6 := av_own_met hxi
    with_reducible refine c_seq ?_
    with_reducible refine c_region ?_
    refine stepD rfl F rfl (o_lssT (F.ev rfl) (F.ev rfl) (by omega) ?_); clear F; clear a; intro a F
    with_reducible refine l_nil ?_
    with_reducible refine q_then ?_
    with_reducible refine c_seq ?_
    refine c_true F rfl rfl ?_
    with_reducible refine c_skip ?_
    with_reducible refine q_then ?_
    with_reducible refine c_seq ?_
    with_reducible refine c_block ?_
    with_reducible refine c_seq ?_
    with_reducible refine c_region ?_
    refine stepD rfl F rfl (o_indexSl (F.ev rfl) (F.ev rfl) (by omega) (by omega) ?_); clear F; clear a; intro a F
    refine stepD rfl F rfl (o_loadWA M (F.ev rfl) (by assumption) (by first | assumption | rfl) ?_); clear F; clear a; intro a F
    (refine stepD rfl F rfl (o_alloc M ?_); clear F; clear M; intro b16 w M a F)
    skip
    (refine stepN rfl F (o_storeA M (F.ev rfl) (F.ev rfl) (f3) (av_one x)  (by repeat (first | exact .here | apply Has.there))  (put_all (by rw [f3]; rfl)) (by repeat (first | exact .here | apply Upd.there)) ?_); clear F; clear M; intro w M a F)
    with_reducible refine l_nil ?_
    with_reducible refine q_then ?_
    with_reducible refine c_seq ?_
    with_reducible refine c_region ?_
    refine stepD rfl F rfl (o_move (F.ev rfl) ?_); clear F; clear a; intro a F
    refine stepD rfl F rfl (o_fieldAddr (F.ev rfl) ?_); clear F; clear a; intro a F
    refine stepD rfl F rfl (o_loadA M (F.ev rfl) (by repeat (first | exact .here | apply Has.there)) (by first | assumption | rfl) ?_); clear F; clear a; intro a F
    (refine stepD rfl F rfl (o_lookup2 keyD_law zero_di (MapIn.mk (M.heap (by repeat (first | exact .here | apply Has.there))) hA1) (mapV_all (mapD_is jT)) (a := x.to) hxi.1 (F.ev rfl) (F.ev rfl) ?_); clear F; clear a; intro a F)
    rw [lk_own aT, lk_is aT] at F
    refine stepD rfl F rfl (o_move (F.ev rfl) ?_); clear F; clear a; intro a F
    refine stepD rfl F rfl (o_extract (F.ev rfl) rfl ?_); clear F; clear a; intro a F
    refine stepD rfl F rfl (o_extract (F.ev rfl) rfl ?_); clear F; clear a; intro a F
    (refine stepD rfl F rfl (o_alloc M ?_); clear F; clear M; intro b17 w M a F)
    skip
    (refine stepN rfl F (o_storeA M (F.ev rfl) (F.ev rfl) (di_len (o := (getO T x.to).getD di0) trivial) (di_one _)  (by repeat (first | exact .here | apply Has.there))  (put_all (by rw [di_len (o := (getO T x.to).getD di0) trivial]; rfl)) (by repeat (first | exact .here | apply Upd.there)) ?_); clear F; clear M; intro w M a F)
    refine stepD rfl F rfl (o_assign (F.ev rfl) ?_); clear F; clear a; intro a F
    with_reducible refine l_nil ?_
    refine q_then ?_
    repeat (with_reducible refine c_seq ?_)
    refine c_cut (fun a w => Frm a 130 [] ((88, .bool (keepG full T x)) :: (16, .pointer (some ⟨b16, 0, none⟩)) :: [(58, .int .i64 i), (57, .int .i64 l.length), (56, .slice (some ⟨b, o, none⟩) l.length cl), (14, v), (11, .bool full), (12, .map (some m1)), (13, .map (some m2)), (3, .pointer (some ⟨b3, 0, none⟩)), (6, .pointer (some ⟨b6, 0, none⟩)), (10, .pointer (some ⟨b10, 0, none⟩))]) ∧ Mem [] W w ((b17, .cells (diC ((getO T x.to).getD di0)).toArray 50 (0, 0)) :: (b16, .cells (avC x).toArray 52 (0, 0)) :: (b10, .cells (plC (.slice p l.length c) fl2).toArray 24 (0, 0)) :: (b6, .cells #[.slice none 0 0, .int .i64 0] 24 (0, 0)) :: (b3, .cells #[.slice qt T.length ct, .int .i64 fl] 24 (0, 0)) :: (m1, o1) :: (m2, o2) :: (eu ++ es))) ?_ ?_
    · unfold keepG
      cases full
      · cases hg2 : getO T x.to with
        | none =>
          rw [hg2] at F M
          dsimp only [Option.isSome, Option.getD] at F M
          with_reducible refine c_region ?_
          refine stepD rfl F rfl (o_move (F.ev rfl) ?_); clear F; clear a; intro a F
          refine stepD rfl F rfl (o_move (F.ev rfl) ?_); clear F; clear a; intro a F
          refine stepG rfl F rfl rfl rfl (o_move (F.ev rfl) ?_); clear F; clear a; intro a F
          refine stepG rfl F rfl rfl rfl (o_move (F.ev rfl) ?_); clear F; clear a; intro a F
          refine stepOff F rfl rfl rfl rfl ?_; clear F; clear a; intro a F
          refine stepOff F rfl rfl rfl rfl ?_; clear F; clear a; intro a F
          refine stepOff F rfl rfl rfl rfl ?_; clear F; clear a; intro a F
          refine stepOff F rfl rfl rfl rfl ?_; clear F; clear a; intro a F
          refine stepG rfl F rfl rfl rfl (o_pickF (F.ev rfl) (F.ev rfl) ?_); clear F; clear a; intro a F
          refine stepD rfl F rfl (o_pickF (F.ev rfl) (F.ev rfl) ?_); clear F; clear a; intro a F
          refine stepD rfl F rfl (o_move (F.ev rfl) ?_); clear F; clear a; intro a F
          refine stepG rfl F rfl rfl rfl (o_move (F.ev rfl) ?_); clear F; clear a; intro a F
          refine stepG rfl F rfl rfl rfl (o_not (F.ev rfl) ?_); clear F; clear a; intro a F
          refine stepG rfl F rfl rfl rfl (o_move (F.ev rfl) ?_); clear F; clear a; intro a F
          refine stepG rfl F rfl rfl rfl (o_fieldAddr (F.ev rfl) ?_); clear F; clear a; intro a F
          refine stepG rfl F rfl rfl rfl (o_fieldAddr (F.ev rfl) ?_); clear F; clear a; intro a F
          refine stepG rfl F rfl rfl rfl (o_load1 M (F.ev rfl) (by repeat (first | exact .here | apply Has.there)) (by first | assumption | rfl) ?_); clear F; clear a; intro a F
          refine stepG rfl F rfl rfl rfl (o_neq (F.ev rfl) (F.ev rfl) ?_); clear F; clear a; intro a F
          refine stepG rfl F rfl rfl rfl (o_pickT (F.ev rfl) (F.ev rfl) ?_); clear F; clear a; intro a F
          refine stepD rfl F rfl (o_pickF (F.ev rfl) (F.ev rfl) ?_); clear F; clear a; intro a F
          with_reducible refine l_nil ?_
          refine ⟨?_, M⟩
          rw [show (false || !decide (x.own.met = inf)) = (x.own.met != 65535) by unfold inf; by_cases h : x.own.met = 65535 <;> simp [h]]
          exact F.only [88, 16, 58, 57, 56, 14, 11, 12, 13, 3, 6, 10] rfl
        | some o2 =>
          rw [hg2] at F M
          dsimp only [Option.isSome, Option.getD] at F M
          have f7 := di_eq (a := o2) (b := x.own) trivial trivial
          have f8 := di_all (o := o2) trivial
          by_cases he : o2 = x.own
          · rw [decide_eq_true he] at f7
            with_reducible refine c_region ?_
            refine stepD rfl F rfl (o_move (F.ev rfl) ?_); clear F; clear a; intro a F
            refine stepD rfl F rfl (o_move (F.ev rfl) ?_); clear F; clear a; intro a F
            refine stepG rfl F rfl rfl rfl (o_move (F.ev rfl) ?_); clear F; clear a; intro a F
            refine stepG rfl F rfl rfl rfl (o_move (F.ev rfl) ?_); clear F; clear a; intro a F
            refine stepG rfl F rfl rfl rfl (o_loadA M (F.ev rfl) (by repeat (first | exact .here | apply Has.there)) (by first | assumption | rfl) ?_); clear F; clear a; intro a F
            refine stepG rfl F rfl rfl rfl (o_fieldAddr (F.ev rfl) ?_); clear F; clear a; intro a F
            refine stepG rfl F rfl rfl rfl (o_loadA M (F.ev rfl) (by repeat (first | exact .here | apply Has.there)) (by first | assumption | rfl) ?_); clear F; clear a; intro a F
            refine stepG rfl F rfl rfl rfl (o_neqAF (F.ev rfl) (F.ev rfl) (by first | assumption | rfl) (by first | assumption | rfl) (by assumption) ?_); clear F; clear a; intro a F
            refine stepG rfl F rfl rfl rfl (o_pickT (F.ev rfl) (F.ev rfl) ?_); clear F; clear a; intro a F
            refine stepD rfl F rfl (o_pickF (F.ev rfl) (F.ev rfl) ?_); clear F; clear a; intro a F
            refine stepD rfl F rfl (o_move (F.ev rfl) ?_); clear F; clear a; intro a F
            refine stepG rfl F rfl rfl rfl (o_move (F.ev rfl) ?_); clear F; clear a; intro a F
            refine stepG rfl F rfl rfl rfl (o_not (F.ev rfl) ?_); clear F; clear a; intro a F
            refine stepG rfl F rfl rfl rfl (o_move (F.ev rfl) ?_); clear F; clear a; intro a F
            refine stepOff F rfl rfl rfl rfl ?_; clear F; clear a; intro a F
            refine stepOff F rfl rfl rfl rfl ?_; clear F; clear a; intro a F
            refine stepOff F rfl rfl rfl rfl ?_; clear F; clear a; intro a F
            refine stepOff F rfl rfl rfl rfl ?_; clear F; clear a; intro a F
            refine stepG rfl F rfl rfl rfl (o_pickF (F.ev rfl) (F.ev rfl) ?_); clear F; clear a; intro a F
            refine stepD rfl F rfl (o_pickF (F.ev rfl) (F.ev rfl) ?_); clear F; clear a; intro a F
            with_reducible refine l_nil ?_
            refine ⟨?_, M⟩
            show Frm a 130 [] ((88, .bool (false || !decide (o2 = x.own))) :: _)
            rw [decide_eq_true he]
            exact F.only [88, 16, 58, 57, 56, 14, 11, 12, 13, 3, 6, 10] rfl
          · rw [decide_eq_false he] at f7
            with_reducible refine c_region ?_
            refine stepD rfl F rfl (o_move (F.ev rfl) ?_); clear F; clear a; intro a F
            refine stepD rfl F rfl (o_move (F.ev rfl) ?_); clear F; clear a; intro a F
            refine stepG rfl F rfl rfl rfl (o_move (F.ev rfl) ?_); clear F; clear a; intro a F
            refine stepG rfl F rfl rfl rfl (o_move (F.ev rfl) ?_); clear F; clear a; intro a F
            refine stepG rfl F rfl rfl rfl (o_loadA M (F.ev rfl) (by repeat (first | exact .here | apply Has.there)) (by first | assumption | rfl) ?_); clear F; clear a; intro a F
            refine stepG rfl F rfl rfl rfl (o_fieldAddr (F.ev rfl) ?_); clear F; clear a; intro a F
            refine stepG rfl F rfl rfl rfl (o_loadA M (F.ev rfl) (by repeat (first | exact .here | apply Has.there)) (by first | assumption | rfl) ?_); clear F; clear a; intro a F
            refine stepG rfl F rfl rfl rfl (o_neqAT (F.ev rfl) (F.ev rfl) (by first | assumption | rfl) (by first | assumption | rfl) (by assumption) ?_); clear F; clear a; intro a F
            refine stepG rfl F rfl rfl rfl (o_pickT (F.ev rfl) (F.ev rfl) ?_); clear F; clear a; intro a F
            refine stepD rfl F rfl (o_pickF (F.ev rfl) (F.ev rfl) ?_); clear F; clear a; intro a F
            refine stepD rfl F rfl (o_move (F.ev rfl) ?_); clear F; clear a; intro a F
            refine stepOff F rfl rfl rfl rfl ?_; clear F; clear a; intro a F
            refine stepOff F rfl rfl rfl rfl ?_; clear F; clear a; intro a F
            refine stepOff F rfl rfl rfl rfl ?_; clear F; clear a; intro a F
            refine stepOff F rfl rfl rfl rfl ?_; clear F; clear a; intro a F
            refine stepOff F rfl rfl rfl rfl ?_; clear F; clear a; intro a F
            refine stepOff F rfl rfl rfl rfl ?_; clear F; clear a; intro a F
            refine stepOff F rfl rfl rfl rfl ?_; clear F; clear a; intro a F
            refine stepOff F rfl rfl rfl rfl ?_; clear F; clear a; intro a F
            refine stepD rfl F rfl (o_pickT (F.ev rfl) (F.ev rfl) ?_); clear F; clear a; intro a F
            with_reducible refine l_nil ?_
            refine ⟨?_, M⟩
            show Frm a 130 [] ((88, .bool (false || !decide (o2 = x.own))) :: _)
            rw [decide_eq_false he]
            exact F.only [88, 16, 58, 57, 56, 14, 11, 12, 13, 3, 6, 10] rfl
      · with_reducible refine c_region ?_
        refine stepD rfl F rfl (o_move (F.ev rfl) ?_); clear F; clear a; intro a F
        refine stepD rfl F rfl (o_move (F.ev rfl) ?_); clear F; clear a; intro a F
        refine stepOff F rfl rfl rfl rfl ?_; clear F; clear a; intro a F
        refine stepOff F rfl rfl rfl rfl ?_; clear F; clear a; intro a F
        refine stepOff F rfl rfl rfl rfl ?_; clear F; clear a; intro a F
        refine stepOff F rfl rfl rfl rfl ?_; clear F; clear a; intro a F
        refine stepOff F rfl rfl rfl rfl ?_; clear F; clear a; intro a F
        refine stepOff F rfl rfl rfl rfl ?_; clear F; clear a; intro a F
        refine stepOff F rfl rfl rfl rfl ?_; clear F; clear a; intro a F
        refine stepD rfl F rfl (o_pickT (F.ev rfl) (F.ev rfl) ?_); clear F; clear a; intro a F
        refine stepD rfl F rfl (o_move (F.ev rfl) ?_); clear F; clear a; intro a F
        refine stepOff F rfl rfl rfl rfl ?_; clear F; clear a; intro a F
        refine stepOff F rfl rfl rfl rfl ?_; clear F; clear a; intro a F
        refine stepOff F rfl rfl rfl rfl ?_; clear F; clear a; intro a F
        refine stepOff F rfl rfl rfl rfl ?_; clear F; clear a; intro a F
        refine stepOff F rfl rfl rfl rfl ?_; clear F; clear a; intro a F
        refine stepOff F rfl rfl rfl rfl ?_; clear F; clear a; intro a F
        refine stepOff F rfl rfl rfl rfl ?_; clear F; clear a; intro a F
        refine stepOff F rfl rfl rfl rfl ?_; clear F; clear a; intro a F
        refine stepD rfl F rfl (o_pickT (F.ev rfl) (F.ev rfl) ?_); clear F; clear a; intro a F
        with_reducible refine l_nil ?_
        exact ⟨F.only [88, 16, 58, 57, 56, 14, 11, 12, 13, 3, 6, 10] rfl, M⟩
    clear F M a w
    rintro a w ⟨F, M⟩
    cases hkp : keepG full T x
    · rw [hkp] at F hfl
      rw [if_neg (by simp), List.append_nil] at hfl
      with_reducible refine q_then ?_
      refine c_false F rfl rfl ?_
      with_reducible refine c_skip ?_
      with_reducible refine q_inB ?_
      with_reducible refine q_then ?_
      with_reducible refine c_region ?_
      refine stepD rfl F rfl (o_add (F.ev rfl) (F.ev rfl) (w_i64 (by omega) (by omega)) ?_); clear F; clear a; intro a F
      refine stepD rfl F rfl (o_move (F.ev rfl) ?_); clear F; clear a; intro a F
      with_reducible refine l_nil ?_
      with_reducible refine q_then ?_
      exact ⟨_, by omega, i + 1, v, es, rfl, by omega, by rw [hfl]; exact hOs, F.only [58, 57, 56, 14, 11, 12, 13, 3, 6, 10] rfl, M.sub (.cons _ (.cons _ (.refl _)))⟩
    · rw [hkp] at F hfl
      rw [if_pos rfl] at hfl
      have f0 := av_all hxi
      with_reducible refine q_then ?_
      refine c_true F rfl rfl ?_
      with_reducible refine c_region ?_
      refine stepD rfl F rfl (o_move (F.ev rfl) ?_); clear F; clear a; intro a F
      refine stepD rfl F rfl (o_loadA M (F.ev rfl) (by repeat (first | exact .here | apply Has.there)) (by first | assumption | rfl) ?_); clear F; clear a; intro a F
      (refine stepD rfl F rfl (o_buildSlice F M rfl rfl rfl (av_build1 hxi) ?_); clear F; clear M; intro bs w M a F)
      (refine stepD rfl F rfl (o_append hOs M (.cons (.cons (.cons (.cons (.cons (.cons (.cons (.cons (.app .here))))))))) (F.ev rfl) (F.ev rfl) (SrcOf.cells' (M.heap .here) (sg_all (by omega)) (av_one _)) (by omega) (by omega) ?_); clear F; clear M; intro v2 es2 w hO2 M a F)
      refine stepD rfl F rfl (o_assign (F.ev rfl) ?_); clear F; clear a; intro a F
      with_reducible refine l_nil ?_
      with_reducible refine q_inB ?_
      with_reducible refine q_then ?_
      with_reducible refine c_region ?_
      refine stepD rfl F rfl (o_add (F.ev rfl) (F.ev rfl) (w_i64 (by omega) (by omega)) ?_); clear F; clear a; intro a F
      refine stepD rfl F rfl (o_move (F.ev rfl) ?_); clear F; clear a; intro a F
      with_reducible refine l_nil ?_
      with_reducible refine q_then ?_
      exact ⟨_, by omega, i + 1, v2, es2, rfl, by omega, by rw [hfl]; show OwnS _ 37 _ (out ++ [x]).length (encL avC (out ++ [x])) _; rw [show (out ++ [x]).length = out.length + 1 by simp, encL_app, encL_one]; exact hO2, F.only [58, 57, 56, 14, 11, 12, 13, 3, 6, 10] rfl, M.sub (.cons _ (.cons _ (.cons _ (.refl _))))⟩
  obtain rfl : i = l.length := by omega
  rw [List.take_length] at hOs
  with_reducible refine c_seq ?_
  with_reducible refine c_region ?_
  refine stepD rfl F rfl (o_lssF (F.ev rfl) (F.ev rfl) (by omega) ?_); clear F; clear a; intro a F
  with_reducible refine l_nil ?_
  with_reducible refine q_then ?_
  with_reducible refine c_seq ?_
  refine c_false F rfl rfl ?_
  with_reducible refine c_exit ?_
  with_reducible refine q_thenX ?_
  with_reducible refine q_thenX ?_
  with_reducible refine q_inBX ?_
  with_reducible refine q_then ?_
  with_reducible refine c_seq ?_
  with_reducible refine c_seq ?_
  with_reducible refine c_region ?_
  refine stepD rfl F rfl (o_fieldAddr (F.ev rfl) ?_); clear F; clear a; intro a F
  refine stepD rfl F rfl (o_load1 M (F.ev rfl) (by repeat (first | exact .here | apply Has.there)) (by first | assumption | rfl) ?_); clear F; clear a; intro a F
  refine stepD rfl F rfl (o_lenSl (F.ev rfl) ?_); clear F; clear a; intro a F
  refine stepD rfl F rfl (o_move (F.ev rfl) ?_); clear F; clear a; intro a F
  with_reducible refine l_nil ?_
  with_reducible refine q_then ?_
  with_reducible refine c_block ?_
  have hOs0 : OwnS 52 37 v (l.filter (keepG full T) ++ ((T.take 0).filter (dropG l)).map retr).length (avsC (l.filter (keepG full T) ++ ((T.take 0).filter (dropG l)).map retr)) es := by
    rw [List.take_zero, List.filter_nil, List.map_nil, List.append_nil]
    exact hOs
  refine c_loop (fun m a w => ∃ (i : Nat) (v : Value) (es : List (Nat × Obj)), m = T.length - i ∧ i ≤ T.length ∧ OwnS 52 37 v (l.filter (keepG full T) ++ ((T.take i).filter (dropG l)).map retr).length (avsC (l.filter (keepG full T) ++ ((T.take i).filter (dropG l)).map retr)) es ∧ Frm a 130 [] [(97, .int .i64 i), (96, .int .i64 T.length), (95, .slice qt T.length ct), (14, v), (11, .bool full), (12, .map (some m1)), (13, .map (some m2)), (3, .pointer (some ⟨b3, 0, none⟩)), (6, .pointer (some ⟨b6, 0, none⟩)), (10, .pointer (some ⟨b10, 0, none⟩))] ∧ Mem [] W w ((b10, .cells (plC (.slice p l.length c) fl2).toArray 24 (0, 0)) :: (b6, .cells #[.slice none 0 0, .int .i64 0] 24 (0, 0)) :: (b3, .cells #[.slice qt T.length ct, .int .i64 fl] 24 (0, 0)) :: (m1, o1) :: (m2, o2) :: (eu ++ es))) T.length ⟨0, v, es, rfl, by omega, hOs0, F.only [97, 96, 95, 14, 11, 12, 13, 3, 6, 10] rfl, M⟩ ?_
  clear F M a w hOs hOs0 v es
  rintro m a w ⟨i, v, es, hm', hi, hOs, F, M⟩
  by_cases hlt : i < T.length
  · obtain ⟨b, o, cs, t, fz, rfl, hb, hs⟩ := hmt (by omega)
    have hfl := filter_take_succ (dropG l) hlt
    have hol : (l.filter (keepG full T) ++ ((T.take i).filter (dropG l)).map retr).length ≤ 1040 := by
      have h2 := List.length_filter_le (dropG l) (T.take i)
      have h3 := List.length_filter_le (keepG full T) l
      rw [List.length_take] at h2
      rw [List.length_append, List.length_map]
      omega
    obtain ⟨x, hx0⟩ : ∃ x, x = T[i] := ⟨_, rfl⟩
    have hxi : IsAv x := by rw [hx0]; exact iT _ (List.getElem_mem hlt)
    have f1 : seg cs (o + (i : Int).toNat * 37) 37 = some (avC x) := by rw [hx0]; exact seg_el (avs_len iT) hs hlt (by omega)
    rw [← hx0] at hfl
    have hrt : ((T.take (i + 1)).filter (dropG l)).map retr = ((T.take i).filter (dropG l)).map retr ++ if dropG l x = true then [retr x] else [] := by
      rw [hfl, List.map_append]
      cases dropG l x <;> rfl
    clear hfl
    generalize ((T.take i).filter (dropG l)).map retr = out1 at *
    obtain ⟨out, hout⟩ : ∃ out, out = l.filter (keepG full T) ++ out1 := ⟨_, rfl⟩
    rw [← hout] at hOs hol
    have f3 : (avC x).length = 37 := av_len hxi
    have f4 := av_to hxi
    have f5 := av_own hxi
    have f6 := av_own_met hxi
    with_reducible refine c_seq ?_
    with_reducible refine c_region ?_
    refine stepD rfl F rfl (o_lssT (F.ev rfl) (F.ev rfl) (by omega) ?_); clear F; clear a; intro a F
    with_reducible refine l_nil ?_
    with_reducible refine q_then ?_
    with_reducible refine c_seq ?_
    refine c_true F rfl rfl ?_
    with_reducible refine c_skip ?_
    with_reducible refine q_then ?_
    with_reducible refine c_seq ?_
    with_reducible refine c_block ?_
    with_reducible refine c_seq ?_
    with_reducible refine c_region ?_
    refine stepD rfl F rfl (o_indexSl (F.ev rfl) (F.ev rfl) (by omega) (by omega) ?_); clear F; clear a; intro a F
    refine stepD rfl F rfl (o_loadWA M (F.ev rfl) (by assumption) (by first | assumption | rfl) ?_); clear F; clear a; intro a F
    (refine stepD rfl F rfl (o_alloc M ?_); clear F; clear M; intro b20 w M a F)
    skip
    (refine stepN rfl F (o_storeA M (F.ev rfl) (F.ev rfl) (f3) (av_one x)  (by repeat (first | exact .here | apply Has.there))  (put_all (by rw [f3]; rfl)) (by repeat (first | exact .here | apply Upd.there)) ?_); clear F; clear M; intro w M a F)
    with_reducible refine l_nil ?_
    with_reducible refine q_then ?_
    with_reducible refine c_seq ?_
    with_reducible refine c_region ?_
    refine stepD rfl F rfl (o_move (F.ev rfl) ?_); clear F; clear a; intro a F
    refine stepD rfl F rfl (o_fieldAddr (F.ev rfl) ?_); clear F; clear a; intro a F
    refine stepD rfl F rfl (o_loadA M (F.ev rfl) (by repeat (first | exact .here | apply Has.there)) (by first | assumption | rfl) ?_); clear F; clear a; intro a F
    (refine stepD rfl F rfl (o_lookup2 keyD_law zero_di (MapIn.mk (M.heap (by repeat (first | exact .here | apply Has.there))) hA2) (mapV_all (mapD_is jl)) (a := x.to) hxi.1 (F.ev rfl) (F.ev rfl) ?_); clear F; clear a; intro a F)
    rw [lk_own al, lk_is al] at F
    refine stepD rfl F rfl (o_move (F.ev rfl) ?_); clear F; clear a; intro a F
    refine stepD rfl F rfl (o_extract (F.ev rfl) rfl ?_); clear F; clear a; intro a F
    refine stepD rfl F rfl (o_extract (F.ev rfl) rfl ?_); clear F; clear a; intro a F
    (refine stepD rfl F rfl (o_alloc M ?_); clear F; clear M; intro b21 w M a F)
    skip
    (refine stepN rfl F (o_storeA M (F.ev rfl) (F.ev rfl) (di_len (o := (getO l x.to).getD di0) trivial) (di_one _)  (by repeat (first | exact .here | apply Has.there))  (put_all (by rw [di_len (o := (getO l x.to).getD di0) trivial]; rfl)) (by repeat (first | exact .here | apply Upd.there)) ?_); clear F; clear M; intro w M a F)
    refine stepD rfl F rfl (o_assign (F.ev rfl) ?_); clear F; clear a; intro a F
    with_reducible refine l_nil ?_
    refine q_then ?_
    repeat (with_reducible refine c_seq ?_)
    refine c_cut (fun a w => Frm a 130 [] ((115, .bool (dropG l x)) :: (20, .pointer (some ⟨b20, 0, none⟩)) :: [(97, .int .i64 i), (96, .int .i64 T.length), (95, .slice (some ⟨b, o, none⟩) T.length ct), (14, v), (11, .bool full), (12, .map (some m1)), (13, .map (some m2)), (3, .pointer (some ⟨b3, 0, none⟩)), (6, .pointer (some ⟨b6, 0, none⟩)), (10, .pointer (some ⟨b10, 0, none⟩))]) ∧ Mem [] W w ((b21, .cells (diC ((getO l x.to).getD di0)).toArray 50 (0, 0)) :: (b20, .cells (avC x).toArray 52 (0, 0)) :: (b10, .cells (plC (.slice p l.length c) fl2).toArray 24 (0, 0)) :: (b6, .cells #[.slice none 0 0, .int .i64 0] 24 (0, 0)) :: (b3, .cells #[.slice (some ⟨b, o, none⟩) T.length ct, .int .i64 fl] 24 (0, 0)) :: (m1, o1) :: (m2, o2) :: (eu ++ es))) ?_ ?_
    · unfold dropG
      cases hg2 : getO l x.to with
      | none =>
        rw [hg2] at F M
        dsimp only [Option.isSome, Option.getD] at F M
        with_reducible refine c_region ?_
        refine stepD rfl F rfl (o_move (F.ev rfl) ?_); clear F; clear a; intro a F
        refine stepD rfl F rfl (o_not (F.ev rfl) ?_); clear F; clear a; intro a F
        refine stepD rfl F rfl (o_move (F.ev rfl) ?_); clear F; clear a; intro a F
        refine stepG rfl F rfl rfl rfl (o_fieldAddr (F.ev rfl) ?_); clear F; clear a; intro a F
        refine stepG rfl F rfl rfl rfl (o_fieldAddr (F.ev rfl) ?_); clear F; clear a; intro a F
        refine stepG rfl F rfl rfl rfl (o_load1 M (F.ev rfl) (by repeat (first | exact .here | apply Has.there)) (by first | assumption | rfl) ?_); clear F; clear a; intro a F
        refine stepG rfl F rfl rfl rfl (o_neq (F.ev rfl) (F.ev rfl) ?_); clear F; clear a; intro a F
        refine stepD rfl F rfl (o_pickT (F.ev rfl) (F.ev rfl) ?_); clear F; clear a; intro a F
        with_reducible refine l_nil ?_
        refine ⟨?_, M⟩
        rw [show ((none : Option DisV).isNone && !decide (x.own.met = inf)) = (x.own.met != 65535) by unfold inf; by_cases h : x.own.met = 65535 <;> simp [h]]
        exact F.only [115, 20, 97, 96, 95, 14, 11, 12, 13, 3, 6, 10] rfl
      | some o2 =>
        rw [hg2] at F M
        dsimp only [Option.isSome, Option.getD] at F M
        with_reducible refine c_region ?_
        refine stepD rfl F rfl (o_move (F.ev rfl) ?_); clear F; clear a; intro a F
        refine stepD rfl F rfl (o_not (F.ev rfl) ?_); clear F; clear a; intro a F
        refine stepD rfl F rfl (o_move (F.ev rfl) ?_); clear F; clear a; intro a F
        refine stepOff F rfl rfl rfl rfl ?_; clear F; clear a; intro a F
        refine stepOff F rfl rfl rfl rfl ?_; clear F; clear a; intro a F
        refine stepOff F rfl rfl rfl rfl ?_; clear F; clear a; intro a F
        refine stepOff F rfl rfl rfl rfl ?_; clear F; clear a; intro a F
        refine stepD rfl F rfl (o_pickF (F.ev rfl) (F.ev rfl) ?_); clear F; clear a; intro a F
        with_reducible refine l_nil ?_
        exact ⟨F.only [115, 20, 97, 96, 95, 14, 11, 12, 13, 3, 6, 10] rfl, M⟩
    clear F M a w
    rintro a w ⟨F, M⟩
    cases hkp : dropG l x
    · rw [hkp] at F hrt
      rw [if_neg (by simp), List.append_nil] at hrt
      with_reducible refine q_then ?_
      refine c_false F rfl rfl ?_
      with_reducible refine c_skip ?_
      with_reducible refine q_inB ?_
      with_reducible refine q_then ?_
      with_reducible refine c_region ?_
      refine stepD rfl F rfl (o_add (F.ev rfl) (F.ev rfl) (w_i64 (by omega) (by omega)) ?_); clear F; clear a; intro a F
      refine stepD rfl F rfl (o_move (F.ev rfl) ?_); clear F; clear a; intro a F
      with_reducible refine l_nil ?_
      with_reducible refine q_then ?_
      exact ⟨_, by omega, i + 1, v, es, rfl, by omega, by rw [hrt, ← hout]; exact hOs, F.only [97, 96, 95, 14, 11, 12, 13, 3, 6, 10] rfl, M.sub (.cons _ (.cons _ (.refl _)))⟩
    · rw [hkp] at F hrt
      rw [if_pos rfl] at hrt
      have hri : IsAv (retr x) := hxi
      have e8 : (avC (retr x)).length = 37 := av_len hri
      have f0 := av_all hri
      with_reducible refine q_then ?_
      refine c_true F rfl rfl ?_
      with_reducible refine c_seq ?_
      with_reducible refine c_region ?_
      refine stepD rfl F rfl (o_fieldAddr (F.ev rfl) ?_); clear F; clear a; intro a F
      refine stepD rfl F rfl (o_fieldAddr (F.ev rfl) ?_); clear F; clear a; intro a F
      (refine stepN rfl F (o_store1 M (F.ev rfl) (F.ev rfl) rfl (by repeat (first | exact .here | apply Has.there)) (av_put_own_met hxi 65535) (by repeat (first | exact .here | apply Upd.there)) ?_); clear F; clear M; intro w M a F)
      replace M : Mem [] W w ((b21, .cells (diC ((getO l x.to).getD di0)).toArray 50 (0, 0)) :: (b20, .cells (avC (retr x)).toArray 52 (0, 0)) :: (b10, .cells (plC (.slice p l.length c) fl2).toArray 24 (0, 0)) :: (b6, .cells #[.slice none 0 0, .int .i64 0] 24 (0, 0)) :: (b3, .cells #[.slice (some ⟨b, o, none⟩) T.length ct, .int .i64 fl] 24 (0, 0)) :: (m1, o1) :: (m2, o2) :: (eu ++ es)) := M
      with_reducible refine l_nil ?_
      with_reducible refine q_then ?_
      with_reducible refine c_region ?_
      refine stepD rfl F rfl (o_move (F.ev rfl) ?_); clear F; clear a; intro a F
      refine stepD rfl F rfl (o_loadA M (F.ev rfl) (by repeat (first | exact .here | apply Has.there)) (by first | assumption | rfl) ?_); clear F; clear a; intro a F
      (refine stepD rfl F rfl (o_buildSlice F M rfl rfl rfl (av_build1 hri) ?_); clear F; clear M; intro bs w M a F)
      (refine stepD rfl F rfl (o_append hOs M (.cons (.cons (.cons (.cons (.cons (.cons (.cons (.cons (.app .here))))))))) (F.ev rfl) (F.ev rfl) (SrcOf.cells' (M.heap .here) (sg_all (by omega)) (av_one _)) (by omega) (by omega) ?_); clear F; clear M; intro v2 es2 w hO2 M a F)
      refine stepD rfl F rfl (o_assign (F.ev rfl) ?_); clear F; clear a; intro a F
      with_reducible refine l_nil ?_
      with_reducible refine q_inB ?_
      with_reducible refine q_then ?_
      with_reducible refine c_region ?_
      refine stepD rfl F rfl (o_add (F.ev rfl) (F.ev rfl) (w_i64 (by omega) (by omega)) ?_); clear F; clear a; intro a F
      refine stepD rfl F rfl (o_move (F.ev rfl) ?_); clear F; clear a; intro a F
      with_reducible refine l_nil ?_
      with_reducible refine q_then ?_
      exact ⟨_, by omega, i + 1, v2, es2, rfl, by omega, by rw [hrt, ← List.append_assoc, ← hout]; show OwnS _ 37 _ (out ++ [retr x]).length (encL avC (out ++ [retr x])) _; rw [show (out ++ [retr x]).length = out.length + 1 by simp, encL_app, encL_one]; exact hO2, F.only [97, 96, 95, 14, 11, 12, 13, 3, 6, 10] rfl, M.sub (.cons _ (.cons _ (.cons _ (.refl _))))⟩
  obtain rfl : i = T.length := by omega
  rw [List.take_length] at hOs
  change OwnS _ 37 v (sentG full T l).length (avsC (sentG full T l)) es at hOs
  have hsl := sentG_len full T l
  have ims : ∀ x ∈ mrg full l T, IsAv x := fun x hx => by
    rcases (hspec.1 x).1 hx with ⟨h1, _⟩ | ⟨y, h1, _, rfl⟩
    · exact il x h1
    · exact iT y h1
  have hmem : ∀ x, x ∈ mrg full l T ↔ x ∈ sentG full T l := fun x => (hspec.1 x).trans mem_sentG.symm
  have iss : ∀ x ∈ sentG full T l, IsAv x := fun x hx => ims x ((hmem x).2 hx)
  with_reducible refine c_seq ?_
  with_reducible refine c_region ?_
  refine stepD rfl F rfl (o_lssF (F.ev rfl) (F.ev rfl) (by omega) ?_); clear F; clear a; intro a F
  with_reducible refine l_nil ?_
  with_reducible refine q_then ?_
  with_reducible refine c_seq ?_
  refine c_false F rfl rfl ?_
  with_reducible refine c_exit ?_
  with_reducible refine q_thenX ?_
  with_reducible refine q_thenX ?_
  with_reducible refine q_inBX ?_
  with_reducible refine q_then ?_
  with_reducible refine c_seq ?_
  with_reducible refine c_region ?_
  refine stepD rfl F rfl (o_move (F.ev rfl) ?_); clear F; clear a; intro a F
  (refine stepD rfl F rfl (o_call (F.ev rfl) (F.evs rfl) (Cal.mono (sortA_c (sentG full T l) (mrg full l T) iss (sentG_nodup al aT) hspec.2.1 hmem (by omega) M hOs (.cons (.cons (.cons (.cons (.cons (.app .here))))))) ?_)); clear F; clear a; clear M; rintro _ w ⟨es2, hO2, M⟩ a F)
  have hml2 : (sentG full T l).length = (mrg full l T).length := by
    have h1 := hO2.len
    rw [show (avsC (mrg full l T)).length = (mrg full l T).length * 37 from encL_len (avs_len ims)] at h1
    omega
  rw [hml2] at hO2
  with_reducible refine l_nil ?_
  with_reducible refine q_then ?_
  with_reducible refine c_seq ?_
  with_reducible refine c_region ?_
  refine stepD rfl F rfl (o_move (F.ev rfl) ?_); clear F; clear a; intro a F
  (refine stepD rfl F rfl (o_call (F.ev rfl) (F.evs rfl) (Cal.mono (containsA_c (mrg full l T) ims (by omega) v _ (hO2.slAt M (fun q hq => by simp [hq]))) ?_)); clear F; clear a; rintro _ w ⟨rfl, hE⟩ a F; replace M := M.later hE; clear hE)
  refine stepD rfl F rfl (o_assign (F.ev rfl) ?_); clear F; clear a; intro a F
  with_reducible refine l_nil ?_
  with_reducible refine q_then ?_
  with_reducible refine c_seq ?_
  with_reducible refine c_region ?_
  refine stepD rfl F rfl (o_loadA M (F.ev rfl) (by repeat (first | exact .here | apply Has.there)) (by first | assumption | rfl) ?_); clear F; clear a; intro a F
  refine stepD rfl F rfl (o_move (F.ev rfl) ?_); clear F; clear a; intro a F
  refine stepD rfl F rfl (o_move (F.ev rfl) ?_); clear F; clear a; intro a F
  (refine stepN rfl F (o_storeA M (F.ev rfl) (F.ev rfl) (by rfl) (by rfl) (by repeat (first | exact .here | apply Has.there)) (by rfl) (by repeat (first | exact .here | apply Upd.there)) ?_); clear F; clear M; intro w M a F)
  refine stepD rfl F rfl (o_assign (F.ev rfl) ?_); clear F; clear a; intro a F
  refine stepD rfl F rfl (o_assign (F.ev rfl) ?_); clear F; clear a; intro a F
  refine stepD rfl F rfl (o_assign (F.ev rfl) ?_); clear F; clear a; intro a F
  with_reducible refine l_nil ?_
  with_reducible refine q_then ?_
  with_reducible refine c_ret ?_
  exact p_ret F rfl (.cons (.cell (F.ev rfl) (run_loadVar_agg TAgg.h (M.heap (by repeat (first | exact .here | apply Has.there))) rfl)) (.cons (.tmp (F.ev rfl)) (.cons (.tmp (F.ev rfl)) (.cons (.tmp (F.ev rfl)) .nil)))) ⟨_, _, eu, es2, rfl, hO, hO2, M.sub (.cons _ (.cons _ (.cons _ (.cons _ (.cons _ (.refl _))))))⟩
end Go.Proofs.Ytilgoepokaaleaa
/-! YD -/
namespace Go.Proofs.Ytilgoepokaaleaa
set_option linter.unusedVariables false
set_option linter.unusedSimpArgs false
open Go.RowKit
attribute [local irreducible] OpTo wpListIn Code.wpIn MW Cal
/-! Vary -/
def VarI (l s m : List AdvV) : Prop := (m.map AdvV.to).Sublist (s.map AdvV.to) ∧ ∀ y ∈ m, IsAv y ∧ (validM y.own.met = true ∨ ∃ z ∈ l, z.own = y.own)
theorem VarI.add {l s m : List AdvV} {x y : AdvV} (h : VarI l s m) (e : y.to = x.to) (hy : IsAv y ∧ (validM y.own.met = true ∨ ∃ z ∈ l, z.own = y.own)) : VarI l (s ++ [x]) (m ++ [y]) := by
  refine ⟨?_, fun z hz => ?_⟩
  · rw [List.map_append, List.map_append, List.map_singleton, List.map_singleton, e]
    exact h.1.append (List.Sublist.refl _)
  · rcases List.mem_append.1 hz with h1 | h1
    · exact h.2 z h1
    · simp only [List.mem_singleton] at h1
      rw [h1]; exact hy
theorem VarI.skip {l s m : List AdvV} {x : AdvV} (h : VarI l s m) : VarI l (s ++ [x]) m := ⟨by rw [List.map_append]; exact h.1.trans (List.sublist_append_left _ _), h.2⟩
theorem VarI.valid {l m : List AdvV} (h : VarI l l m) (hv : validAs l = true) : validAs m = true := by
  obtain ⟨v1, v2, v3⟩ := validAs_iff.1 hv
  have hlen : m.length ≤ l.length := by simpa using h.1.length_le
  refine validAs_iff.2 ⟨by omega, fun y hy => ⟨?_, ?_⟩, ?_⟩
  · have : y.to ∈ l.map AdvV.to := h.1.subset (List.mem_map_of_mem hy)
    obtain ⟨z, hz, e⟩ := List.mem_map.1 this
    rw [← e]
    exact (v2 z hz).1
  · rcases (h.2 y hy).2 with h1 | ⟨z, hz, e⟩
    · exact h1
    · rw [← e]
      exact (v2 z hz).2
  · have h3 : (l.map AdvV.to).Pairwise fun a b => cmpD a b < 0 := List.pairwise_map.2 v3
    exact List.pairwise_map.1 (h3.sublist h.1)
set_option maxHeartbeats 4000000 in
theorem vary_c {bt : Nat} {p : Option Addr} {len cap k : Nat} {xs : List Int} (l : List AdvV) (hx : ∀ x ∈ l, IsAv x) (hlen : l.length ≤ 100000) (v : Value) (W : World) (hS : SlAt W 37 v l.length (avsC l)) (hnb : ∀ b o s k c, v = .slice (some ⟨b, o, s⟩) k c → b ∉ [bt]) (hT : TapeS W bt p len xs) (hb : W.heap[bt]? = some (tobj p len cap k)) :
    Cal Try.prog 14 [.pointer (some ⟨bt, 0, none⟩), v].toArray W fun r w' => ∃ m k' ent, OwnS 52 37 r m.length (avsC m) ent ∧ (∀ x ∈ m, IsAv x) ∧ m.length ≤ l.length ∧ (validAs l = true → validAs m = true) ∧ Mem [bt] W w' ((bt, tobj p len cap k') :: ent) := by
  have hbt : bt < W.heap.size := (Array.getElem?_eq_some_iff.1 hb).1
  obtain ⟨q, qc, hv, _, _, _, _⟩ := id hS
  subst hv
  refine fn_ofM (n := 33) [bt] Try.func14 rfl rfl rfl ?_
  intro a w F M hwW
  replace M := M.came hwW hb (by simp) (by simp)
  with_reducible refine c_seq ?_
  with_reducible refine c_region ?_
  refine stepD rfl F rfl (o_assign (F.ev rfl) ?_); clear F; clear a; intro a F
  with_reducible refine l_nil ?_
  with_reducible refine q_then ?_
  with_reducible refine c_seq ?_
  with_reducible refine c_region ?_
  refine stepD rfl F rfl (o_assign (F.ev rfl) ?_); clear F; clear a; intro a F
  with_reducible refine l_nil ?_
  with_reducible refine q_then ?_
  with_reducible refine c_seq ?_
  with_reducible refine c_seq ?_
  with_reducible refine c_region ?_
  refine stepD rfl F rfl (o_move (F.ev rfl) ?_); clear F; clear a; intro a F
  refine stepD rfl F rfl (o_lenSl (F.ev rfl) ?_); clear F; clear a; intro a F
  refine stepD rfl F rfl (o_move (F.ev rfl) ?_); clear F; clear a; intro a F
  with_reducible refine l_nil ?_
  with_reducible refine q_then ?_
  with_reducible refine c_block ?_
  obtain ⟨u, hu⟩ : ∃ u, u = Value.slice none 0 0 := ⟨_, rfl⟩
  rw [← hu] at F
  obtain ⟨es, hes⟩ : ∃ es : List (Nat × Obj), es = [] := ⟨_, rfl⟩
  replace M : Mem [bt] W w ((bt, tobj p len cap k) :: es) := by
    rw [hes]
    exact M
  have hOs : OwnS 52 37 u ([] : List AdvV).length (avsC []) es := by
    rw [hu, hes]
    exact OwnS.nil _ _
  clear hu hes
  refine c_loop (fun m a w => ∃ (i k : Nat) (u : Value) (out : List AdvV) (es : List (Nat × Obj)), m = l.length - i ∧ i ≤ l.length ∧ out.length ≤ i ∧ VarI l (l.take i) out ∧ OwnS 52 37 u out.length (avsC out) es ∧ Frm a 33 [] [(10, .int .i64 i), (9, .int .i64 l.length), (8, .slice q l.length qc), (5, u), (0, .pointer (some ⟨bt, 0, none⟩))] ∧ Mem [bt] W w ((bt, tobj p len cap k) :: es)) l.length ⟨0, k, u, [], es, rfl, by omega, by simp, ⟨by simp, by simp⟩, hOs, F.only [10, 9, 8, 5, 0] rfl, M⟩ ?_
  clear F M a hOs u es
  rintro m a w ⟨i, kk, u, out, es, hm', hi, hol, hV, hOs, F, M⟩
  by_cases hlt : i < l.length
  · obtain ⟨b, o, cs, t, fz, rfl, hbw, hs⟩ := (hS.laterB hnb M.ext).mem (by omega)
    have htk : l.take (i + 1) = l.take i ++ [l[i]] := by
      rw [List.take_add_one, List.getElem?_eq_getElem hlt]
      rfl
    obtain ⟨y, hy0⟩ : ∃ y, y = l[i] := ⟨_, rfl⟩
    have hyi : IsAv y := by rw [hy0]; exact hx _ (List.getElem_mem hlt)
    have hym : y ∈ l := by rw [hy0]; exact List.getElem_mem hlt
    have f1 : seg cs (o + (i : Int).toNat * 37) 37 = some (avC y) := by rw [hy0]; exact seg_el (avs_len hx) hs hlt (by omega)
    rw [← hy0] at htk
    have f2 : (avC y).length = 37 := av_len hyi
    with_reducible refine c_seq ?_
    with_reducible refine c_region ?_
    refine stepD rfl F rfl (o_lssT (F.ev rfl) (F.ev rfl) (by omega) ?_); clear F; clear a; intro a F
    with_reducible refine l_nil ?_
    with_reducible refine q_then ?_
    with_reducible refine c_seq ?_
    refine c_true F rfl rfl ?_
    with_reducible refine c_skip ?_
    with_reducible refine q_then ?_
    with_reducible refine c_seq ?_
    with_reducible refine c_block ?_
    with_reducible refine c_seq ?_
    with_reducible refine c_region ?_
    refine stepD rfl F rfl (o_indexSl (F.ev rfl) (F.ev rfl) (by omega) (by omega) ?_); clear F; clear a; intro a F
    (refine stepD rfl F rfl (o_load (F.ev rfl) (run_loadVar_agg TAgg.h hbw f1) ?_); clear F; clear a; intro a F)
    (refine stepD rfl F rfl (o_alloc M ?_); clear F; clear M; intro b7 w M a F)
    (refine stepN rfl F (o_storeA M (F.ev rfl) (F.ev rfl) (f2) (av_one y)  (by repeat (first | exact .here | apply Has.there))  (put_all (by rw [f2]; rfl)) (by repeat (first | exact .here | apply Upd.there)) ?_); clear F; clear M; intro w M a F)
    with_reducible refine l_nil ?_
    with_reducible refine q_then ?_
    with_reducible refine c_seq ?_
    with_reducible refine c_seq ?_
    with_reducible refine c_region ?_
    refine stepD rfl F rfl (o_move (F.ev rfl) ?_); clear F; clear a; intro a F
    (refine stepD rfl F rfl (o_call (F.ev rfl) (F.evs rfl) (Cal.mono (nextE_c 5 (by omega) (by omega) _ (hT.later M.ext) (M.heap (.there .here)) ) ?_)); clear F; clear a; have M0 := M; clear M; rintro _ w ⟨z, k2, rfl, hz, N⟩ a F)
    replace M := M0.turn1 N (.there .here)
    clear M0 N
    by_cases z0 : z = 0
    · with_reducible refine l_nil ?_
      with_reducible refine q_then ?_
      with_reducible refine c_block ?_
      with_reducible refine c_seq ?_
      with_reducible refine c_region ?_
      refine stepD rfl F rfl (o_eqlT (F.ev rfl) (F.ev rfl) (by omega) ?_); clear F; clear a; intro a F
      refine stepD rfl F rfl (o_assign (F.ev rfl) ?_); clear F; clear a; intro a F
      with_reducible refine l_nil ?_
      with_reducible refine q_then ?_
      refine c_true F rfl rfl ?_
      with_reducible refine c_exit ?_
      refine q_inBY rfl ?_
      with_reducible refine q_thenX ?_
      with_reducible refine q_inBX ?_
      with_reducible refine q_then ?_
      with_reducible refine c_region ?_
      refine stepD rfl F rfl (o_add (F.ev rfl) (F.ev rfl) (w_i64 (by omega) (by omega)) ?_); clear F; clear a; intro a F
      refine stepD rfl F rfl (o_move (F.ev rfl) ?_); clear F; clear a; intro a F
      with_reducible refine l_nil ?_
      with_reducible refine q_then ?_
      exact ⟨_, by omega, i + 1, k2, u, out, es, rfl, by omega, by omega, by rw [htk]; exact hV.skip, hOs, F.only [10, 9, 8, 5, 0] rfl, M.sub (.cons _ (.refl _))⟩
    refine l_nil ?_
    refine q_then ?_
    repeat (with_reducible refine c_seq ?_)
    refine c_cut (fun a w => ∃ (x : AdvV) (k : Nat), (x.to = y.to ∧ IsAv x ∧ (validM x.own.met = true ∨ x.own = y.own)) ∧ Frm a 33 [] [(7, .pointer (some ⟨b7, 0, none⟩)), (10, .int .i64 i), (9, .int .i64 l.length), (8, .slice (some ⟨b, o, none⟩) l.length qc), (5, u), (0, .pointer (some ⟨bt, 0, none⟩))] ∧ Mem [bt] W w ((b7, .cells (avC x).toArray 52 (0, 0)) :: (bt, tobj p len cap k) :: es)) ?_ ?_
    · by_cases z1 : z = 1
      · with_reducible refine c_block ?_
        with_reducible refine c_seq ?_
        with_reducible refine c_region ?_
        refine stepD rfl F rfl (o_eqlF (F.ev rfl) (F.ev rfl) (by omega) ?_); clear F; clear a; intro a F
        refine stepD rfl F rfl (o_assign (F.ev rfl) ?_); clear F; clear a; intro a F
        with_reducible refine l_nil ?_
        with_reducible refine q_then ?_
        refine c_false F rfl rfl ?_
        with_reducible refine c_seq ?_
        with_reducible refine c_region ?_
        refine stepD rfl F rfl (o_eqlT (F.ev rfl) (F.ev rfl) (by omega) ?_); clear F; clear a; intro a F
        refine stepD rfl F rfl (o_assign (F.ev rfl) ?_); clear F; clear a; intro a F
        with_reducible refine l_nil ?_
        with_reducible refine q_then ?_
        refine c_true F rfl rfl ?_
        with_reducible refine c_region ?_
        refine stepD rfl F rfl (o_move (F.ev rfl) ?_); clear F; clear a; intro a F
        (refine stepD rfl F rfl (o_call (F.ev rfl) (F.evs rfl) (Cal.mono (distE_c _ (hT.later M.ext) (M.heap (.there .here)) ) ?_)); clear F; clear a; have M0 := M; clear M; rintro _ w ⟨ds, k3, rfl, hds, N⟩ a F)
        replace M := M0.turn1 N (.there .here)
        clear M0 N
        refine stepD rfl F rfl (o_fieldAddr (F.ev rfl) ?_); clear F; clear a; intro a F
        (refine stepN rfl F (o_storeA M (F.ev rfl) (F.ev rfl) (di_len (o := ds) trivial) (di_one ds)  (by repeat (first | exact .here | apply Has.there))  (av_put_own hyi (z := ds) trivial) (by repeat (first | exact .here | apply Upd.there)) ?_); clear F; clear M; intro w M a F)
        with_reducible refine l_nil ?_
        with_reducible refine q_inB ?_
        exact ⟨{ y with own := ds }, k3, ⟨rfl, ⟨hyi.1, trivial⟩, .inl (validM_of hds)⟩, F.only [7, 10, 9, 8, 5, 0] rfl, M⟩
      by_cases z2 : z = 2
      · with_reducible refine c_block ?_
        with_reducible refine c_seq ?_
        with_reducible refine c_region ?_
        refine stepD rfl F rfl (o_eqlF (F.ev rfl) (F.ev rfl) (by omega) ?_); clear F; clear a; intro a F
        refine stepD rfl F rfl (o_assign (F.ev rfl) ?_); clear F; clear a; intro a F
        with_reducible refine l_nil ?_
        with_reducible refine q_then ?_
        refine c_false F rfl rfl ?_
        with_reducible refine c_seq ?_
        with_reducible refine c_region ?_
        refine stepD rfl F rfl (o_eqlF (F.ev rfl) (F.ev rfl) (by omega) ?_); clear F; clear a; intro a F
        refine stepD rfl F rfl (o_assign (F.ev rfl) ?_); clear F; clear a; intro a F
        with_reducible refine l_nil ?_
        with_reducible refine q_then ?_
        refine c_false F rfl rfl ?_
        with_reducible refine c_seq ?_
        with_reducible refine c_region ?_
        refine stepD rfl F rfl (o_eqlT (F.ev rfl) (F.ev rfl) (by omega) ?_); clear F; clear a; intro a F
        refine stepD rfl F rfl (o_assign (F.ev rfl) ?_); clear F; clear a; intro a F
        with_reducible refine l_nil ?_
        with_reducible refine q_then ?_
        refine c_true F rfl rfl ?_
        with_reducible refine c_region ?_
        refine stepD rfl F rfl (o_fieldAddr (F.ev rfl) ?_); clear F; clear a; intro a F
        refine stepD rfl F rfl (o_fieldAddr (F.ev rfl) ?_); clear F; clear a; intro a F
        (refine stepN rfl F (o_store1 M (F.ev rfl) (F.ev rfl) rfl (by repeat (first | exact .here | apply Has.there)) (av_put_own_met hyi 65535) (by repeat (first | exact .here | apply Upd.there)) ?_); clear F; clear M; intro w M a F)
        with_reducible refine l_nil ?_
        with_reducible refine q_inB ?_
        exact ⟨{ y with own := { y.own with met := 65535 } }, k2, ⟨rfl, ⟨hyi.1, trivial⟩, .inl rfl⟩, F.only [7, 10, 9, 8, 5, 0] rfl, M⟩
      · with_reducible refine c_block ?_
        with_reducible refine c_seq ?_
        with_reducible refine c_region ?_
        refine stepD rfl F rfl (o_eqlF (F.ev rfl) (F.ev rfl) (by omega) ?_); clear F; clear a; intro a F
        refine stepD rfl F rfl (o_assign (F.ev rfl) ?_); clear F; clear a; intro a F
        with_reducible refine l_nil ?_
        with_reducible refine q_then ?_
        refine c_false F rfl rfl ?_
        with_reducible refine c_seq ?_
        with_reducible refine c_region ?_
        refine stepD rfl F rfl (o_eqlF (F.ev rfl) (F.ev rfl) (by omega) ?_); clear F; clear a; intro a F
        refine stepD rfl F rfl (o_assign (F.ev rfl) ?_); clear F; clear a; intro a F
        with_reducible refine l_nil ?_
        with_reducible refine q_then ?_
        refine c_false F rfl rfl ?_
        with_reducible refine c_seq ?_
        with_reducible refine c_region ?_
        refine stepD rfl F rfl (o_eqlF (F.ev rfl) (F.ev rfl) (by omega) ?_); clear F; clear a; intro a F
        refine stepD rfl F rfl (o_assign (F.ev rfl) ?_); clear F; clear a; intro a F
        with_reducible refine l_nil ?_
        with_reducible refine q_then ?_
        refine c_false F rfl rfl ?_
        with_reducible refine c_skip ?_
        with_reducible refine q_inB ?_
        exact ⟨y, k2, ⟨rfl, hyi, .inr rfl⟩, F.only [7, 10, 9, 8, 5, 0] rfl, M⟩
    clear F M a
    rintro a w ⟨x, k3, ⟨hx1, hx2, hx3⟩, F, M⟩
    have g1 : (avC x).length = 37 := av_len hx2
    have g2 := av_all hx2
    with_reducible refine q_then ?_
    with_reducible refine c_region ?_
    refine stepD rfl F rfl (o_move (F.ev rfl) ?_); clear F; clear a; intro a F
    refine stepD rfl F rfl (o_loadA M (F.ev rfl) (by repeat (first | exact .here | apply Has.there)) (by first | assumption | rfl) ?_); clear F; clear a; intro a F
    (refine stepD rfl F rfl (o_buildSlice F M rfl rfl rfl (av_build1 hx2) ?_); clear F; clear M; intro bs w M a F)
    (refine stepD rfl F rfl (o_append hOs M (.cons (.cons (.cons .here))) (F.ev rfl) (F.ev rfl) (SrcOf.cells' (M.heap .here) (sg_all (by omega)) (av_one _)) (by omega) (by omega) ?_); clear F; clear M; intro v2 es2 w hO2 M a F)
    refine stepD rfl F rfl (o_assign (F.ev rfl) ?_); clear F; clear a; intro a F
    with_reducible refine l_nil ?_
    with_reducible refine q_inB ?_
    with_reducible refine q_then ?_
    with_reducible refine c_region ?_
    refine stepD rfl F rfl (o_add (F.ev rfl) (F.ev rfl) (w_i64 (by omega) (by omega)) ?_); clear F; clear a; intro a F
    refine stepD rfl F rfl (o_move (F.ev rfl) ?_); clear F; clear a; intro a F
    with_reducible refine l_nil ?_
    with_reducible refine q_then ?_
    exact ⟨_, by omega, i + 1, k3, v2, out ++ [x], es2, rfl, by omega, by simp; omega, by rw [htk]; exact hV.add hx1 ⟨hx2, hx3.imp_right fun e => ⟨y, hym, e.symm⟩⟩, by show OwnS _ 37 _ (out ++ [x]).length (encL avC (out ++ [x])) _; rw [show (out ++ [x]).length = out.length + 1 by simp, encL_app, encL_one]; exact hO2, F.only [10, 9, 8, 5, 0] rfl, M.sub (.cons _ (.cons _ (.refl _)))⟩
  · obtain rfl : i = l.length := by omega
    rw [List.take_length] at hV
    with_reducible refine c_seq ?_
    with_reducible refine c_region ?_
    refine stepD rfl F rfl (o_lssF (F.ev rfl) (F.ev rfl) (by omega) ?_); clear F; clear a; intro a F
    with_reducible refine l_nil ?_
    with_reducible refine q_then ?_
    with_reducible refine c_seq ?_
    refine c_false F rfl rfl ?_
    with_reducible refine c_exit ?_
    with_reducible refine q_thenX ?_
    with_reducible refine q_thenX ?_
    with_reducible refine q_inBX ?_
    with_reducible refine q_then ?_
    with_reducible refine c_seq ?_
    with_reducible refine c_region ?_
    refine stepD rfl F rfl (o_move (F.ev rfl) ?_); clear F; clear a; intro a F
    refine stepD rfl F rfl (o_assign (F.ev rfl) ?_); clear F; clear a; intro a F
    with_reducible refine l_nil ?_
    with_reducible refine q_then ?_
    with_reducible refine c_ret ?_
    refine p_ret F rfl (.cons (.tmp (F.ev rfl)) .nil) ?_
    exact ⟨out, kk, es, hOs, fun y hy => (hV.2 y hy).1, hol, hV.valid, M⟩
end Go.Proofs.Ytilgoepokaaleaa
/-! YE -/
namespace Go.Proofs.Ytilgoepokaaleaa
set_option linter.unusedVariables false
set_option linter.unusedSimpArgs false
open Go.RowKit
attribute [local irreducible] OpTo wpListIn Code.wpIn MW Cal
set_option maxHeartbeats 1000000 in
theorem samePlan_c (l : List AdvV) (hx : ∀ x ∈ l, IsAv x) (hlen : l.length ≤ 100000) (u v : Value) (fl : Int) (W : World) (hu : SlAt W 37 u l.length (avsC l)) (hv : SlAt W 37 v l.length (avsC l)) :
    Cal Try.prog 23 [.agg (plC u fl).toArray, .agg (plC v fl).toArray].toArray W fun r w' => r = .bool true ∧ Ext [] W w' := by
  have h1 := hu.one
  have h2 := hv.one
  unfold plC
  refine fn_ofM (n := 17) [] Try.func23 rfl rfl rfl ?_
  intro a w F M hwW
  refine c_seq ?_
  refine c_region ?_
  (refine stepD rfl F rfl (o_box M (F.ev rfl) rfl ?_); clear F; clear M; intro b2 w M a F)
  (refine stepD rfl F rfl (o_box M (F.ev rfl) rfl ?_); clear F; clear M; intro b3 w M a F)
  refine stepD rfl F rfl (o_assign (F.ev rfl) ?_); clear F; clear a; intro a F
  with_reducible refine l_nil ?_
  with_reducible refine q_then ?_
  with_reducible refine c_seq ?_
  with_reducible refine c_region ?_
  refine stepD rfl F rfl (o_fieldAddr (F.ev rfl) ?_); clear F; clear a; intro a F
  refine stepD rfl F rfl (o_load1 M (F.ev rfl) (by repeat (first | exact .here | apply Has.there)) (by first | assumption | rfl) ?_); clear F; clear a; intro a F
  refine stepD rfl F rfl (o_fieldAddr (F.ev rfl) ?_); clear F; clear a; intro a F
  refine stepD rfl F rfl (o_load1 M (F.ev rfl) (by repeat (first | exact .here | apply Has.there)) (by first | assumption | rfl) ?_); clear F; clear a; intro a F
  refine stepD rfl F rfl (o_eqlT (F.ev rfl) (F.ev rfl) (by omega) ?_); clear F; clear a; intro a F
  refine stepD rfl F rfl (o_move (F.ev rfl) ?_); clear F; clear a; intro a F
  refine stepG rfl F rfl rfl rfl (o_fieldAddr (F.ev rfl) ?_); clear F; clear a; intro a F
  refine stepG rfl F rfl rfl rfl (o_load1 M (F.ev rfl) (by repeat (first | exact .here | apply Has.there)) (by first | assumption | rfl) ?_); clear F; clear a; intro a F
  refine stepG rfl F rfl rfl rfl (o_fieldAddr (F.ev rfl) ?_); clear F; clear a; intro a F
  refine stepG rfl F rfl rfl rfl (o_load1 M (F.ev rfl) (by repeat (first | exact .here | apply Has.there)) (by first | assumption | rfl) ?_); clear F; clear a; intro a F
  (refine stepG rfl F rfl rfl rfl (o_call (F.ev rfl) (F.evs rfl) (Cal.mono (equalA_c l hx hlen u v _ (hu.later M.ext) (hv.later M.ext)) ?_)); clear F; clear a; rintro _ w ⟨rfl, hE⟩ a F; replace M := M.later hE; clear hE)
  refine stepD rfl F rfl (o_pickT (F.ev rfl) (F.ev rfl) ?_); clear F; clear a; intro a F
  refine stepD rfl F rfl (o_assign (F.ev rfl) ?_); clear F; clear a; intro a F
  with_reducible refine l_nil ?_
  with_reducible refine q_then ?_
  with_reducible refine c_ret ?_
  refine p_ret F rfl (.cons (.tmp (F.ev rfl)) .nil) ?_
  exact ⟨rfl, M.ext⟩
def toD (n : Int) : DstV := ⟨[n, 0, 0, 0, 0, 0, 0, 0, 0, 0, 0, 0, 0, 0, 0, 0], 64, zr16, 0, 3⟩
theorem toL_c (n : Int) (h0 : 0 ≤ n) (h1 : n < 256) (W : World) : Cal Try.prog 39 [.int .i64 n].toArray W fun r w' => r = .agg (dvC (toD n)).toArray ∧ Ext [] W w' := by
  refine fn_ofM (n := 8) [] Try.func39 rfl rfl rfl ?_
  intro a w F M hwW
  refine c_seq ?_
  refine c_region ?_
  (refine stepD rfl F rfl (o_alloc M ?_); clear F; clear M; intro b2 w M a F)
  with_reducible refine l_nil ?_
  with_reducible refine q_then ?_
  with_reducible refine c_seq ?_
  with_reducible refine c_region ?_
  refine stepD rfl F rfl (o_move (F.ev rfl) ?_); clear F; clear a; intro a F
  refine stepD rfl F rfl (o_conv (F.ev rfl) (w_u8 (by omega) (by omega)) ?_); clear F; clear a; intro a F
  refine stepD rfl F rfl (o_build F rfl rfl ?_); clear F; clear a; intro a F
  refine stepD rfl F rfl (o_build F rfl rfl ?_); clear F; clear a; intro a F
  refine stepD rfl F rfl (o_build F rfl rfl ?_); clear F; clear a; intro a F
  (refine stepN rfl F (o_storeA M (F.ev rfl) (F.ev rfl) (by rfl) (by rfl) (by repeat (first | exact .here | apply Has.there)) (by rfl) (by repeat (first | exact .here | apply Upd.there)) ?_); clear F; clear M; intro w M a F)
  with_reducible refine l_nil ?_
  with_reducible refine q_then ?_
  with_reducible refine c_ret ?_
  exact p_ret F rfl (.cons (.cell (F.ev rfl) (run_loadVar_agg TAgg.h (M.heap (by repeat (first | exact .here | apply Has.there))) rfl)) .nil) ⟨rfl, M.ext⟩
def kA : AdvV := ⟨toD 1, ⟨4, 300⟩⟩
def kR : AdvV := ⟨toD 1, ⟨4, 65535⟩⟩
def kB : AdvV := ⟨toD 2, ⟨0, 0⟩⟩
theorem toD_is {n : Int} (h0 : 0 ≤ n) (h1 : n < 256) : IsDv (toD n) := ⟨⟨rfl, by intro x hx; simp [toD] at hx; omega⟩, zr16_is⟩
theorem kA_is : IsAv kA := ⟨toD_is (by omega) (by omega), trivial⟩
theorem kR_is : IsAv kR := ⟨toD_is (by omega) (by omega), trivial⟩
theorem kB_is : IsAv kB := ⟨toD_is (by omega) (by omega), trivial⟩
theorem kmrg : mrg false [kB] [kA] = [kR, kB] := by
  have e1 : kB.to ≠ kA.to := by decide
  have e2 : ¬ cmpD kB.to kA.to < 0 := by decide +kernel
  rw [mrg_gt e1 e2, mrg_r, show mrg false [] [] = [] by rw [mrg]]
  rfl
theorem kdue : dueV [kA] 9 5 [kB] = ⟨[kB], 9, [kR, kB], true, 0⟩ := by
  have e1 : validAs [kA] = true := by decide +kernel
  have e2 : validAs [kB] = true := by decide +kernel
  unfold dueV
  rw [e1, e2]
  simp only [show isTime 9 = true from rfl, show isTime 5 = true from rfl, Bool.and_self, Bool.not_true, Bool.or_self, Bool.false_eq_true, if_false, show decide ((9 : Int) ≤ 5) = false from rfl, kmrg]
  rfl
def SlV (n : Nat) (cs : List Value) : Pred := fun v w => SlAt w 37 v n cs
theorem SlV.stays (n : Nat) (cs : List Value) : Stays keepAll (SlV n cs) := fun _ _ _ h E => SlAt.later h E
theorem slAt1 {w : World} {b : Nat} {x : AdvV} (hx : IsAv x) {t : TypeId} {fz : Nat × Nat} (h : w.heap[b]? = some (.cells (avC x).toArray t fz)) : SlAt w 37 (.slice (some ⟨b, 0, none⟩) 1 1) 1 (avsC [x]) :=
  ⟨_, _, rfl, Nat.le_refl _, by simp, by rw [show avsC [x] = avC x from encL_one _ _, av_len hx], fun _ => ⟨b, 0, _, _, _, rfl, h, by rw [show avsC [x] = avC x from encL_one _ _]; exact sg_all (av_len hx)⟩⟩
set_option maxHeartbeats 4000000 in
theorem known_c (W : World) : Cal Try.prog 9 [].toArray W fun r w' => r = .bool true ∧ Ext [] W w' := by
  refine fn_ofM (n := 47) [] Try.func9 rfl rfl rfl ?_
  intro a w F M hwW
  with_reducible refine c_seq ?_
  with_reducible refine c_region ?_
  refine stepD rfl F rfl (o_assign (F.ev rfl) ?_); clear F; clear a; intro a F
  with_reducible refine l_nil ?_
  with_reducible refine q_then ?_
  with_reducible refine c_seq ?_
  with_reducible refine c_region ?_
  (refine stepD rfl F rfl (o_call (F.ev rfl) (F.evs rfl) (Cal.mono (toL_c 1 (by omega) (by omega) _) ?_)); clear F; clear a; rintro _ w ⟨rfl, hE⟩ a F; replace M := M.later hE; clear hE)
  refine stepD rfl F rfl (o_build F rfl rfl ?_); clear F; clear a; intro a F
  refine stepD rfl F rfl (o_build F rfl rfl ?_); clear F; clear a; intro a F
  (refine stepD rfl F rfl (o_buildSlice F M rfl rfl rfl rfl ?_); clear F; clear M; intro b9 w M a F)
  refine stepD rfl F rfl (o_build F rfl rfl ?_); clear F; clear a; intro a F
  (refine stepD rfl F rfl (o_call (F.ev rfl) (F.evs rfl) (Cal.mono (toL_c 2 (by omega) (by omega) _) ?_)); clear F; clear a; rintro _ w ⟨rfl, hE⟩ a F; replace M := M.later hE; clear hE)
  refine stepD rfl F rfl (o_build F rfl rfl ?_); clear F; clear a; intro a F
  (refine stepD rfl F rfl (o_buildSlice F M rfl rfl rfl rfl ?_); clear F; clear M; intro b13 w M a F)
  (refine stepD rfl F rfl (o_call (F.ev rfl) (F.evs (vs := [.agg (plC (.slice (some ⟨b9, 0, none⟩) 1 1) 9).toArray, .int .i64 5, .slice (some ⟨b13, 0, none⟩) 1 1]) rfl) (Cal.mono (udue_c [kA] [kB] (by simpa using kA_is) (by simpa using kB_is) _ _ 9 5 _ (slAt1 kA_is (M.heap (.there .here))) (slAt1 kB_is (M.heap .here))) ?_)); clear F; clear a; rintro _ w ⟨u, s, eu, es, rfl, hO1, hO2, N⟩ a F; replace M := M.joins N; clear N)
  rw [kdue] at F hO1 hO2
  dsimp only at F hO1 hO2
  obtain ⟨p1, c1, rfl⟩ := hO1.slice
  obtain ⟨p2, c2, rfl⟩ := hO2.slice
  have hS1 := hO1.slAt M (fun q hq => by simp [hq])
  have hS2 := hO2.slAt M (fun q hq => by simp [hq])
  have E0 := M.ext
  obtain ⟨wb, hwb, M⟩ : ∃ wb, wb = w ∧ Mem [] wb w [] := ⟨w, rfl, Mem.empty w⟩
  rw [← hwb] at hS1 hS2 E0
  clear hwb
  refine stepD rfl F rfl (o_move (F.ev rfl) ?_); clear F; clear a; intro a F
  refine stepD rfl F rfl (o_extract (F.ev rfl) rfl ?_); clear F; clear a; intro a F
  refine stepD rfl F rfl (o_extract (F.ev rfl) rfl ?_); clear F; clear a; intro a F
  refine stepD rfl F rfl (o_extract (F.ev rfl) rfl ?_); clear F; clear a; intro a F
  refine stepD rfl F rfl (o_extract (F.ev rfl) rfl ?_); clear F; clear a; intro a F
  (refine stepD rfl F rfl (o_alloc M ?_); clear F; clear M; intro b1 w M a F)
  skip
  (refine stepN rfl F (o_storeA M (F.ev rfl) (F.ev rfl) (by rfl) (by rfl) (by repeat (first | exact .here | apply Has.there)) (by rfl) (by repeat (first | exact .here | apply Upd.there)) ?_); clear F; clear M; intro w M a F)
  refine stepD rfl F rfl (o_assign (F.ev rfl) ?_); clear F; clear a; intro a F
  refine stepD rfl F rfl (o_assign (F.ev rfl) ?_); clear F; clear a; intro a F
  refine stepD rfl F rfl (o_assign (F.ev rfl) ?_); clear F; clear a; intro a F
  with_reducible refine l_nil ?_
  with_reducible refine q_then ?_
  with_reducible refine c_seq ?_
  replace F := F.only [1, 2, 3, 4] rfl
  refine c_draw 28 F (by kernel_rfl) ?_
  intro w1 hE hok
  have M1 := M.later hE
  refine mK hok rfl rfl (fun a' w' F' E' => o_move (F'.ev rfl) ⟨Ext.refl _ _, rfl⟩) ?_
  refine mK hok rfl rfl (fun a' w' F' E' => o_eqlT (F'.ev rfl) (F'.ev rfl) (by omega) ⟨Ext.refl _ _, rfl⟩) ?_
  refine mK hok rfl rfl (fun a' w' F' E' => o_move (F'.ev rfl) ⟨Ext.refl _ _, rfl⟩) ?_
  refine mKG hok rfl rfl rfl rfl (fun a' w' F' E' => o_move (F'.ev rfl) ⟨Ext.refl _ _, rfl⟩) ?_
  refine mK hok rfl rfl (fun a' w' F' E' => o_pickT (F'.ev rfl) (F'.ev rfl) ⟨Ext.refl _ _, rfl⟩) ?_
  refine mK hok rfl rfl (fun a' w' F' E' => o_move (F'.ev rfl) ⟨Ext.refl _ _, rfl⟩) ?_
  refine mKG hok rfl rfl rfl rfl (fun a' w' F' E' => o_fieldAddr (F'.ev rfl) ⟨Ext.refl _ _, rfl⟩) ?_
  refine mKG hok rfl rfl rfl rfl (fun a' w' F' E' => o_load1 (M1.later E') (F'.ev rfl) (by repeat (first | exact .here | apply Has.there)) (by first | assumption | rfl) ⟨Ext.refl _ _, rfl⟩) ?_
  refine mKG hok rfl rfl rfl rfl (fun a' w' F' E' => o_eqlT (F'.ev rfl) (F'.ev rfl) (by omega) ⟨Ext.refl _ _, rfl⟩) ?_
  refine mK hok rfl rfl (fun a' w' F' E' => o_pickT (F'.ev rfl) (F'.ev rfl) ⟨Ext.refl _ _, rfl⟩) ?_
  refine mK hok rfl rfl (fun a' w' F' E' => o_move (F'.ev rfl) ⟨Ext.refl _ _, rfl⟩) ?_
  refine mKG hok rfl rfl rfl rfl (fun a' w' F' E' => o_fieldAddr (F'.ev rfl) ⟨Ext.refl _ _, rfl⟩) ?_
  refine mKG hok rfl rfl rfl rfl (fun a' w' F' E' => o_load1 (M1.later E') (F'.ev rfl) (by repeat (first | exact .here | apply Has.there)) (by first | assumption | rfl) ⟨Ext.refl _ _, rfl⟩) ?_
  (refine mKG hok rfl rfl rfl rfl (fun a' w' F' E' => o_call (F'.ev rfl) (F'.evs rfl) (Cal.mono (toL_c 2 (by omega) (by omega) _) fun _ _ hh => ⟨hh.2, hh.1⟩)) ?_)
  refine mKG hok rfl rfl rfl rfl (fun a' w' F' E' => o_build F' rfl rfl ⟨Ext.refl _ _, rfl⟩) ?_
  refine mXG (V := SlV 1 (avsC [kB])) hok rfl rfl rfl rfl (SlV.stays _ _) (fun a' w' F' E' D' => o_buildSlice F' (Mem.empty w') rfl rfl rfl rfl fun b w'' M'' => ⟨M''.ext, slAt1 kB_is (M''.heap .here)⟩) ?_
  refine mKXG (v := .bool true) hok rfl rfl rfl rfl (fun a' w' F' E' D' => by
    have g : SlAt w' 37 _ 1 (avsC [kB]) := D' 15 (memDep rfl) (SlV 1 (avsC [kB])) (by kernel_rfl)
    obtain ⟨q, c, e, _⟩ := id g
    have F2 := F'.know (d := 34) e
    exact o_call (F2.ev rfl) (F2.evs rfl) (Cal.mono (equalA_c [kB] (by simpa using kB_is) (by simp) _ _ _ (hS1.later (M1.ext.trans E')) (e ▸ g)) fun _ _ hh => ⟨hh.2, hh.1⟩)) ?_
  refine mK hok rfl rfl (fun a' w' F' E' => o_pickT (F'.ev rfl) (F'.ev rfl) ⟨Ext.refl _ _, rfl⟩) ?_
  refine mK hok rfl rfl (fun a' w' F' E' => o_move (F'.ev rfl) ⟨Ext.refl _ _, rfl⟩) ?_
  refine mKG hok rfl rfl rfl rfl (fun a' w' F' E' => o_move (F'.ev rfl) ⟨Ext.refl _ _, rfl⟩) ?_
  (refine mKG hok rfl rfl rfl rfl (fun a' w' F' E' => o_call (F'.ev rfl) (F'.evs rfl) (Cal.mono (toL_c 1 (by omega) (by omega) _) fun _ _ hh => ⟨hh.2, hh.1⟩)) ?_)
  refine mKG hok rfl rfl rfl rfl (fun a' w' F' E' => o_build F' rfl rfl ⟨Ext.refl _ _, rfl⟩) ?_
  refine mKG hok rfl rfl rfl rfl (fun a' w' F' E' => o_build F' rfl rfl ⟨Ext.refl _ _, rfl⟩) ?_
  (refine mKG hok rfl rfl rfl rfl (fun a' w' F' E' => o_call (F'.ev rfl) (F'.evs rfl) (Cal.mono (toL_c 2 (by omega) (by omega) _) fun _ _ hh => ⟨hh.2, hh.1⟩)) ?_)
  refine mKG hok rfl rfl rfl rfl (fun a' w' F' E' => o_build F' rfl rfl ⟨Ext.refl _ _, rfl⟩) ?_
  refine mXG (V := SlV 2 (avsC [kR, kB])) hok rfl rfl rfl rfl (SlV.stays _ _) (fun a' w' F' E' D' => o_buildSlice F' (Mem.empty w') rfl rfl rfl rfl fun b w'' M'' => ⟨M''.ext, ⟨_, _, rfl, Nat.le_refl _, by simp, rfl, fun _ => ⟨b, 0, _, _, _, rfl, M''.heap .here, rfl⟩⟩⟩) ?_
  refine mKXG (v := .bool true) hok rfl rfl rfl rfl (fun a' w' F' E' D' => by
    have g : SlAt w' 37 _ 2 (avsC [kR, kB]) := D' 25 (memDep rfl) (SlV 2 (avsC [kR, kB])) (by kernel_rfl)
    obtain ⟨q, c, e, _⟩ := id g
    have F2 := F'.know (d := 44) e
    exact o_call (F2.ev rfl) (F2.evs rfl) (Cal.mono (equalA_c [kR, kB] (by simpa using ⟨kR_is, kB_is⟩) (by simp) _ _ _ (hS2.later (M1.ext.trans E')) (e ▸ g)) fun _ _ hh => ⟨hh.2, hh.1⟩)) ?_
  refine mK hok rfl rfl (fun a' w' F' E' => o_pickT (F'.ev rfl) (F'.ev rfl) ⟨Ext.refl _ _, rfl⟩) ?_
  (refine mDone rfl rfl ?_; clear F; clear M; intro a w F hE2 hX hTT hDD hPP; have M := M1.later hE2; clear M1; clear hX; clear hE2; clear hok; clear hE; clear hTT; clear hDD; clear hPP; (try dsimp only at F))
  refine stepD rfl F rfl (o_assign (F.ev rfl) ?_); clear F; clear a; intro a F
  with_reducible refine l_nil ?_
  with_reducible refine q_then ?_
  with_reducible refine c_ret ?_
  refine p_ret F rfl (.cons (.tmp (F.ev rfl)) .nil) ?_
  exact ⟨rfl, E0.trans M.ext⟩
/-! alike -/
theorem due_told (T l : List AdvV) (fl now : Int) : (∀ x ∈ l, IsAv x) → ∀ x ∈ (dueV T fl now l).told, IsAv x := by
  intro h
  unfold dueV
  split
  · simp
  · split
    · simp
    · exact h
theorem due_ok {T l : List AdvV} {fl now : Int} (h : (dueV T fl now l).err = 0) : validAs T = true ∧ isTime fl = true ∧ validAs l = true ∧ isTime now = true ∧ dueV T fl now l = ⟨l, if decide (fl ≤ now) then laterV now 3 else fl, mrg (decide (fl ≤ now)) l T, (mrg (decide (fl ≤ now)) l T).any fun a => decide (a.own.met = inf), 0⟩ := by
  unfold dueV at h ⊢
  cases h1 : validAs T
  · rw [h1] at h; simp at h
  cases h2 : isTime fl
  · rw [h1, h2] at h; simp at h
  cases h3 : validAs l
  · rw [h1, h2, h3] at h; simp at h
  cases h4 : isTime now
  · rw [h1, h2, h3, h4] at h; simp at h
  exact ⟨rfl, rfl, rfl, rfl, rfl⟩
theorem mrg_is {full : Bool} {T l : List AdvV} (hT : validAs T = true) (hl : validAs l = true) (iT : ∀ x ∈ T, IsAv x) (il : ∀ x ∈ l, IsAv x) : ∀ x ∈ mrg full l T, IsAv x := fun x hx => by
  rcases ((mrg_spec full l T (validAs_asc hl) (validAs_asc hT) (fun x h => (il x h).1) (fun x h => (iT x h).1)).1 x).1 hx with ⟨h1, _⟩ | ⟨y, h1, _, rfl⟩
  · exact il x h1
  · exact iT y h1
theorem due_sent {T l : List AdvV} {fl now : Int} (iT : ∀ x ∈ T, IsAv x) (il : ∀ x ∈ l, IsAv x) : ∀ x ∈ (dueV T fl now l).sent, IsAv x := by
  intro x hx
  by_cases h : (dueV T fl now l).err = 0
  · obtain ⟨h1, _, h3, _, h5⟩ := due_ok h
    rw [h5] at hx
    exact mrg_is h1 h3 iT il x hx
  · unfold dueV at h hx
    split at hx
    · cases hx
    · split at hx
      · cases hx
      · rename_i a1 a2
        rw [if_neg a1, if_neg a2] at h
        exact absurd rfl h
theorem due_sent_len (T l : List AdvV) (fl now : Int) : (dueV T fl now l).sent.length ≤ l.length + T.length := by
  unfold dueV
  split
  · simp
  · split
    · simp
    · exact mrg_len _ _ _
theorem due_told_len (T l : List AdvV) (fl now : Int) : (dueV T fl now l).told.length ≤ l.length := by
  unfold dueV
  split
  · simp
  · split
    · simp
    · exact Nat.le_refl _
theorem laterV_time {now d : Int} (h : isTime now = true) (hd : 0 ≤ d) : isTime (laterV now d) = true := by
  unfold isTime at h ⊢
  unfold laterV
  simp only [Bool.and_eq_true, decide_eq_true_eq] at h ⊢
  split <;> omega
theorem due_full {T l : List AdvV} {fl now : Int} (h : (dueV T fl now l).err = 0) : (validAs (dueV T fl now l).told && isTime (dueV T fl now l).full) = true := by
  obtain ⟨h1, h2, h3, h4, h5⟩ := due_ok h
  rw [h5]
  dsimp only
  rw [h3, Bool.true_and]
  split
  · exact laterV_time h4 (by omega)
  · exact h2
theorem due_valid {T l : List AdvV} {fl now : Int} (iT : ∀ x ∈ T, IsAv x) (il : ∀ x ∈ l, IsAv x) (hn : l.length + T.length ≤ 520) (h : (dueV T fl now l).err = 0) : validAs (dueV T fl now l).sent = true := by
  obtain ⟨h1, h2, h3, h4, h5⟩ := due_ok h
  rw [h5]
  exact mrg_valid h1 h3 (fun x h => (iT x h).1) (fun x h => (il x h).1) (Nat.le_trans (mrg_len _ _ _) hn)
set_option maxHeartbeats 8000000 in
theorem alike_c (T l : List AdvV) (iT : ∀ x ∈ T, IsAv x) (il : ∀ x ∈ l, IsAv x) (hn : l.length + T.length ≤ 520) (vt vl : Value) (fl now : Int) (W : World) (hST : SlAt W 37 vt T.length (avsC T)) (hSl : SlAt W 37 vl l.length (avsC l)) :
    Cal Try.prog 15 [.agg (plC vt fl).toArray, .int .i64 now, vl].toArray W fun r w' => r = .bool true ∧ Ext [] W w' := by
  have h1 := hST.one
  have q1 := due_told T l fl now il
  have q2 := due_sent (fl := fl) (now := now) iT il
  have q3 := due_sent_len T l fl now
  have q4 := due_told_len T l fl now
  have q5 := due_full (T := T) (l := l) (fl := fl) (now := now)
  have q6 := due_valid (fl := fl) (now := now) iT il hn
  have k0 := uvalid_c T iT vt fl
  have k1 := rvalid_c T iT vt fl
  have k2 := uvalidAs_c l il vl
  have k3 := rvalidAs_c l il vl
  have k4 := udue_c T l iT il vt vl fl now
  have k5 := rdue_c T l iT il vt vl fl now
  generalize dueV T fl now l = D at *
  unfold plC at *
  refine fn_ofM (n := 77) [] Try.func15 rfl rfl rfl ?_
  intro a w F M hwW
  refine c_seq ?_
  refine c_region ?_
  (refine stepD rfl F rfl (o_box M (F.ev rfl) rfl ?_); clear F; clear M; intro b3 w M a F)
  refine stepD rfl F rfl (o_assign (F.ev rfl) ?_); clear F; clear a; intro a F
  with_reducible refine l_nil ?_
  with_reducible refine q_then ?_
  with_reducible refine c_seq ?_
  with_reducible refine c_region ?_
  refine stepD rfl F rfl (o_loadA M (F.ev rfl) (by repeat (first | exact .here | apply Has.there)) (by first | assumption | rfl) ?_); clear F; clear a; intro a F
  refine stepD rfl F rfl (o_move (F.ev rfl) ?_); clear F; clear a; intro a F
  refine stepD rfl F rfl (o_move (F.ev rfl) ?_); clear F; clear a; intro a F
  (refine stepD rfl F rfl (o_call (F.ev rfl) (F.evs rfl) (Cal.mono (k4 _ (hST.later M.ext) (hSl.later M.ext)) ?_)); clear F; clear a; rintro _ w ⟨u1, s1, eu1, es1, rfl, hO1, hO2, N⟩ a F; replace M := M.joins N; clear N)
  obtain ⟨pu1, cu1, rfl⟩ := hO1.slice
  obtain ⟨ps1, cs1, rfl⟩ := hO2.slice
  replace M := M.perm (l' := (b3, .cells #[vt, .int .i64 fl] 24 (0, 0)) :: (eu1 ++ es1)) (by classical exact List.perm_iff_count.2 fun _ => by simp only [List.count_append, List.count_cons, List.count_nil, Nat.add_zero, Nat.zero_add] <;> ac_rfl)
  refine stepD rfl F rfl (o_move (F.ev rfl) ?_); clear F; clear a; intro a F
  refine stepD rfl F rfl (o_extract (F.ev rfl) rfl ?_); clear F; clear a; intro a F
  refine stepD rfl F rfl (o_extract (F.ev rfl) rfl ?_); clear F; clear a; intro a F
  refine stepD rfl F rfl (o_extract (F.ev rfl) rfl ?_); clear F; clear a; intro a F
  refine stepD rfl F rfl (o_extract (F.ev rfl) rfl ?_); clear F; clear a; intro a F
  (refine stepD rfl F rfl (o_alloc M ?_); clear F; clear M; intro b7 w M a F)
  (refine stepN rfl F (o_storeA M (F.ev rfl) (F.ev rfl) (by rfl) (by rfl) (by repeat (first | exact .here | apply Has.there)) (by rfl) (by repeat (first | exact .here | apply Upd.there)) ?_); clear F; clear M; intro w M a F)
  refine stepD rfl F rfl (o_assign (F.ev rfl) ?_); clear F; clear a; intro a F
  refine stepD rfl F rfl (o_assign (F.ev rfl) ?_); clear F; clear a; intro a F
  refine stepD rfl F rfl (o_assign (F.ev rfl) ?_); clear F; clear a; intro a F
  with_reducible refine l_nil ?_
  with_reducible refine q_then ?_
  with_reducible refine c_seq ?_
  with_reducible refine c_region ?_
  refine stepD rfl F rfl (o_loadA M (F.ev rfl) (by repeat (first | exact .here | apply Has.there)) (by first | assumption | rfl) ?_); clear F; clear a; intro a F
  refine stepD rfl F rfl (o_move (F.ev rfl) ?_); clear F; clear a; intro a F
  refine stepD rfl F rfl (o_move (F.ev rfl) ?_); clear F; clear a; intro a F
  (refine stepD rfl F rfl (o_call (F.ev rfl) (F.evs rfl) (Cal.mono (k5 _ (hST.later M.ext) (hSl.later M.ext)) ?_)); clear F; clear a; rintro _ w ⟨u2, s2, eu2, es2, rfl, hO3, hO4, N⟩ a F; replace M := M.joins N; clear N)
  obtain ⟨pu2, cu2, rfl⟩ := hO3.slice
  obtain ⟨ps2, cs2, rfl⟩ := hO4.slice
  replace M := M.perm (l' := (b7, .cells (plC (.slice pu1 D.told.length cu1) D.full).toArray 24 (0, 0)) :: (b3, .cells #[vt, .int .i64 fl] 24 (0, 0)) :: (eu1 ++ (es1 ++ (eu2 ++ es2)))) (by classical exact List.perm_iff_count.2 fun _ => by simp only [List.count_append, List.count_cons, List.count_nil, Nat.add_zero, Nat.zero_add] <;> ac_rfl)
  refine stepD rfl F rfl (o_move (F.ev rfl) ?_); clear F; clear a; intro a F
  refine stepD rfl F rfl (o_extract (F.ev rfl) rfl ?_); clear F; clear a; intro a F
  refine stepD rfl F rfl (o_extract (F.ev rfl) rfl ?_); clear F; clear a; intro a F
  refine stepD rfl F rfl (o_extract (F.ev rfl) rfl ?_); clear F; clear a; intro a F
  refine stepD rfl F rfl (o_extract (F.ev rfl) rfl ?_); clear F; clear a; intro a F
  (refine stepD rfl F rfl (o_alloc M ?_); clear F; clear M; intro b11 w M a F)
  (refine stepN rfl F (o_storeA M (F.ev rfl) (F.ev rfl) (by rfl) (by rfl) (by repeat (first | exact .here | apply Has.there)) (by rfl) (by repeat (first | exact .here | apply Upd.there)) ?_); clear F; clear M; intro w M a F)
  refine stepD rfl F rfl (o_assign (F.ev rfl) ?_); clear F; clear a; intro a F
  refine stepD rfl F rfl (o_assign (F.ev rfl) ?_); clear F; clear a; intro a F
  refine stepD rfl F rfl (o_assign (F.ev rfl) ?_); clear F; clear a; intro a F
  with_reducible refine l_nil ?_
  with_reducible refine q_then ?_
  with_reducible refine c_seq ?_
  have hS1 := hO1.slAt M (fun q hq => by simp [hq])
  have hS2 := hO2.slAt M (fun q hq => by simp [hq])
  have hS3 := hO3.slAt M (fun q hq => by simp [hq])
  have hS4 := hO4.slAt M (fun q hq => by simp [hq])
  clear hO1 hO2 hO3 hO4 k4 k5
  replace F := F.only [2, 3, 7, 8, 9, 10, 11, 12, 13, 14] rfl
  generalize (validAs T && isTime fl) = V1 at *
  generalize validAs l = V2 at *
  by_cases he : D.err = 0
  · have q5 := q5 he
    have q6 := q6 he
    rw [he] at F
    refine c_draw 44 F (by kernel_rfl) ?_
    intro w1 hE hok
    have M1 := M.later hE
    refine mK hok rfl rfl (fun a' w' F' E' => o_loadA (M1.later E') (F'.ev rfl) (by repeat (first | exact .here | apply Has.there)) (by first | assumption | rfl) ⟨Ext.refl _ _, rfl⟩) ?_
    (refine mK hok rfl rfl (fun a' w' F' E' => o_call (F'.ev rfl) (F'.evs rfl) (Cal.mono (k0 _ (hST.later (M1.ext.trans E'))) fun _ _ hh => ⟨hh.2, hh.1⟩)) ?_)
    refine mK hok rfl rfl (fun a' w' F' E' => o_loadA (M1.later E') (F'.ev rfl) (by repeat (first | exact .here | apply Has.there)) (by first | assumption | rfl) ⟨Ext.refl _ _, rfl⟩) ?_
    (refine mK hok rfl rfl (fun a' w' F' E' => o_call (F'.ev rfl) (F'.evs rfl) (Cal.mono (k1 _ (hST.later (M1.ext.trans E'))) fun _ _ hh => ⟨hh.2, hh.1⟩)) ?_)
    refine mK hok rfl rfl (fun a' w' F' E' => o_eqlBT (F'.ev rfl) (F'.ev rfl) rfl ⟨Ext.refl _ _, rfl⟩) ?_
    refine mK hok rfl rfl (fun a' w' F' E' => o_move (F'.ev rfl) ⟨Ext.refl _ _, rfl⟩) ?_
    refine mKG hok rfl rfl rfl rfl (fun a' w' F' E' => o_move (F'.ev rfl) ⟨Ext.refl _ _, rfl⟩) ?_
    (refine mKG hok rfl rfl rfl rfl (fun a' w' F' E' => o_call (F'.ev rfl) (F'.evs rfl) (Cal.mono (k2 _ (hSl.later (M1.ext.trans E'))) fun _ _ hh => ⟨hh.2, hh.1⟩)) ?_)
    refine mKG hok rfl rfl rfl rfl (fun a' w' F' E' => o_move (F'.ev rfl) ⟨Ext.refl _ _, rfl⟩) ?_
    (refine mKG hok rfl rfl rfl rfl (fun a' w' F' E' => o_call (F'.ev rfl) (F'.evs rfl) (Cal.mono (k3 _ (hSl.later (M1.ext.trans E'))) fun _ _ hh => ⟨hh.2, hh.1⟩)) ?_)
    refine mKG hok rfl rfl rfl rfl (fun a' w' F' E' => o_eqlBT (F'.ev rfl) (F'.ev rfl) rfl ⟨Ext.refl _ _, rfl⟩) ?_
    refine mK hok rfl rfl (fun a' w' F' E' => o_pickT (F'.ev rfl) (F'.ev rfl) ⟨Ext.refl _ _, rfl⟩) ?_
    refine mK hok rfl rfl (fun a' w' F' E' => o_move (F'.ev rfl) ⟨Ext.refl _ _, rfl⟩) ?_
    refine mKG hok rfl rfl rfl rfl (fun a' w' F' E' => o_move (F'.ev rfl) ⟨Ext.refl _ _, rfl⟩) ?_
    refine mKG hok rfl rfl rfl rfl (fun a' w' F' E' => o_move (F'.ev rfl) ⟨Ext.refl _ _, rfl⟩) ?_
    refine mKG hok rfl rfl rfl rfl (fun a' w' F' E' => o_eqlT (F'.ev rfl) (F'.ev rfl) (by omega) ⟨Ext.refl _ _, rfl⟩) ?_
    refine mK hok rfl rfl (fun a' w' F' E' => o_pickT (F'.ev rfl) (F'.ev rfl) ⟨Ext.refl _ _, rfl⟩) ?_
    refine mK hok rfl rfl (fun a' w' F' E' => o_move (F'.ev rfl) ⟨Ext.refl _ _, rfl⟩) ?_
    refine mKG hok rfl rfl rfl rfl (fun a' w' F' E' => o_move (F'.ev rfl) ⟨Ext.refl _ _, rfl⟩) ?_
    refine mKG hok rfl rfl rfl rfl (fun a' w' F' E' => o_move (F'.ev rfl) ⟨Ext.refl _ _, rfl⟩) ?_
    refine mKG hok rfl rfl rfl rfl (fun a' w' F' E' => o_eqlBT (F'.ev rfl) (F'.ev rfl) rfl ⟨Ext.refl _ _, rfl⟩) ?_
    refine mK hok rfl rfl (fun a' w' F' E' => o_pickT (F'.ev rfl) (F'.ev rfl) ⟨Ext.refl _ _, rfl⟩) ?_
    refine mK hok rfl rfl (fun a' w' F' E' => o_move (F'.ev rfl) ⟨Ext.refl _ _, rfl⟩) ?_
    refine mKG hok rfl rfl rfl rfl (fun a' w' F' E' => o_loadA (M1.later E') (F'.ev rfl) (by repeat (first | exact .here | apply Has.there)) (by first | assumption | rfl) ⟨Ext.refl _ _, rfl⟩) ?_
    refine mKG hok rfl rfl rfl rfl (fun a' w' F' E' => o_loadA (M1.later E') (F'.ev rfl) (by repeat (first | exact .here | apply Has.there)) (by first | assumption | rfl) ⟨Ext.refl _ _, rfl⟩) ?_
    (refine mKG hok rfl rfl rfl rfl (fun a' w' F' E' => o_call (F'.ev rfl) (F'.evs rfl) (Cal.mono (samePlan_c D.told q1 (by omega) _ _ D.full _ (hS1.later (hE.trans E')) (hS3.later (hE.trans E'))) fun _ _ hh => ⟨hh.2, hh.1⟩)) ?_)
    refine mK hok rfl rfl (fun a' w' F' E' => o_pickT (F'.ev rfl) (F'.ev rfl) ⟨Ext.refl _ _, rfl⟩) ?_
    refine mK hok rfl rfl (fun a' w' F' E' => o_move (F'.ev rfl) ⟨Ext.refl _ _, rfl⟩) ?_
    refine mKG hok rfl rfl rfl rfl (fun a' w' F' E' => o_move (F'.ev rfl) ⟨Ext.refl _ _, rfl⟩) ?_
    refine mKG hok rfl rfl rfl rfl (fun a' w' F' E' => o_move (F'.ev rfl) ⟨Ext.refl _ _, rfl⟩) ?_
    (refine mKG hok rfl rfl rfl rfl (fun a' w' F' E' => o_call (F'.ev rfl) (F'.evs rfl) (Cal.mono (equalA_c D.sent q2 (by omega) _ _ _ (hS2.later (hE.trans E')) (hS4.later (hE.trans E'))) fun _ _ hh => ⟨hh.2, hh.1⟩)) ?_)
    refine mK hok rfl rfl (fun a' w' F' E' => o_pickT (F'.ev rfl) (F'.ev rfl) ⟨Ext.refl _ _, rfl⟩) ?_
    refine mK hok rfl rfl (fun a' w' F' E' => o_move (F'.ev rfl) ⟨Ext.refl _ _, rfl⟩) ?_
    refine mKG hok rfl rfl rfl rfl (fun a' w' F' E' => o_move (F'.ev rfl) ⟨Ext.refl _ _, rfl⟩) ?_
    refine mKG hok rfl rfl rfl rfl (fun a' w' F' E' => o_neqF (F'.ev rfl) (F'.ev rfl) (by omega) ⟨Ext.refl _ _, rfl⟩) ?_
    refine mKG hok rfl rfl rfl rfl (fun a' w' F' E' => o_move (F'.ev rfl) ⟨Ext.refl _ _, rfl⟩) ?_
    refine mKG hok rfl rfl rfl rfl (fun a' w' F' E' => o_loadA (M1.later E') (F'.ev rfl) (by repeat (first | exact .here | apply Has.there)) (by first | assumption | rfl) ⟨Ext.refl _ _, rfl⟩) ?_
    (refine mKG hok rfl rfl rfl rfl (fun a' w' F' E' => o_call (F'.ev rfl) (F'.evs rfl) (Cal.mono (Cal.to (uvalid_c D.told q1 _ D.full _ (hS1.later (hE.trans E'))) (by rw [q5])) fun _ _ hh => ⟨hh.2, hh.1⟩)) ?_)
    refine mKG hok rfl rfl rfl rfl (fun a' w' F' E' => o_move (F'.ev rfl) ⟨Ext.refl _ _, rfl⟩) ?_
    refine mKG hok rfl rfl rfl rfl (fun a' w' F' E' => o_move (F'.ev rfl) ⟨Ext.refl _ _, rfl⟩) ?_
    (refine mKG hok rfl rfl rfl rfl (fun a' w' F' E' => o_call (F'.ev rfl) (F'.evs rfl) (Cal.mono (Cal.to (uvalidAs_c D.sent q2 _ _ (hS2.later (hE.trans E'))) (by rw [q6])) fun _ _ hh => ⟨hh.2, hh.1⟩)) ?_)
    refine mKG hok rfl rfl rfl rfl (fun a' w' F' E' => o_pickT (F'.ev rfl) (F'.ev rfl) ⟨Ext.refl _ _, rfl⟩) ?_
    refine mKG hok rfl rfl rfl rfl (fun a' w' F' E' => o_pickF (F'.ev rfl) (F'.ev rfl) ⟨Ext.refl _ _, rfl⟩) ?_
    refine mK hok rfl rfl (fun a' w' F' E' => o_pickT (F'.ev rfl) (F'.ev rfl) ⟨Ext.refl _ _, rfl⟩) ?_
    (refine mDone rfl rfl ?_; clear F; clear M; intro a w F hE2 hX hTT hDD hPP; have M := M1.later hE2; clear M1; clear hX; clear hE2; clear hok; clear hE; clear hTT; clear hDD; clear hPP; (try dsimp only at F))
    refine stepD rfl F rfl (o_assign (F.ev rfl) ?_); clear F; clear a; intro a F
    with_reducible refine l_nil ?_
    with_reducible refine q_then ?_
    with_reducible refine c_ret ?_
    refine p_ret F rfl (.cons (.tmp (F.ev rfl)) .nil) ?_
    exact ⟨rfl, M.ext⟩
  · skip
    refine c_draw 44 F (by kernel_rfl) ?_
    intro w1 hE hok
    have M1 := M.later hE
    refine mK hok rfl rfl (fun a' w' F' E' => o_loadA (M1.later E') (F'.ev rfl) (by repeat (first | exact .here | apply Has.there)) (by first | assumption | rfl) ⟨Ext.refl _ _, rfl⟩) ?_
    (refine mK hok rfl rfl (fun a' w' F' E' => o_call (F'.ev rfl) (F'.evs rfl) (Cal.mono (k0 _ (hST.later (M1.ext.trans E'))) fun _ _ hh => ⟨hh.2, hh.1⟩)) ?_)
    refine mK hok rfl rfl (fun a' w' F' E' => o_loadA (M1.later E') (F'.ev rfl) (by repeat (first | exact .here | apply Has.there)) (by first | assumption | rfl) ⟨Ext.refl _ _, rfl⟩) ?_
    (refine mK hok rfl rfl (fun a' w' F' E' => o_call (F'.ev rfl) (F'.evs rfl) (Cal.mono (k1 _ (hST.later (M1.ext.trans E'))) fun _ _ hh => ⟨hh.2, hh.1⟩)) ?_)
    refine mK hok rfl rfl (fun a' w' F' E' => o_eqlBT (F'.ev rfl) (F'.ev rfl) rfl ⟨Ext.refl _ _, rfl⟩) ?_
    refine mK hok rfl rfl (fun a' w' F' E' => o_move (F'.ev rfl) ⟨Ext.refl _ _, rfl⟩) ?_
    refine mKG hok rfl rfl rfl rfl (fun a' w' F' E' => o_move (F'.ev rfl) ⟨Ext.refl _ _, rfl⟩) ?_
    (refine mKG hok rfl rfl rfl rfl (fun a' w' F' E' => o_call (F'.ev rfl) (F'.evs rfl) (Cal.mono (k2 _ (hSl.later (M1.ext.trans E'))) fun _ _ hh => ⟨hh.2, hh.1⟩)) ?_)
    refine mKG hok rfl rfl rfl rfl (fun a' w' F' E' => o_move (F'.ev rfl) ⟨Ext.refl _ _, rfl⟩) ?_
    (refine mKG hok rfl rfl rfl rfl (fun a' w' F' E' => o_call (F'.ev rfl) (F'.evs rfl) (Cal.mono (k3 _ (hSl.later (M1.ext.trans E'))) fun _ _ hh => ⟨hh.2, hh.1⟩)) ?_)
    refine mKG hok rfl rfl rfl rfl (fun a' w' F' E' => o_eqlBT (F'.ev rfl) (F'.ev rfl) rfl ⟨Ext.refl _ _, rfl⟩) ?_
    refine mK hok rfl rfl (fun a' w' F' E' => o_pickT (F'.ev rfl) (F'.ev rfl) ⟨Ext.refl _ _, rfl⟩) ?_
    refine mK hok rfl rfl (fun a' w' F' E' => o_move (F'.ev rfl) ⟨Ext.refl _ _, rfl⟩) ?_
    refine mKG hok rfl rfl rfl rfl (fun a' w' F' E' => o_move (F'.ev rfl) ⟨Ext.refl _ _, rfl⟩) ?_
    refine mKG hok rfl rfl rfl rfl (fun a' w' F' E' => o_move (F'.ev rfl) ⟨Ext.refl _ _, rfl⟩) ?_
    refine mKG hok rfl rfl rfl rfl (fun a' w' F' E' => o_eqlT (F'.ev rfl) (F'.ev rfl) (by omega) ⟨Ext.refl _ _, rfl⟩) ?_
    refine mK hok rfl rfl (fun a' w' F' E' => o_pickT (F'.ev rfl) (F'.ev rfl) ⟨Ext.refl _ _, rfl⟩) ?_
    refine mK hok rfl rfl (fun a' w' F' E' => o_move (F'.ev rfl) ⟨Ext.refl _ _, rfl⟩) ?_
    refine mKG hok rfl rfl rfl rfl (fun a' w' F' E' => o_move (F'.ev rfl) ⟨Ext.refl _ _, rfl⟩) ?_
    refine mKG hok rfl rfl rfl rfl (fun a' w' F' E' => o_move (F'.ev rfl) ⟨Ext.refl _ _, rfl⟩) ?_
    refine mKG hok rfl rfl rfl rfl (fun a' w' F' E' => o_eqlBT (F'.ev rfl) (F'.ev rfl) rfl ⟨Ext.refl _ _, rfl⟩) ?_
    refine mK hok rfl rfl (fun a' w' F' E' => o_pickT (F'.ev rfl) (F'.ev rfl) ⟨Ext.refl _ _, rfl⟩) ?_
    refine mK hok rfl rfl (fun a' w' F' E' => o_move (F'.ev rfl) ⟨Ext.refl _ _, rfl⟩) ?_
    refine mKG hok rfl rfl rfl rfl (fun a' w' F' E' => o_loadA (M1.later E') (F'.ev rfl) (by repeat (first | exact .here | apply Has.there)) (by first | assumption | rfl) ⟨Ext.refl _ _, rfl⟩) ?_
    refine mKG hok rfl rfl rfl rfl (fun a' w' F' E' => o_loadA (M1.later E') (F'.ev rfl) (by repeat (first | exact .here | apply Has.there)) (by first | assumption | rfl) ⟨Ext.refl _ _, rfl⟩) ?_
    (refine mKG hok rfl rfl rfl rfl (fun a' w' F' E' => o_call (F'.ev rfl) (F'.evs rfl) (Cal.mono (samePlan_c D.told q1 (by omega) _ _ D.full _ (hS1.later (hE.trans E')) (hS3.later (hE.trans E'))) fun _ _ hh => ⟨hh.2, hh.1⟩)) ?_)
    refine mK hok rfl rfl (fun a' w' F' E' => o_pickT (F'.ev rfl) (F'.ev rfl) ⟨Ext.refl _ _, rfl⟩) ?_
    refine mK hok rfl rfl (fun a' w' F' E' => o_move (F'.ev rfl) ⟨Ext.refl _ _, rfl⟩) ?_
    refine mKG hok rfl rfl rfl rfl (fun a' w' F' E' => o_move (F'.ev rfl) ⟨Ext.refl _ _, rfl⟩) ?_
    refine mKG hok rfl rfl rfl rfl (fun a' w' F' E' => o_move (F'.ev rfl) ⟨Ext.refl _ _, rfl⟩) ?_
    (refine mKG hok rfl rfl rfl rfl (fun a' w' F' E' => o_call (F'.ev rfl) (F'.evs rfl) (Cal.mono (equalA_c D.sent q2 (by omega) _ _ _ (hS2.later (hE.trans E')) (hS4.later (hE.trans E'))) fun _ _ hh => ⟨hh.2, hh.1⟩)) ?_)
    refine mK hok rfl rfl (fun a' w' F' E' => o_pickT (F'.ev rfl) (F'.ev rfl) ⟨Ext.refl _ _, rfl⟩) ?_
    refine mK hok rfl rfl (fun a' w' F' E' => o_move (F'.ev rfl) ⟨Ext.refl _ _, rfl⟩) ?_
    refine mKG hok rfl rfl rfl rfl (fun a' w' F' E' => o_move (F'.ev rfl) ⟨Ext.refl _ _, rfl⟩) ?_
    refine mKG hok rfl rfl rfl rfl (fun a' w' F' E' => o_neqT (F'.ev rfl) (F'.ev rfl) (by omega) ⟨Ext.refl _ _, rfl⟩) ?_
    refine mKG hok rfl rfl rfl rfl (fun a' w' F' E' => o_move (F'.ev rfl) ⟨Ext.refl _ _, rfl⟩) ?_
    refine mOff hok rfl rfl rfl rfl rfl ?_
    refine mOff hok rfl rfl rfl rfl rfl ?_
    refine mOff hok rfl rfl rfl rfl rfl ?_
    refine mOff hok rfl rfl rfl rfl rfl ?_
    refine mOff hok rfl rfl rfl rfl rfl ?_
    refine mOff hok rfl rfl rfl rfl rfl ?_
    refine mKG hok rfl rfl rfl rfl (fun a' w' F' E' => o_pickT (F'.ev rfl) (F'.ev rfl) ⟨Ext.refl _ _, rfl⟩) ?_
    refine mK hok rfl rfl (fun a' w' F' E' => o_pickT (F'.ev rfl) (F'.ev rfl) ⟨Ext.refl _ _, rfl⟩) ?_
    (refine mDone rfl rfl ?_; clear F; clear M; intro a w F hE2 hX hTT hDD hPP; have M := M1.later hE2; clear M1; clear hX; clear hE2; clear hok; clear hE; clear hTT; clear hDD; clear hPP; (try dsimp only at F))
    refine stepD rfl F rfl (o_assign (F.ev rfl) ?_); clear F; clear a; intro a F
    with_reducible refine l_nil ?_
    with_reducible refine q_then ?_
    with_reducible refine c_ret ?_
    refine p_ret F rfl (.cons (.tmp (F.ev rfl)) .nil) ?_
    exact ⟨rfl, M.ext⟩
end Go.Proofs.Ytilgoepokaaleaa
/-! YF -/
namespace Go.Proofs.Ytilgoepokaaleaa
set_option linter.unusedVariables false
set_option linter.unusedSimpArgs false
open Go.RowKit
attribute [local irreducible] OpTo wpListIn Code.wpIn MW Cal
def kS : AdvV := ⟨⟨[255, 0, 0, 0, 0, 0, 0, 0, 0, 0, 0, 0, 0, 0, 0, 0], 8, zr16, 0, 1⟩, ⟨0, 0⟩⟩
theorem kS_is : IsAv kS := ⟨⟨⟨rfl, by intro x hx; simp [kS] at hx; omega⟩, zr16_is⟩, trivial⟩
theorem is_set {out : List AdvV} {q : Nat} {x : AdvV} (h : ∀ y ∈ out, IsAv y) (hx : IsAv x) : ∀ y ∈ out.set q x, IsAv y := fun y hy => by
  rcases List.mem_or_eq_of_mem_set hy with h1 | rfl
  · exact h y h1
  · exact hx
theorem set_ex {out : List AdvV} {qn : Nat} {x' : AdvV} (h : ∀ y ∈ out, IsAv y) (_ : qn < out.length) (hx : IsAv x') : ∃ o', out.set qn x' = o' ∧ o'.length = out.length ∧ ∀ y ∈ o', IsAv y := ⟨_, rfl, by simp, is_set h hx⟩
set_option maxHeartbeats 4000000 in
theorem spoiled_c {bt : Nat} {p : Option Addr} {len cap k : Nat} {xs : List Int} (l : List AdvV) (hx : ∀ x ∈ l, IsAv x) (hlen : l.length ≤ 1000) (v : Value) (W : World) (hS : SlAt W 37 v l.length (avsC l)) (hnb : ∀ b o s k c, v = .slice (some ⟨b, o, s⟩) k c → b ∉ [bt]) (hT : TapeS W bt p len xs) (hb : W.heap[bt]? = some (tobj p len cap k)) :
    Cal Try.prog 16 [.pointer (some ⟨bt, 0, none⟩), v].toArray W fun r w' => ∃ m k', AdvO W.heap.size w' r m ∧ m.length ≤ l.length + 2 ∧ Mem [bt] W w' [(bt, tobj p len cap k')] := by
  have hbt : bt < W.heap.size := (Array.getElem?_eq_some_iff.1 hb).1
  refine fn_ofM (n := 48) [bt] Try.func16 rfl rfl rfl ?_
  intro a w F M hwW
  replace M := M.came hwW hb (by simp) (by simp)
  with_reducible refine c_seq ?_
  with_reducible refine c_region ?_
  refine stepD rfl F rfl (o_assign (F.ev rfl) ?_); clear F; clear a; intro a F
  with_reducible refine l_nil ?_
  with_reducible refine q_then ?_
  with_reducible refine c_seq ?_
  with_reducible refine c_region ?_
  refine stepD rfl F rfl (o_move (F.ev rfl) ?_); clear F; clear a; intro a F
  (refine stepD rfl F rfl (o_call (F.ev rfl) (F.evs rfl) (Cal.mono (cloneA_c l (by omega) v _ (hS.laterB hnb M.ext) ) ?_)); clear F; clear a; rintro _ w ⟨es, hO, _, N⟩ a F; replace M := M.joins N; clear N)
  obtain ⟨p0, c0, rfl⟩ := hO.slice
  replace M := M.perm (l' := (bt, tobj p len cap k) :: es) (by classical exact List.perm_iff_count.2 fun _ => by simp only [List.count_append, List.count_cons, List.count_nil, Nat.add_zero, Nat.zero_add] <;> ac_rfl)
  refine stepD rfl F rfl (o_build F rfl rfl ?_); clear F; clear a; intro a F
  refine stepD rfl F rfl (o_build F rfl rfl ?_); clear F; clear a; intro a F
  refine stepD rfl F rfl (o_build F rfl rfl ?_); clear F; clear a; intro a F
  refine stepD rfl F rfl (o_build F rfl rfl ?_); clear F; clear a; intro a F
  (refine stepD rfl F rfl (o_buildSlice F M rfl rfl rfl (av_build1 kS_is) ?_); clear F; clear M; intro b13 w M a F)
  (refine stepD rfl F rfl (o_append hO M (.cons (.cons .here)) (F.ev rfl) (F.ev rfl) (SrcOf.cells' (M.heap .here) (sg_all (av_len kS_is)) (av_one _)) (by omega) (by omega) ?_); clear F; clear M; intro u es1 w hO1 M a F)
  replace hO1 : OwnS 52 37 u (l ++ [kS]).length (avsC (l ++ [kS])) es1 := by
    show OwnS _ 37 _ (l ++ [kS]).length (encL avC (l ++ [kS])) _
    rw [show (l ++ [kS]).length = l.length + 1 by simp, encL_app, encL_one]
    exact hO1
  have hoi : ∀ y ∈ l ++ [kS], IsAv y := fun y hy => by
    rcases List.mem_append.1 hy with h | h
    · exact hx y h
    · simp only [List.mem_singleton] at h
      rw [h]; exact kS_is
  have hol : (l ++ [kS]).length = l.length + 1 := by simp
  generalize l ++ [kS] = out at *
  rcases hO1 with ⟨_, h0, _, _⟩ | ⟨b, cp, junk, rfl, rfl, hxl, hjl, hnc⟩
  · omega
  replace M := M.sub (l' := [(bt, tobj p len cap k), (b, .cells (avsC out ++ junk).toArray 52 (0, 0))]) (.cons _ (.refl _))
  replace F := F.only [14, 0] rfl
  have hol2 : (0 : Int) < out.length := by omega
  refine stepD rfl F rfl (o_assign (F.ev rfl) ?_); clear F; clear a; intro a F
  with_reducible refine l_nil ?_
  with_reducible refine q_then ?_
  with_reducible refine c_seq ?_
  with_reducible refine c_region ?_
  refine stepD rfl F rfl (o_move (F.ev rfl) ?_); clear F; clear a; intro a F
  refine stepD rfl F rfl (o_move (F.ev rfl) ?_); clear F; clear a; intro a F
  refine stepD rfl F rfl (o_move (F.ev rfl) ?_); clear F; clear a; intro a F
  refine stepD rfl F rfl (o_lenSl (F.ev rfl) ?_); clear F; clear a; intro a F
  (refine stepD rfl F rfl (o_call (F.ev rfl) (F.evs rfl) (Cal.mono (nextE_c out.length hol2 (by omega) _ (hT.later M.ext) (M.heap .here) ) ?_)); clear F; clear a; have M0 := M; clear M; rintro _ w ⟨q, k2, rfl, hq, N⟩ a F)
  replace M := M0.turn1 N .here
  clear M0 N
  obtain ⟨qn, rfl⟩ := Int.eq_ofNat_of_zero_le hq.1
  have hqn : qn < out.length := by omega
  have hqi : IsAv out[qn] := hoi _ (List.getElem_mem hqn)
  have hsz := avs_len hoi
  refine stepD rfl F rfl (o_indexSl (F.ev rfl) (F.ev rfl) (by omega) (by omega) ?_); clear F; clear a; intro a F
  refine stepD rfl F rfl (o_assign (F.ev rfl) ?_); clear F; clear a; intro a F
  with_reducible refine l_nil ?_
  with_reducible refine q_then ?_
  with_reducible refine c_seq ?_
  with_reducible refine c_seq ?_
  with_reducible refine c_region ?_
  refine stepD rfl F rfl (o_move (F.ev rfl) ?_); clear F; clear a; intro a F
  (refine stepD rfl F rfl (o_call (F.ev rfl) (F.evs rfl) (Cal.mono (nextE_c 4 (by omega) (by omega) _ (hT.later M.ext) (M.heap .here) ) ?_)); clear F; clear a; have M0 := M; clear M; rintro _ w ⟨z, k3, rfl, hz, N⟩ a F)
  replace M := M0.turn1 N .here
  clear M0 N
  obtain ⟨o0, e0, l0, i0⟩ := set_ex hoi hqn (x' := { out[qn] with to := { out[qn].to with rt := 0 } }) hqi
  have p0 : put (avsC out ++ junk) (0 + (qn : Int).toNat * 37 + 0 + 34) [.int .u64 0] = some (avsC o0 ++ junk) := e0 ▸ encL_put (enc := avC) hsz junk hqn (av_put_to_rt hqi 0) (by omega)
  obtain ⟨o1, e1, l1, i1⟩ := set_ex hoi hqn (x' := { out[qn] with own := { out[qn].own with met := -1 } }) hqi
  have p1 : put (avsC out ++ junk) (0 + (qn : Int).toNat * 37 + 35 + 1) [.int .i64 (-1)] = some (avsC o1 ++ junk) := e1 ▸ encL_put (enc := avC) hsz junk hqn (av_put_own_met hqi (-1)) (by omega)
  obtain ⟨o2, e2, l2, i2⟩ := set_ex hoi hqn (x' := { out[qn] with own := { out[qn].own with met := 65536 } }) hqi
  have p2 : put (avsC out ++ junk) (0 + (qn : Int).toNat * 37 + 35 + 1) [.int .i64 65536] = some (avsC o2 ++ junk) := e2 ▸ encL_put (enc := avC) hsz junk hqn (av_put_own_met hqi 65536) (by omega)
  refine l_nil ?_
  refine q_then ?_
  repeat (with_reducible refine c_seq ?_)
  refine c_cut (fun a w => ∃ (m : List AdvV) (v2 : Value) (es2 : List (Nat × Obj)), m.length ≤ l.length + 2 ∧ (∀ x ∈ m, IsAv x) ∧ OwnS 52 37 v2 m.length (avsC m) es2 ∧ Frm a 48 [] [(5, v2)] ∧ Mem [bt] W w ((bt, tobj p len cap k3) :: es2)) ?_ ?_
  · by_cases z0 : z = 0
    · with_reducible refine c_block ?_
      with_reducible refine c_seq ?_
      with_reducible refine c_region ?_
      refine stepD rfl F rfl (o_eqlT (F.ev rfl) (F.ev rfl) (by omega) ?_); clear F; clear a; intro a F
      refine stepD rfl F rfl (o_assign (F.ev rfl) ?_); clear F; clear a; intro a F
      with_reducible refine l_nil ?_
      with_reducible refine q_then ?_
      refine c_true F rfl rfl ?_
      with_reducible refine c_region ?_
      refine stepD rfl F rfl (o_move (F.ev rfl) ?_); clear F; clear a; intro a F
      refine stepD rfl F rfl (o_nilCheck (F.ev rfl) rfl ?_); clear F; clear a; intro a F
      refine stepD rfl F rfl (o_fieldAddr (F.ev rfl) ?_); clear F; clear a; intro a F
      refine stepD rfl F rfl (o_fieldAddr (F.ev rfl) ?_); clear F; clear a; intro a F
      (refine stepN rfl F (o_store1 M (F.ev rfl) (F.ev rfl) rfl (by repeat (first | exact .here | apply Has.there)) (p0) (by repeat (first | exact .here | apply Upd.there)) ?_); clear F; clear M; intro w M a F)
      with_reducible refine l_nil ?_
      with_reducible refine q_inB ?_
      exact ⟨o0, .slice (some ⟨b, 0, none⟩) out.length cp, [(b, .cells (avsC o0 ++ junk).toArray 52 (0, 0))], by omega, i0, .inr ⟨b, cp, junk, by rw [l0], rfl, by rw [l0, ← l0]; exact encL_len (avs_len i0), by rw [l0]; exact hjl, by rw [l0]; exact hnc⟩, F.only [5] rfl, M⟩
    by_cases z1 : z = 1
    · with_reducible refine c_block ?_
      with_reducible refine c_seq ?_
      with_reducible refine c_region ?_
      refine stepD rfl F rfl (o_eqlF (F.ev rfl) (F.ev rfl) (by omega) ?_); clear F; clear a; intro a F
      refine stepD rfl F rfl (o_assign (F.ev rfl) ?_); clear F; clear a; intro a F
      with_reducible refine l_nil ?_
      with_reducible refine q_then ?_
      refine c_false F rfl rfl ?_
      with_reducible refine c_seq ?_
      with_reducible refine c_region ?_
      refine stepD rfl F rfl (o_eqlT (F.ev rfl) (F.ev rfl) (by omega) ?_); clear F; clear a; intro a F
      refine stepD rfl F rfl (o_assign (F.ev rfl) ?_); clear F; clear a; intro a F
      with_reducible refine l_nil ?_
      with_reducible refine q_then ?_
      refine c_true F rfl rfl ?_
      with_reducible refine c_region ?_
      refine stepD rfl F rfl (o_move (F.ev rfl) ?_); clear F; clear a; intro a F
      refine stepD rfl F rfl (o_nilCheck (F.ev rfl) rfl ?_); clear F; clear a; intro a F
      refine stepD rfl F rfl (o_fieldAddr (F.ev rfl) ?_); clear F; clear a; intro a F
      refine stepD rfl F rfl (o_fieldAddr (F.ev rfl) ?_); clear F; clear a; intro a F
      (refine stepN rfl F (o_store1 M (F.ev rfl) (F.ev rfl) rfl (by repeat (first | exact .here | apply Has.there)) (p1) (by repeat (first | exact .here | apply Upd.there)) ?_); clear F; clear M; intro w M a F)
      with_reducible refine l_nil ?_
      with_reducible refine q_inB ?_
      exact ⟨o1, .slice (some ⟨b, 0, none⟩) out.length cp, [(b, .cells (avsC o1 ++ junk).toArray 52 (0, 0))], by omega, i1, .inr ⟨b, cp, junk, by rw [l1], rfl, by rw [l1, ← l1]; exact encL_len (avs_len i1), by rw [l1]; exact hjl, by rw [l1]; exact hnc⟩, F.only [5] rfl, M⟩
    by_cases z2 : z = 2
    · with_reducible refine c_block ?_
      with_reducible refine c_seq ?_
      with_reducible refine c_region ?_
      refine stepD rfl F rfl (o_eqlF (F.ev rfl) (F.ev rfl) (by omega) ?_); clear F; clear a; intro a F
      refine stepD rfl F rfl (o_assign (F.ev rfl) ?_); clear F; clear a; intro a F
      with_reducible refine l_nil ?_
      with_reducible refine q_then ?_
      refine c_false F rfl rfl ?_
      with_reducible refine c_seq ?_
      with_reducible refine c_region ?_
      refine stepD rfl F rfl (o_eqlF (F.ev rfl) (F.ev rfl) (by omega) ?_); clear F; clear a; intro a F
      refine stepD rfl F rfl (o_assign (F.ev rfl) ?_); clear F; clear a; intro a F
      with_reducible refine l_nil ?_
      with_reducible refine q_then ?_
      refine c_false F rfl rfl ?_
      with_reducible refine c_seq ?_
      with_reducible refine c_region ?_
      refine stepD rfl F rfl (o_eqlT (F.ev rfl) (F.ev rfl) (by omega) ?_); clear F; clear a; intro a F
      refine stepD rfl F rfl (o_assign (F.ev rfl) ?_); clear F; clear a; intro a F
      with_reducible refine l_nil ?_
      with_reducible refine q_then ?_
      refine c_true F rfl rfl ?_
      with_reducible refine c_region ?_
      refine stepD rfl F rfl (o_move (F.ev rfl) ?_); clear F; clear a; intro a F
      refine stepD rfl F rfl (o_nilCheck (F.ev rfl) rfl ?_); clear F; clear a; intro a F
      refine stepD rfl F rfl (o_fieldAddr (F.ev rfl) ?_); clear F; clear a; intro a F
      refine stepD rfl F rfl (o_fieldAddr (F.ev rfl) ?_); clear F; clear a; intro a F
      (refine stepN rfl F (o_store1 M (F.ev rfl) (F.ev rfl) rfl (by repeat (first | exact .here | apply Has.there)) (p2) (by repeat (first | exact .here | apply Upd.there)) ?_); clear F; clear M; intro w M a F)
      with_reducible refine l_nil ?_
      with_reducible refine q_inB ?_
      exact ⟨o2, .slice (some ⟨b, 0, none⟩) out.length cp, [(b, .cells (avsC o2 ++ junk).toArray 52 (0, 0))], by omega, i2, .inr ⟨b, cp, junk, by rw [l2], rfl, by rw [l2, ← l2]; exact encL_len (avs_len i2), by rw [l2]; exact hjl, by rw [l2]; exact hnc⟩, F.only [5] rfl, M⟩
    · have h0 : 0 < out.length := by omega
      have hyi : IsAv out[0] := hoi _ (List.getElem_mem h0)
      have f1 : seg (avsC out ++ junk) (0 + (0 : Int).toNat * 37) 37 = some (avC out[0]) := own_el hsz junk h0 (by omega)
      have f2 := av_len hyi
      have hO1 : OwnS 52 37 (.slice (some ⟨b, 0, none⟩) out.length cp) out.length (avsC out) [(b, .cells (avsC out ++ junk).toArray 52 (0, 0))] := .inr ⟨b, cp, junk, rfl, rfl, hxl, hjl, hnc⟩
      with_reducible refine c_block ?_
      with_reducible refine c_seq ?_
      with_reducible refine c_region ?_
      refine stepD rfl F rfl (o_eqlF (F.ev rfl) (F.ev rfl) (by omega) ?_); clear F; clear a; intro a F
      refine stepD rfl F rfl (o_assign (F.ev rfl) ?_); clear F; clear a; intro a F
      with_reducible refine l_nil ?_
      with_reducible refine q_then ?_
      refine c_false F rfl rfl ?_
      with_reducible refine c_seq ?_
      with_reducible refine c_region ?_
      refine stepD rfl F rfl (o_eqlF (F.ev rfl) (F.ev rfl) (by omega) ?_); clear F; clear a; intro a F
      refine stepD rfl F rfl (o_assign (F.ev rfl) ?_); clear F; clear a; intro a F
      with_reducible refine l_nil ?_
      with_reducible refine q_then ?_
      refine c_false F rfl rfl ?_
      with_reducible refine c_seq ?_
      with_reducible refine c_region ?_
      refine stepD rfl F rfl (o_eqlF (F.ev rfl) (F.ev rfl) (by omega) ?_); clear F; clear a; intro a F
      refine stepD rfl F rfl (o_assign (F.ev rfl) ?_); clear F; clear a; intro a F
      with_reducible refine l_nil ?_
      with_reducible refine q_then ?_
      refine c_false F rfl rfl ?_
      with_reducible refine c_region ?_
      refine stepD rfl F rfl (o_move (F.ev rfl) ?_); clear F; clear a; intro a F
      refine stepD rfl F rfl (o_move (F.ev rfl) ?_); clear F; clear a; intro a F
      refine stepD rfl F rfl (o_indexSl (F.ev rfl) (F.ev rfl) (by omega) (by omega) ?_); clear F; clear a; intro a F
      refine stepD rfl F rfl (o_loadA M (F.ev rfl) (by repeat (first | exact .here | apply Has.there)) (by first | assumption | rfl) ?_); clear F; clear a; intro a F
      (refine stepD rfl F rfl (o_buildSlice F M rfl rfl rfl (av_build1 hyi) ?_); clear F; clear M; intro bs w M a F)
      (refine stepD rfl F rfl (o_append hO1 M (.cons (.cons .here)) (F.ev rfl) (F.ev rfl) (SrcOf.cells' (M.heap .here) (sg_all (by omega)) (av_one _)) (by omega) (by omega) ?_); clear F; clear M; intro v2 es2 w hO2 M a F)
      refine stepD rfl F rfl (o_assign (F.ev rfl) ?_); clear F; clear a; intro a F
      with_reducible refine l_nil ?_
      with_reducible refine q_inB ?_
      refine ⟨out ++ [out[0]], v2, es2, by simp; omega, fun y hy => ?_, by show OwnS _ 37 _ (out ++ [out[0]]).length (encL avC (out ++ [out[0]])) _; rw [show (out ++ [out[0]]).length = out.length + 1 by simp, encL_app, encL_one]; exact hO2, F.only [5] rfl, M.sub (.cons _ (.refl _))⟩
      rcases List.mem_append.1 hy with h | h
      · exact hoi y h
      · simp only [List.mem_singleton] at h
        rw [h]; exact hyi
  clear F M a
  rintro a w ⟨m, v2, es2, hm1, hm2, hO2, F, M⟩
  have hO3 := hO2.slN M (fun q hq => by simp [hq]) (nd_not M.nd (fun q hq => hq))
  with_reducible refine q_then ?_
  with_reducible refine c_seq ?_
  with_reducible refine c_region ?_
  refine stepD rfl F rfl (o_move (F.ev rfl) ?_); clear F; clear a; intro a F
  refine stepD rfl F rfl (o_assign (F.ev rfl) ?_); clear F; clear a; intro a F
  with_reducible refine l_nil ?_
  with_reducible refine q_then ?_
  with_reducible refine c_ret ?_
  refine p_ret F rfl (.cons (.tmp (F.ev rfl)) .nil) ?_
  exact ⟨m, k3, ⟨hO3, hm2⟩, hm1, M.sub (.cons_cons _ (List.nil_sublist _))⟩
end Go.Proofs.Ytilgoepokaaleaa
/-! YH -/
namespace Go.Proofs.Ytilgoepokaaleaa
set_option linter.unusedVariables false
set_option linter.unusedSimpArgs false
open Go.RowKit
attribute [local irreducible] OpTo wpListIn Code.wpIn MW Cal
theorem Mem.turnJ {S : List Nat} {W0 w w' : World} {l l' ent : List (Nat × Obj)} {b : Nat} {o o' : Obj} (M : Mem S W0 w l) (N : Mem [b] w w' ((b, o') :: ent)) (hu : Upd l b o o' l') : Mem S W0 w' (ent ++ l') := by
  have M1 := M.turned hu N.ext (N.heap .here)
  have hge : ∀ p ∈ ent, w.heap.size ≤ p.1 := fun p hp => (N.own p (List.mem_cons_of_mem _ hp)).resolve_left (nd_not N.nd (fun q hq => hq) p hp)
  refine ⟨M1.ext, fun p hp => ?_, ?_, fun p hp => ?_⟩
  · rcases List.mem_append.1 hp with h | h
    · exact N.at_ p (List.mem_cons_of_mem _ h)
    · exact M1.at_ p h
  · rw [List.map_append, List.nodup_append]
    refine ⟨(List.nodup_cons.1 N.nd).2, M1.nd, ?_⟩
    rintro x hx y hy rfl
    obtain ⟨p, hp, rfl⟩ := List.mem_map.1 hx
    rw [hu.keys] at hy
    obtain ⟨q, hq, e⟩ := List.mem_map.1 hy
    have h1 := hge p hp
    have h2 := M.lt hq
    omega
  · rcases List.mem_append.1 hp with h | h
    · exact .inr (Nat.le_trans M.ext.size (hge p h))
    · exact M1.own p h
theorem OwnS.notB {e : TypeId} {sz n : Nat} {v : Value} {xs : List Value} {ent : List (Nat × Obj)} (h : OwnS e sz v n xs ent) {B : List Nat} (hB : ∀ p ∈ ent, p.1 ∉ B) : ∀ b o s k c, v = .slice (some ⟨b, o, s⟩) k c → b ∉ B := by
  rcases h with ⟨rfl, _, _, _⟩ | ⟨b, cap, junk, rfl, rfl, _, _, _⟩
  · intro _ _ _ _ _ e
    cases e
  · intro b' o s n c e
    cases e
    exact hB _ List.mem_cons_self
end Go.Proofs.Ytilgoepokaaleaa
/-! YK -/
namespace Go.Proofs.Ytilgoepokaaleaa
set_option linter.unusedVariables false
set_option linter.unusedSimpArgs false
open Go.RowKit
attribute [local irreducible] OpTo wpListIn Code.wpIn MW Cal
/-- c_drawB, with what stays from ahead of the region on -/
theorem c_drawBE {P : Program} {r : Option Nat} {Q : Exit → Act → World → Prop} {a : Act} {w W0 : World} {S : List Nat} {nt : Nat} {df : List Deferred} {fr : List (Nat × Value)} {id : Nat} {ol : List Oper} {l : List (Nat × Obj)} {l0 : List (Nat × Obj)} (B : List Nat) (Ef : List Nat) (M : Mem S W0 w (l0 ++ l)) (n : Nat) [hm : TMix P] (F : Frm a nt df fr)
    (hchk : (regOk ol.toArray n && tailOk ol.toArray n && Nat.ble n ol.length && dstOk ol.toArray n nt && effOk ol.toArray n Ef) = true)
    (h : ∀ w1, Ext [] w w1 → Mem S W0 w1 (l0 ++ l) → regOk ol.toArray n = true → effOk ol.toArray n Ef = true → MW ⟨keepBut B, Ef, [], P, r, ol.toArray, n, nt, df, a, w1, Q, [], []⟩ 0 ol fr [] (fun _ w => Mem S W0 w (l0 ++ l))) : Wp r P (.region id ol.toArray true) Q a w :=
  c_drawK (keepBut B) Ef [] (fun _ w => Mem S W0 w (l0 ++ l)) n F hchk rfl (fun h => absurd rfl h) (fun h => absurd rfl h) (fun _ _ _ h k => h.later k) (fun _ d hd => M.later (Ext.drawn w d hd)) fun w1 hE _ hok hef => h w1 hE (M.later hE) hok hef
/-- announcements in new memory, as an answer -/
def AdvP (n0 mx : Nat) : Pred := fun v w => ∃ m : List AdvV, m.length ≤ mx ∧ AdvO n0 w v m
theorem AdvP.staysBut {n0 bt mx : Nat} (hbt : bt < n0) : Stays (keepBut [bt]) (AdvP n0 mx) := fun v w w' ⟨m, h1, h2⟩ h => ⟨m, h1, h2.at_.laterB hbt h, h2.is⟩
/-- .. in a plan -/
def PlP (n0 mx : Nat) (full : Int) : Pred := fun v w => ∃ (u : Value) (m : List AdvV), v = .agg (plC u full).toArray ∧ m.length ≤ mx ∧ AdvO n0 w u m
theorem PlP.staysBut {n0 bt mx : Nat} {full : Int} (hbt : bt < n0) : Stays (keepBut [bt]) (PlP n0 mx full) := fun v w w' ⟨u, m, h0, h1, h2⟩ h => ⟨u, m, h0, h1, h2.at_.laterB hbt h, h2.is⟩
set_option maxHeartbeats 16000000 in
theorem formsL_c (Tr lr : List AdvV) (iTr : ∀ x ∈ Tr, IsAv x) (ilr : ∀ x ∈ lr, IsAv x) (vtr vlr : Value) (flr now : Int) (pt : Option Addr) (cap : Nat) (xs0 : List Int) (W : World) (hST : SlAt W 37 vtr Tr.length (avsC Tr)) (hSl : SlAt W 37 vlr lr.length (avsC lr)) (hI : IntsAt W (.slice pt xs0.length cap) xs0) (hcap : xs0.length ≤ cap) :
    Cal Try.prog 3 [.agg (plC vtr flr).toArray, vlr, .slice pt xs0.length cap, .int .i64 now].toArray W fun v w' => v = .bool true ∧ Ext [] W w' := by
  have hmem : 0 < xs0.length → ∃ b o cs t fz, pt = some ⟨b, o, none⟩ ∧ W.heap[b]? = some (.cells cs t fz) ∧ seg cs.toList o xs0.length = some (i64C xs0) := fun hl => by
    obtain ⟨p', cap', h1, _, h3⟩ := hI.ex
    cases h1
    exact h3 hl
  obtain ⟨qr, cr, rfl, _⟩ := id hST
  obtain ⟨ql, cl, rfl, _⟩ := id hSl
  unfold plC
  refine fn_ofM (n := 85) [] Try.func3 rfl rfl rfl ?_
  intro a w F M hwW
  refine c_seq ?_
  refine c_region ?_
  (refine stepD rfl F rfl (o_box M (F.ev rfl) rfl ?_); clear F; clear M; intro b4 w M a F)
  by_cases s1 : 40 < Tr.length
  · refine stepD rfl F rfl (o_assign (F.ev rfl) ?_); clear F; clear a; intro a F
    with_reducible refine l_nil ?_
    with_reducible refine q_then ?_
    with_reducible refine c_seq ?_
    with_reducible refine c_seq ?_
    with_reducible refine c_region ?_
    refine stepD rfl F rfl (o_fieldAddr (F.ev rfl) ?_); clear F; clear a; intro a F
    refine stepD rfl F rfl (o_load1 M (F.ev rfl) (by repeat (first | exact .here | apply Has.there)) (by first | assumption | rfl) ?_); clear F; clear a; intro a F
    refine stepD rfl F rfl (o_lenSl (F.ev rfl) ?_); clear F; clear a; intro a F
    refine stepD rfl F rfl (o_gtrT (F.ev rfl) (F.ev rfl) (by omega) ?_); clear F; clear a; intro a F
    refine stepD rfl F rfl (o_move (F.ev rfl) ?_); clear F; clear a; intro a F
    refine stepOff F rfl rfl rfl rfl ?_; clear F; clear a; intro a F
    refine stepOff F rfl rfl rfl rfl ?_; clear F; clear a; intro a F
    refine stepOff F rfl rfl rfl rfl ?_; clear F; clear a; intro a F
    refine stepD rfl F rfl (o_pickT (F.ev rfl) (F.ev rfl) ?_); clear F; clear a; intro a F
    with_reducible refine l_nil ?_
    with_reducible refine q_then ?_
    refine c_true F rfl rfl ?_
    with_reducible refine c_seq ?_
    with_reducible refine c_region ?_
    (refine stepD rfl F rfl (o_call (F.ev rfl) (F.evs rfl) (Cal.mono (known_c _) ?_)); clear F; clear a; rintro _ w ⟨rfl, hE⟩ a F; replace M := M.later hE; clear hE)
    refine stepD rfl F rfl (o_assign (F.ev rfl) ?_); clear F; clear a; intro a F
    with_reducible refine l_nil ?_
    with_reducible refine q_then ?_
    with_reducible refine c_ret ?_
    with_reducible refine q_thenR ?_
    refine p_ret F rfl (.cons (.tmp (F.ev rfl)) .nil) ?_
    exact ⟨rfl, M.ext⟩
  by_cases s2 : 40 < lr.length
  · refine stepD rfl F rfl (o_assign (F.ev rfl) ?_); clear F; clear a; intro a F
    with_reducible refine l_nil ?_
    with_reducible refine q_then ?_
    with_reducible refine c_seq ?_
    with_reducible refine c_seq ?_
    with_reducible refine c_region ?_
    refine stepD rfl F rfl (o_fieldAddr (F.ev rfl) ?_); clear F; clear a; intro a F
    refine stepD rfl F rfl (o_load1 M (F.ev rfl) (by repeat (first | exact .here | apply Has.there)) (by first | assumption | rfl) ?_); clear F; clear a; intro a F
    refine stepD rfl F rfl (o_lenSl (F.ev rfl) ?_); clear F; clear a; intro a F
    refine stepD rfl F rfl (o_gtrF (F.ev rfl) (F.ev rfl) (by omega) ?_); clear F; clear a; intro a F
    refine stepD rfl F rfl (o_move (F.ev rfl) ?_); clear F; clear a; intro a F
    refine stepG rfl F rfl rfl rfl (o_move (F.ev rfl) ?_); clear F; clear a; intro a F
    refine stepG rfl F rfl rfl rfl (o_lenSl (F.ev rfl) ?_); clear F; clear a; intro a F
    refine stepG rfl F rfl rfl rfl (o_gtrT (F.ev rfl) (F.ev rfl) (by omega) ?_); clear F; clear a; intro a F
    refine stepD rfl F rfl (o_pickF (F.ev rfl) (F.ev rfl) ?_); clear F; clear a; intro a F
    with_reducible refine l_nil ?_
    with_reducible refine q_then ?_
    refine c_true F rfl rfl ?_
    with_reducible refine c_seq ?_
    with_reducible refine c_region ?_
    (refine stepD rfl F rfl (o_call (F.ev rfl) (F.evs rfl) (Cal.mono (known_c _) ?_)); clear F; clear a; rintro _ w ⟨rfl, hE⟩ a F; replace M := M.later hE; clear hE)
    refine stepD rfl F rfl (o_assign (F.ev rfl) ?_); clear F; clear a; intro a F
    with_reducible refine l_nil ?_
    with_reducible refine q_then ?_
    with_reducible refine c_ret ?_
    with_reducible refine q_thenR ?_
    refine p_ret F rfl (.cons (.tmp (F.ev rfl)) .nil) ?_
    exact ⟨rfl, M.ext⟩
  refine stepD rfl F rfl (o_assign (F.ev rfl) ?_); clear F; clear a; intro a F
  with_reducible refine l_nil ?_
  with_reducible refine q_then ?_
  with_reducible refine c_seq ?_
  with_reducible refine c_seq ?_
  with_reducible refine c_region ?_
  refine stepD rfl F rfl (o_fieldAddr (F.ev rfl) ?_); clear F; clear a; intro a F
  refine stepD rfl F rfl (o_load1 M (F.ev rfl) (by repeat (first | exact .here | apply Has.there)) (by first | assumption | rfl) ?_); clear F; clear a; intro a F
  refine stepD rfl F rfl (o_lenSl (F.ev rfl) ?_); clear F; clear a; intro a F
  refine stepD rfl F rfl (o_gtrF (F.ev rfl) (F.ev rfl) (by omega) ?_); clear F; clear a; intro a F
  refine stepD rfl F rfl (o_move (F.ev rfl) ?_); clear F; clear a; intro a F
  refine stepG rfl F rfl rfl rfl (o_move (F.ev rfl) ?_); clear F; clear a; intro a F
  refine stepG rfl F rfl rfl rfl (o_lenSl (F.ev rfl) ?_); clear F; clear a; intro a F
  refine stepG rfl F rfl rfl rfl (o_gtrF (F.ev rfl) (F.ev rfl) (by omega) ?_); clear F; clear a; intro a F
  refine stepD rfl F rfl (o_pickF (F.ev rfl) (F.ev rfl) ?_); clear F; clear a; intro a F
  with_reducible refine l_nil ?_
  with_reducible refine q_then ?_
  refine c_false F rfl rfl ?_
  with_reducible refine c_skip ?_
  with_reducible refine q_then ?_
  with_reducible refine c_seq ?_
  with_reducible refine c_region ?_
  refine stepD rfl F rfl (o_move (F.ev rfl) ?_); clear F; clear a; intro a F
  (refine stepD rfl F rfl (o_call (F.ev rfl) (F.evs rfl) (Cal.mono (new_c xs0 _ (hI.later M.ext) hcap ) ?_)); clear F; clear a; rintro _ w ⟨bt, rfl, N⟩ a F; replace M := M.joins N; clear N)
  have hbt : W.heap.size ≤ bt := (M.own _ List.mem_cons_self).resolve_left (by simp)
  have hT : TapeS W bt pt (cut400 xs0).length (cut400 xs0) := tape_new (Ext.refl [] W) hbt hI.bd hmem
  generalize hxs : cut400 xs0 = xs at *
  generalize hlen : xs.length = len at *
  clear hxs hI hmem hcap
  simp only [List.cons_append, List.nil_append] at M
  refine stepD rfl F rfl (o_assign (F.ev rfl) ?_); clear F; clear a; intro a F
  with_reducible refine l_nil ?_
  with_reducible refine q_then ?_
  with_reducible refine c_seq ?_
  with_reducible refine c_region ?_
  refine stepD rfl F rfl (o_move (F.ev rfl) ?_); clear F; clear a; intro a F
  (refine stepD rfl F rfl (o_call (F.ev rfl) (F.evs rfl) (Cal.mono (base_c _ (hT.later M.ext.any) (M.heap .here) ) ?_)); clear F; clear a; have M0 := M; clear M; rintro _ w ⟨base, k1, rfl, ⟨hb0, hb1⟩, N⟩ a F)
  replace M := M0.turn1 N .here
  clear M0 N
  refine stepD rfl F rfl (o_assign (F.ev rfl) ?_); clear F; clear a; intro a F
  with_reducible refine l_nil ?_
  with_reducible refine q_then ?_
  with_reducible refine c_seq ?_
  with_reducible refine c_region ?_
  refine stepD rfl F rfl (o_move (F.ev rfl) ?_); clear F; clear a; intro a F
  (refine stepD rfl F rfl (o_call (F.ev rfl) (F.evs rfl) (Cal.mono (adverts_c _ (hT.later M.ext.any) (M.heap .here) ) ?_)); clear F; clear a; have M0 := M; clear M; rintro _ w ⟨T, k2, eT, hOT, iT, hT7, vT, N⟩ a F)
  replace M := M0.turnJ N .here
  clear M0 N
  obtain ⟨pT, cT, rfl⟩ := hOT.slice
  replace M := M.perm (l' := (bt, tobj pt len cap k2) :: (b4, .cells #[.slice qr Tr.length cr, .int .i64 flr] 24 (0, 0)) :: eT) (by classical exact List.perm_iff_count.2 fun _ => by simp only [List.count_append, List.count_cons, List.count_nil, Nat.add_zero, Nat.zero_add] <;> ac_rfl)
  refine stepD rfl F rfl (o_move (F.ev rfl) ?_); clear F; clear a; intro a F
  refine stepD rfl F rfl (o_move (F.ev rfl) ?_); clear F; clear a; intro a F
  (refine stepD rfl F rfl (o_call (F.ev rfl) (F.evs rfl) (Cal.mono (wtime_c base hb0 hb1 _ (hT.later M.ext.any) (M.heap .here) ) ?_)); clear F; clear a; have M0 := M; clear M; rintro _ w ⟨rfl, N⟩ a F)
  replace M := M0.turn1 N .here
  clear M0 N
  generalize wtV xs k2 base = tm at *
  generalize nxK xs k2 = k3 at *
  refine stepD rfl F rfl (o_build F rfl rfl ?_); clear F; clear a; intro a F
  (refine stepD rfl F rfl (o_alloc M ?_); clear F; clear M; intro b11 w M a F)
  (refine stepN rfl F (o_storeA M (F.ev rfl) (F.ev rfl) (by rfl) (by rfl) (by repeat (first | exact .here | apply Has.there)) (by rfl) (by repeat (first | exact .here | apply Upd.there)) ?_); clear F; clear M; intro w M a F)
  with_reducible refine l_nil ?_
  with_reducible refine q_then ?_
  with_reducible refine c_seq ?_
  with_reducible refine c_region ?_
  refine stepD rfl F rfl (o_move (F.ev rfl) ?_); clear F; clear a; intro a F
  refine stepD rfl F rfl (o_fieldAddr (F.ev rfl) ?_); clear F; clear a; intro a F
  refine stepD rfl F rfl (o_load1 M (F.ev rfl) (by repeat (first | exact .here | apply Has.there)) (by first | assumption | rfl) ?_); clear F; clear a; intro a F
  have hndT := nd_not (M.perm (l' := (bt, tobj pt len cap k3) :: ((b11, .cells (plC (.slice pT T.length cT) tm).toArray 24 (0, 0)) :: (b4, .cells #[.slice qr Tr.length cr, .int .i64 flr] 24 (0, 0)) :: eT)) (by classical exact List.perm_iff_count.2 fun _ => by simp only [List.count_append, List.count_cons, List.count_nil, Nat.add_zero, Nat.zero_add] <;> ac_rfl)).nd (ent := eT) (fun q hq => by simp [hq])
  (refine stepD rfl F rfl (o_call (F.ev rfl) (F.evs rfl) (Cal.mono (vary_c T iT (by omega) _ _ (hOT.slAt M (fun q hq => by simp [hq])) (hOT.notB hndT) (hT.later M.ext.any) (M.heap (.there .here)) ) ?_)); clear F; clear a; have M0 := M; clear M; rintro _ w ⟨l, k4, el, hOl, il, hl7, _, N⟩ a F)
  replace M := M0.turnJ N (.there .here)
  clear M0 N
  replace hl7 : l.length ≤ 7 := by omega
  obtain ⟨pl, cl2, rfl⟩ := hOl.slice
  replace M := M.perm (l' := (bt, tobj pt len cap k4) :: (b11, .cells (plC (.slice pT T.length cT) tm).toArray 24 (0, 0)) :: (b4, .cells #[.slice qr Tr.length cr, .int .i64 flr] 24 (0, 0)) :: (eT ++ el)) (by classical exact List.perm_iff_count.2 fun _ => by simp only [List.count_append, List.count_cons, List.count_nil, Nat.add_zero, Nat.zero_add] <;> ac_rfl)
  refine stepD rfl F rfl (o_assign (F.ev rfl) ?_); clear F; clear a; intro a F
  with_reducible refine l_nil ?_
  with_reducible refine q_then ?_
  with_reducible refine c_seq ?_
  with_reducible refine c_region ?_
  refine stepD rfl F rfl (o_move (F.ev rfl) ?_); clear F; clear a; intro a F
  (refine stepD rfl F rfl (o_call (F.ev rfl) (F.evs rfl) (Cal.mono (adverts_c _ (hT.later M.ext.any) (M.heap .here) ) ?_)); clear F; clear a; have M0 := M; clear M; rintro _ w ⟨m, k5, em, hOm, im, hm7, _, N⟩ a F)
  replace M := M0.turnJ N .here
  clear M0 N
  obtain ⟨pm, cm, rfl⟩ := hOm.slice
  replace M := M.perm (l' := (bt, tobj pt len cap k5) :: (b11, .cells (plC (.slice pT T.length cT) tm).toArray 24 (0, 0)) :: (b4, .cells #[.slice qr Tr.length cr, .int .i64 flr] 24 (0, 0)) :: (eT ++ (el ++ em))) (by classical exact List.perm_iff_count.2 fun _ => by simp only [List.count_append, List.count_cons, List.count_nil, Nat.add_zero, Nat.zero_add] <;> ac_rfl)
  refine stepD rfl F rfl (o_assign (F.ev rfl) ?_); clear F; clear a; intro a F
  with_reducible refine l_nil ?_
  with_reducible refine q_then ?_
  with_reducible refine c_seq ?_
  replace F := F.only [1, 3, 4, 9, 10, 11, 12, 13] rfl
  replace M : Mem [] W w ([(bt, tobj pt len cap k5)] ++ ((b11, .cells (plC (.slice pT T.length cT) tm).toArray 24 (0, 0)) :: (b4, .cells #[.slice qr Tr.length cr, .int .i64 flr] 24 (0, 0)) :: (eT ++ (el ++ em)))) := M
  refine c_drawBE (l0 := [(bt, tobj pt len cap k5)]) [bt] [8, 10, 12, 16, 18, 22, 24, 29, 30, 32, 35] M 45 F (by kernel_rfl) ?_
  intro w1 hE1 M1 hok hef
  have hB : ∀ k' ∈ [bt], k' ∈ ([(bt, tobj pt len cap k5)] : List (Nat × Obj)).map (·.1) := by simp
  have hbw : bt < w1.heap.size := M1.lt List.mem_cons_self
  have hTw : ∀ w', Ext [bt] w1 w' → TapeS w' bt pt len xs := fun w' E => hT.later (M1.ext.any.trans E)
  have hWw : ∀ w', Ext [bt] w1 w' → Ext [] W w' := fun w' E => (M1.ext.any.trans E).fresh fun q hq => .inr (by simp only [List.mem_singleton] at hq; rw [hq]; exact hbt)
  have hrT : ∀ w', Ext [bt] w1 w' → SlAt w' 37 (.slice qr Tr.length cr) Tr.length (avsC Tr) := fun w' E => hST.later (hWw w' E)
  have hrl : ∀ w', Ext [bt] w1 w' → SlAt w' 37 (.slice ql lr.length cl) lr.length (avsC lr) := fun w' E => hSl.later (hWw w' E)
  have hwT : ∀ w', Ext [bt] w1 w' → SlAt w' 37 (.slice pT T.length cT) T.length (avsC T) := fun w' E => (hOT.slAt M1 (fun q hq => by simp [hq])).laterB (hOT.notB (nd_not M1.nd (fun q hq => by simp [hq]))) E
  have hwl : ∀ w', Ext [bt] w1 w' → SlAt w' 37 (.slice pl l.length cl2) l.length (avsC l) := fun w' E => (hOl.slAt M1 (fun q hq => by simp [hq])).laterB (hOl.notB (nd_not M1.nd (fun q hq => by simp [hq]))) E
  have hwm : ∀ w', Ext [bt] w1 w' → SlAt w' 37 (.slice pm m.length cm) m.length (avsC m) := fun w' E => (hOm.slAt M1 (fun q hq => by simp [hq])).laterB (hOm.notB (nd_not M1.nd (fun q hq => by simp [hq]))) E
  have hwn : ∀ b o s k c, Value.slice pl l.length cl2 = .slice (some ⟨b, o, s⟩) k c → b ∉ [bt] := hOl.notB (nd_not M1.nd (fun q hq => by simp [hq]))
  refine mK hok rfl rfl (fun a' w' F' E' => o_loadA (M1.laterBut E' hB) (F'.ev rfl) (by repeat (first | exact .here | apply Has.there)) (by first | assumption | rfl) ⟨Ext.refl _ _, rfl⟩) ?_
  refine mK hok rfl rfl (fun a' w' F' E' => o_move (F'.ev rfl) ⟨Ext.refl _ _, rfl⟩) ?_
  refine mK hok rfl rfl (fun a' w' F' E' => o_move (F'.ev rfl) ⟨Ext.refl _ _, rfl⟩) ?_
  (refine mK hok rfl rfl (fun a' w' F' E' => o_call (F'.ev rfl) (F'.evs rfl) (Cal.mono (alike_c Tr lr iTr ilr (by omega) _ _ flr now _ (hrT _ E') (hrl _ E')) fun _ _ hh => ⟨hh.2, hh.1⟩)) ?_)
  refine mK hok rfl rfl (fun a' w' F' E' => o_move (F'.ev rfl) ⟨Ext.refl _ _, rfl⟩) ?_
  refine mKG hok rfl rfl rfl rfl (fun a' w' F' E' => o_loadA (M1.laterBut E' hB) (F'.ev rfl) (by repeat (first | exact .here | apply Has.there)) (by first | assumption | rfl) ⟨Ext.refl _ _, rfl⟩) ?_
  refine mKG hok rfl rfl rfl rfl (fun a' w' F' E' => o_move (F'.ev rfl) ⟨Ext.refl _ _, rfl⟩) ?_
  refine mKG hok rfl rfl rfl rfl (fun a' w' F' E' => o_move (F'.ev rfl) ⟨Ext.refl _ _, rfl⟩) ?_
  refine mEG (T' := fun _ w => Mem _ _ w ([(bt, tobj pt len cap (nxK xs k5))] ++ _)) hok rfl rfl rfl rfl (fun _ _ _ h k => h.later k) (fun a' w' σ' F' E' T' => o_call (F'.ev rfl) (F'.evs rfl) (Cal.mono (wtime_c base hb0 hb1 _ (hTw _ E') (T'.heap .here)) fun _ _ hh => ⟨hh.2.ext, hh.1, Mem.turn1 T' hh.2 .here⟩)) ?_
  refine mKG hok rfl rfl rfl rfl (fun a' w' F' E' => o_move (F'.ev rfl) ⟨Ext.refl _ _, rfl⟩) ?_
  refine mEG (T' := fun _ w => Mem _ _ w ([(bt, tobj pt len cap (nxK xs k5))] ++ _)) hok rfl rfl rfl rfl (fun _ _ _ h k => h.later k) (fun a' w' σ' F' E' T' => o_call (F'.ev rfl) (F'.evs rfl) (Cal.mono (alike_c T l iT il (by omega) _ _ tm (wtV xs k5 base) _ (hwT _ E') (hwl _ E')) fun _ _ hh => ⟨hh.2.any, hh.1, T'.later hh.2⟩)) ?_
  refine mK hok rfl rfl (fun a' w' F' E' => o_pickT (F'.ev rfl) (F'.ev rfl) ⟨Ext.refl _ _, rfl⟩) ?_
  refine mE (T' := fun _ w => Mem _ _ w ([(bt, tobj pt len cap (nxK xs k5))] ++ _)) hok rfl rfl (fun _ _ _ h k => h.later k) (fun a' w' σ' F' E' T' => o_move (F'.ev rfl) ⟨Ext.refl _ _, rfl, T'⟩) ?_
  refine mKG hok rfl rfl rfl rfl (fun a' w' F' E' => o_loadA (M1.laterBut E' hB) (F'.ev rfl) (by repeat (first | exact .here | apply Has.there)) (by first | assumption | rfl) ⟨Ext.refl _ _, rfl⟩) ?_
  refine mKG hok rfl rfl rfl rfl (fun a' w' F' E' => o_move (F'.ev rfl) ⟨Ext.refl _ _, rfl⟩) ?_
  refine mKG hok rfl rfl rfl rfl (fun a' w' F' E' => o_move (F'.ev rfl) ⟨Ext.refl _ _, rfl⟩) ?_
  refine mEG (T' := fun _ w => Mem _ _ w ([(bt, tobj pt len cap (nxK xs k5))] ++ _)) hok rfl rfl rfl rfl (fun _ _ _ h k => h.later k) (fun a' w' σ' F' E' T' => o_call (F'.ev rfl) (F'.evs rfl) (Cal.mono (alike_c T m iT im (by omega) _ _ tm base _ (hwT _ E') (hwm _ E')) fun _ _ hh => ⟨hh.2.any, hh.1, T'.later hh.2⟩)) ?_
  refine mK hok rfl rfl (fun a' w' F' E' => o_pickT (F'.ev rfl) (F'.ev rfl) ⟨Ext.refl _ _, rfl⟩) ?_
  refine mE (T' := fun _ w => Mem _ _ w ([(bt, tobj pt len cap (nxK xs k5))] ++ _)) hok rfl rfl (fun _ _ _ h k => h.later k) (fun a' w' σ' F' E' T' => o_move (F'.ev rfl) ⟨Ext.refl _ _, rfl, T'⟩) ?_
  refine mKG hok rfl rfl rfl rfl (fun a' w' F' E' => o_loadA (M1.laterBut E' hB) (F'.ev rfl) (by repeat (first | exact .here | apply Has.there)) (by first | assumption | rfl) ⟨Ext.refl _ _, rfl⟩) ?_
  refine mKG hok rfl rfl rfl rfl (fun a' w' F' E' => o_move (F'.ev rfl) ⟨Ext.refl _ _, rfl⟩) ?_
  refine mKG hok rfl rfl rfl rfl (fun a' w' F' E' => o_move (F'.ev rfl) ⟨Ext.refl _ _, rfl⟩) ?_
  refine mEG (T' := fun _ w => Mem _ _ w ([(bt, tobj pt len cap (nxK xs k5))] ++ _)) hok rfl rfl rfl rfl (fun _ _ _ h k => h.later k) (fun a' w' σ' F' E' T' => o_call (F'.ev rfl) (F'.evs rfl) (Cal.mono (alike_c T l iT il (by omega) _ _ tm now _ (hwT _ E') (hwl _ E')) fun _ _ hh => ⟨hh.2.any, hh.1, T'.later hh.2⟩)) ?_
  refine mK hok rfl rfl (fun a' w' F' E' => o_pickT (F'.ev rfl) (F'.ev rfl) ⟨Ext.refl _ _, rfl⟩) ?_
  refine mE (T' := fun _ w => Mem _ _ w ([(bt, tobj pt len cap (nxK xs k5))] ++ _)) hok rfl rfl (fun _ _ _ h k => h.later k) (fun a' w' σ' F' E' T' => o_move (F'.ev rfl) ⟨Ext.refl _ _, rfl, T'⟩) ?_
  refine mKG hok rfl rfl rfl rfl (fun a' w' F' E' => o_loadA (M1.laterBut E' hB) (F'.ev rfl) (by repeat (first | exact .here | apply Has.there)) (by first | assumption | rfl) ⟨Ext.refl _ _, rfl⟩) ?_
  refine mKG hok rfl rfl rfl rfl (fun a' w' F' E' => o_move (F'.ev rfl) ⟨Ext.refl _ _, rfl⟩) ?_
  refine mKG hok rfl rfl rfl rfl (fun a' w' F' E' => o_move (F'.ev rfl) ⟨Ext.refl _ _, rfl⟩) ?_
  refine mKG hok rfl rfl rfl rfl (fun a' w' F' E' => o_move (F'.ev rfl) ⟨Ext.refl _ _, rfl⟩) ?_
  refine mEXG (V := AdvP w1.heap.size 9) (T' := fun _ w => ∃ k, Mem _ _ w ([(bt, tobj pt len cap k)] ++ _)) hok rfl rfl rfl rfl (AdvP.staysBut hbw) (fun _ _ _ h e => h.elim fun k hk => ⟨k, hk.later e⟩) (fun a' w' σ' F' E' D' hσ' T' => o_call (F'.ev rfl) (F'.evs rfl) (Cal.mono (spoiled_c l il (by omega) _ _ (hwl _ E') hwn (hTw _ E') (T'.heap .here)) fun x w'' hh => by
    obtain ⟨z, kz, hz, hz2, N⟩ := hh
    exact ⟨N.ext, ⟨z, by omega, hz.at_.mono E'.size, hz.is⟩, kz, Mem.turn1 T' N .here⟩)) ?_
  refine mEKXG (v := .bool true) (T' := fun _ w => ∃ k, Mem _ _ w ([(bt, tobj pt len cap k)] ++ _)) hok rfl rfl rfl rfl (fun _ _ _ h e => h.elim fun k hk => ⟨k, hk.later e⟩) (fun a' w' σ' F' E' D' hσ' T' => by
    obtain ⟨z, g1, g2, g3⟩ := D' 29 (memDep rfl) (AdvP w1.heap.size 9) (by kernel_rfl)
    obtain ⟨kz, T'⟩ := T'
    obtain ⟨q, c, e, _⟩ := id g2.1
    have F2 := F'.know (d := 69) e
    exact o_call (F2.ev rfl) (F2.evs rfl) (Cal.mono (alike_c T z iT g3 (by omega) _ _ tm base _ (hwT _ E') (e ▸ g2.1)) fun _ _ hh => ⟨hh.2.any, hh.1, kz, T'.later hh.2⟩)) ?_
  refine mK hok rfl rfl (fun a' w' F' E' => o_pickT (F'.ev rfl) (F'.ev rfl) ⟨Ext.refl _ _, rfl⟩) ?_
  refine mE (T' := fun _ w => ∃ k, Mem _ _ w ([(bt, tobj pt len cap k)] ++ _)) hok rfl rfl (fun _ _ _ h e => h.elim fun k hk => ⟨k, hk.later e⟩) (fun a' w' σ' F' E' T' => o_move (F'.ev rfl) ⟨Ext.refl _ _, rfl, T'⟩) ?_
  refine mKG hok rfl rfl rfl rfl (fun a' w' F' E' => o_move (F'.ev rfl) ⟨Ext.refl _ _, rfl⟩) ?_
  refine mKG hok rfl rfl rfl rfl (fun a' w' F' E' => o_move (F'.ev rfl) ⟨Ext.refl _ _, rfl⟩) ?_
  refine mEXG (V := AdvP w1.heap.size 9) (T' := fun _ w => ∃ k, Mem _ _ w ([(bt, tobj pt len cap k)] ++ _)) hok rfl rfl rfl rfl (AdvP.staysBut hbw) (fun _ _ _ h e => h.elim fun k hk => ⟨k, hk.later e⟩) (fun a' w' σ' F' E' D' hσ' T' => by
    obtain ⟨k0, T'⟩ := T'
    exact o_call (F'.ev rfl) (F'.evs rfl) (Cal.mono (spoiled_c l il (by omega) _ _ (hwl _ E') hwn (hTw _ E') (T'.heap .here)) fun x w'' hh => by
      obtain ⟨z, kz, hz, hz2, N⟩ := hh
      exact ⟨N.ext, ⟨z, by omega, hz.at_.mono E'.size, hz.is⟩, kz, Mem.turn1 T' N .here⟩)) ?_
  refine mKG hok rfl rfl rfl rfl (fun a' w' F' E' => o_move (F'.ev rfl) ⟨Ext.refl _ _, rfl⟩) ?_
  refine mXG (V := PlP w1.heap.size 9 base) hok rfl rfl rfl rfl (PlP.staysBut hbw) (fun a' w' F' E' D' => by
    obtain ⟨z, g1, g2, g3⟩ := D' 35 (memDep rfl) (AdvP w1.heap.size 9) (by kernel_rfl)
    obtain ⟨q, c, e, _⟩ := id g2.1
    have F2 := F'.know (d := 75) e
    exact o_build F2 rfl rfl ⟨Ext.refl _ _, _, z, rfl, g1, e ▸ g2, g3⟩) ?_
  refine mKG hok rfl rfl rfl rfl (fun a' w' F' E' => o_move (F'.ev rfl) ⟨Ext.refl _ _, rfl⟩) ?_
  refine mKG hok rfl rfl rfl rfl (fun a' w' F' E' => o_move (F'.ev rfl) ⟨Ext.refl _ _, rfl⟩) ?_
  refine mKXG (v := .bool true) hok rfl rfl rfl rfl (fun a' w' F' E' D' => by
    obtain ⟨u, z, g0, g1, g2, g3⟩ := D' 37 (memDep rfl) (PlP w1.heap.size 9 base) (by kernel_rfl)
    have F2 := F'.know (d := 77) g0
    exact o_call (F2.ev rfl) (F2.evs rfl) (Cal.mono (alike_c z m g3 im (by omega) _ _ base base _ g2.1 (hwm _ E')) fun _ _ hh => ⟨hh.2, hh.1⟩)) ?_
  refine mK hok rfl rfl (fun a' w' F' E' => o_pickT (F'.ev rfl) (F'.ev rfl) ⟨Ext.refl _ _, rfl⟩) ?_
  refine mK hok rfl rfl (fun a' w' F' E' => o_move (F'.ev rfl) ⟨Ext.refl _ _, rfl⟩) ?_
  (refine mKG hok rfl rfl rfl rfl (fun a' w' F' E' => o_call (F'.ev rfl) (F'.evs rfl) (Cal.mono (known_c _) fun _ _ hh => ⟨hh.2, hh.1⟩)) ?_)
  refine mK hok rfl rfl (fun a' w' F' E' => o_pickT (F'.ev rfl) (F'.ev rfl) ⟨Ext.refl _ _, rfl⟩) ?_
  (refine mDone rfl hef ?_; clear F; clear M; intro a w F hE2 hX MT hDD hPP; obtain ⟨k6, M⟩ := MT; clear M1 hX hE2 hok hef hB hDD hPP; (try dsimp only at F))
  refine stepD rfl F rfl (o_assign (F.ev rfl) ?_); clear F; clear a; intro a F
  with_reducible refine l_nil ?_
  with_reducible refine q_then ?_
  with_reducible refine c_ret ?_
  refine p_ret F rfl (.cons (.tmp (F.ev rfl)) .nil) ?_
  exact ⟨rfl, M.ext⟩
end Go.Proofs.Ytilgoepokaaleaa
namespace Go.Proofs.Ytilgoepokaaleaa
set_option linter.unusedVariables false
set_option linter.unusedSimpArgs false
open Go.ChangeShapes Go.WideShapes Go.ChangeAt Go.RowKit
set_option maxRecDepth 100000 in
theorem updatesForms_contract (H : Type) (enc : TypeId × Value → H) (W : World) (base : Nat) (args : Array Value) (ds gs : List (DataW H)) (before : List MemPlace)
    (hval : ∀ (j : Nat) t v, Try.f3.params[j]? = some t → args[j]? = some v → Value.okWide Try.prog W .any base t v)
    (hW : DataW.Whole enc Try.prog Try.f3.params.toList Rows.updatesFormsSpec.vars false W args.toList ds gs before) (hL : laidMetH Try.prog seatLaid W) (hS : W.ShapedOpen Try.prog) :
    Calls Try.prog 3 args W fun e W' => ∃ v, e = .returned v ∧ Rows.updatesFormsSpec.post enc Try.prog Try.f3 false true false false W args v W' := by
  have hW' := hW
  obtain ⟨p, q, hA0, hV, rfl, hfz, hnd⟩ := hW
  have hA : DataW.TrodAll enc Try.prog W 0 (fun _ => true) true Try.f3.params.toList args.toList ds p := hA0
  rw [Try.params3] at hA hval
  obtain ⟨v0, vs0, d0, ds0, p0, q0, hargs, rfl, rfl, h0, r0⟩ := trodAll_cons hA
  obtain ⟨v1, vs1, d1, ds1, p1, q1, rfl, rfl, rfl, h1, r1⟩ := trodAll_cons r0
  obtain ⟨v2, vs2, d2, ds2, p2, q2, rfl, rfl, rfl, h2, r2⟩ := trodAll_cons r1
  obtain ⟨v3, vs3, d3, ds3, p3, q3, rfl, rfl, rfl, h3, r3⟩ := trodAll_cons r2
  obtain ⟨rfl, rfl, rfl⟩ := trodAll_nil r3
  obtain rfl : args = #[v0, v1, v2, v3] := by cases args; simp_all
  obtain ⟨u0, l0, n0, hx0, hs0, rfl⟩ := open_plan (hval 0 _ v0 rfl rfl) h0
  obtain ⟨l1, hx1, hs1⟩ := open_advs (hval 1 _ v1 rfl rfl) h1
  obtain ⟨l2, q2p, cap2, rfl, hc2, hx2⟩ := open_il (hval 2 _ v2 rfl rfl) h2
  obtain ⟨x3, rfl, rfl, rfl, w3⟩ := open_int Try.underlying3 (hval 3 _ v3 rfl rfl) h3; have hx3 := int_bd w3
  refine ((formsL_c l0 l1 hx0 hx1 u0 v1 n0 x3 q2p cap2 l2 W hs0 hs1 hx2 hc2).calls).mono ?_
  rintro e W' ⟨v, rfl, rfl, hE⟩
  exact ⟨_, rfl, law_post (tb := 4) laidOut (by kernel_rfl) rfl (by kernel_rfl) Try.underlying4 (fun xs hx => by rw [Try.params3] at hx; match xs, hx with | [_, _, _, _], _ => rfl) hW' hE⟩
set_option maxRecDepth 100000 in
theorem updatesForms_lifted (os : Os) (started : os.Started) (H : Type) (enc : TypeId × Value → H) (F : Stop.Interp) :
    ReturnsInHanded {} Try.checked os 3 .any ((OpenSpec.ofChange Rows.updatesFormsSpec).preRow enc Try.prog Try.f3 Rows.updatesFormsRow.domain false Rows.updatesFormsRow.laid) (((OpenSpec.ofChange Rows.updatesFormsSpec).at F).post enc Try.prog Try.f3 false true false false) := by
  have hx : ∃ places ds, DataW.whole enc Try.prog ((laidWorld os).forCall (fun _ _ => 0) ⟨#[], #[.agg (plC (.slice none 0 0) 0).toArray, .slice none 0 0, .slice none 0 0, .int .i64 0], []⟩).memory Try.f3.params.toList Rows.updatesFormsSpec.vars false #[Value.agg (plC (.slice none 0 0) 0).toArray, .slice none 0 0, .slice none 0 0, .int .i64 0].toList 8 = some (ds, [], places) ∧ ds = [.agg [.nil, .lit (.int .i64 0)], .nil, .nil, .lit (.int .i64 0)] := ⟨[], [.agg [.nil, .lit (.int .i64 0)], .nil, .nil, .lit (.int .i64 0)], by kernel_rfl, rfl⟩
  obtain ⟨places, ds, hx, rfl⟩ := hx
  refine returnsInHanded_of_row (C := Try.checked) (s := OpenSpec.ofChange Rows.updatesFormsSpec) own started (by kernel_rfl) Try.func3
    (witness_row_at (enc := enc) (C := Try.checked) false (laidWorld os) #[.agg (plC (.slice none 0 0) 0).toArray, .slice none 0 0, .slice none 0 0, .int .i64 0] rfl (by kernel_rfl) (by kernel_rfl) (by kernel_rfl)
      (OpenSpec.preRow_of_cond 8 hx (by kernel_rfl) (fun k hk => by cases hk) (by kernel_rfl) (laid_met os _))) ?_
  intro W base args ds gs before hval hW _ hcond _ hL hS _
  exact updatesForms_contract H enc W base args ds gs before hval hW hL hS
theorem updatesForms_said : Rows.UpdatesFormsSaid :=
  OpenClaim.holds_of_cond 3 Try.f3 rfl rfl rfl rfl rfl rfl rfl ⟨rfl, rfl, rfl, rfl, rfl⟩ rfl rfl rfl rfl rfl (by kernel_rfl) Try.func3 (by kernel_rfl)
    (of_decide_eq_true (by kernel_rfl)) (by unfold Func.isWrapper; first | (rw [if_pos (by decide +kernel)]; kernel_rfl) | (rw [if_neg (by decide +kernel)]; exact ⟨rfl, rfl⟩))
    (fun os started H enc _ F => by rw [OpenClaim.pre_eq_preRow]; exact updatesForms_lifted os started H enc F)
#print axioms updatesForms_said
end Go.Proofs.Ytilgoepokaaleaa

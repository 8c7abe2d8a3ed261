/-
  address.FormatIP.
-/
import Derived.Test.YtadnpidadcgdcaaDoorP7
namespace Go.Proofs.YtadnpidadcgdcaaDoor
set_option linter.unusedVariables false
set_option linter.unusedSimpArgs false
open Go.RowKit
attribute [local irreducible] OpTo wpListIn Code.wpIn MW Cal

/-- the separator, where one is needed -/
def fsep (bs : List Int) : List Int := if bs ≠ [] ∧ bs.getD (bs.length - 1) 0 ≠ 58 then bs ++ [58] else bs
def inRun (st len i : Nat) : Prop := 2 ≤ len ∧ st ≤ i ∧ i < st + len
instance (st len i : Nat) : Decidable (inRun st len i) := by unfold inRun; infer_instance
def fstep (st len : Nat) (bs : List Int) (x : Nat × Int) : List Int :=
  if inRun st len x.1 then (if x.1 = st then bs ++ [58, 58] else bs) else fsep bs ++ hexI x.2
def fall (st len : Nat) (xs : List (Nat × Int)) : List Int := xs.foldl (fstep st len) []
/-- numbers as bytes -/
def txt (xs : List Int) : List UInt8 := xs.map fun n => UInt8.ofNat n.toNat
def formatI (ip : List Int) : List Int := fall (zall (grps ip)).1 (zall (grps ip)).2.1 (grps ip)
theorem fsep_len (bs : List Int) : bs.length ≤ (fsep bs).length ∧ (fsep bs).length ≤ bs.length + 1 := by
  unfold fsep; split <;> simp
theorem fstep_len (st len : Nat) (bs : List Int) (x : Nat × Int) : (fstep st len bs x).length ≤ bs.length + 5 := by
  unfold fstep
  have h1 := fsep_len bs
  have h2 := hexI_len x.2
  split
  · split <;> simp
  · rw [List.length_append]; omega
theorem fall_len (st len : Nat) : ∀ (xs : List (Nat × Int)) (b : List Int), (xs.foldl (fstep st len) b).length ≤ b.length + 5 * xs.length
  | [], b => by simp
  | x :: xs, b => by
    have h1 := fall_len st len xs (fstep st len b x)
    have h2 := fstep_len st len b x
    simp only [List.foldl_cons, List.length_cons]; omega
theorem zall_bd : ∀ (xs : List (Nat × Int)) (s : Nat × Nat × Nat) (k : Nat), s.1 ≤ k → s.2.1 ≤ k → s.2.2 ≤ k → (∀ i x, xs[i]? = some x → x.1 = k + i) → (xs.foldl zstep s).1 ≤ k + xs.length ∧ (xs.foldl zstep s).2.1 ≤ k + xs.length
  | [], s, k, h1, h2, h3, _ => by simpa using ⟨h1, h2⟩
  | x :: xs, s, k, h1, h2, h3, hx => by
    have e0 := hx 0 x rfl
    have := zall_bd xs (zstep s x) (k + 1) (by unfold zstep; split <;> (try split) <;> simp <;> omega) (by unfold zstep; split <;> (try split) <;> simp <;> omega) (by unfold zstep; split <;> (try split) <;> simp <;> omega) (fun i y hy => by have := hx (i + 1) y (by simpa using hy); omega)
    simp only [List.foldl_cons, List.length_cons]; omega
theorem zeros_bd (ip : List Int) : (zall (grps ip)).1 ≤ 8 ∧ (zall (grps ip)).2.1 ≤ 8 := by
  have := zall_bd (grps ip) (0, 0, 0) 0 (Nat.le_refl _) (Nat.le_refl _) (Nat.le_refl _) (fun i x h => by
    simp only [grps, List.getElem?_map, Option.map_eq_some_iff] at h
    obtain ⟨a, ha, rfl⟩ := h
    have := (List.getElem?_eq_some_iff.1 ha).2
    simp at this ⊢; omega)
  simpa [grps, zall] using this
theorem nth_last {bs : List Int} {junk : List Value} {off : Nat} (h : 0 < bs.length) (ho : off = bs.length - 1) : nth (bs.map (Value.int .u8) ++ junk) off = some (.int .u8 (bs.getD (bs.length - 1) 0)) := by
  subst ho
  have hl : bs.length - 1 < bs.length := by omega
  rw [nth_spec]; simp [List.getElem?_append, hl]

theorem src2 (P : Program) (w : World) : SrcOf P w (.string ⟨#[58, 58]⟩) 2 1 [.int .u8 58, .int .u8 58] := SrcOf.str P w ⟨#[58, 58]⟩

set_option maxRecDepth 10000 in
set_option maxHeartbeats 4000000 in
theorem formatIP_c (ip : List Int) (h : IsIP ip) (W : World) (hG : GT W) : Cal Tryd.prog 17 [.agg (ipC ip).toArray].toArray W fun v w' => v = mkS (txt (formatI ip)) ∧ Ext [] W w' := by
  have hl16 : (ipC ip).length = 16 := by rw [length_ipC, h.len]
  have hseg : seg (ipC ip) 0 16 = some (ipC ip) := by
    have h1 := seg_of [] (ipC ip) []
    rw [hl16] at h1
    simpa using h1
  have hzb := zeros_bd ip
  unfold formatI
  refine fn_ofM (n := 57) [] Tryd.func17 rfl rfl rfl ?_
  intro a w F M hwW
  refine c_seq ?_
  refine c_region ?_
  (refine stepD rfl F rfl (o_box M (F.ev rfl) rfl ?_); clear F; clear M; intro b1 w M a F)
  refine stepD rfl F rfl (o_assign (F.ev rfl) ?_); clear F; clear a; intro a F
  with_reducible refine l_nil ?_
  with_reducible refine q_then ?_
  with_reducible refine c_seq ?_
  with_reducible refine c_region ?_
  refine stepD rfl F rfl (o_loadA M (F.ev rfl) (by repeat (first | exact .here | apply Has.there)) (by first | assumption | rfl) ?_); clear F; clear a; intro a F
  (refine stepD rfl F rfl (o_call (F.ev rfl) (F.evs rfl) (Cal.mono (zeros_c ip h _) ?_)); clear F; clear a; rintro _ w ⟨rfl, hE⟩ a F; replace M := M.later hE; clear hE)
  generalize (zall (grps ip)).1 = st at *
  generalize (zall (grps ip)).2.1 = len at *
  refine stepD rfl F rfl (o_move (F.ev rfl) ?_); clear F; clear a; intro a F
  refine stepD rfl F rfl (o_extract (F.ev rfl) rfl ?_); clear F; clear a; intro a F
  refine stepD rfl F rfl (o_extract (F.ev rfl) rfl ?_); clear F; clear a; intro a F
  (refine stepD rfl F rfl (o_alloc M ?_); clear F; clear M; intro b3 w M a F)
  (refine stepD rfl F rfl (o_alloc M ?_); clear F; clear M; intro b4 w M a F)
  (refine stepN rfl F (o_store1 M (F.ev rfl) (F.ev rfl) rfl (by repeat (first | exact .here | apply Has.there)) (by rfl) (by repeat (first | exact .here | apply Upd.there)) ?_); clear F; clear M; intro w M a F)
  (refine stepN rfl F (o_store1 M (F.ev rfl) (F.ev rfl) rfl (by repeat (first | exact .here | apply Has.there)) (by rfl) (by repeat (first | exact .here | apply Upd.there)) ?_); clear F; clear M; intro w M a F)
  with_reducible refine l_nil ?_
  with_reducible refine q_then ?_
  with_reducible refine c_seq ?_
  with_reducible refine c_region ?_
  (refine stepD rfl F rfl (o_alloc M ?_); clear F; clear M; intro b5 w M a F)
  with_reducible refine l_nil ?_
  with_reducible refine q_then ?_
  with_reducible refine c_seq ?_
  with_reducible refine c_seq ?_
  with_reducible refine c_region ?_
  refine stepD rfl F rfl (o_loadA M (F.ev rfl) (by repeat (first | exact .here | apply Has.there)) (by first | assumption | rfl) ?_); clear F; clear a; intro a F
  (refine stepD rfl F rfl (o_call (F.ev rfl) (F.evs rfl) (Cal.mono (groups_c ip h _ ) ?_)); clear F; clear a; rintro _ w ⟨c1, rfl, N⟩ a F; replace M := M.joins N; clear N)
  with_reducible refine l_nil ?_
  with_reducible refine q_then ?_
  with_reducible refine c_block ?_
  replace F := F.only [14, 5, 4, 3] rfl
  replace M := (M.perm (l' := [(b5, .cells [.slice none 0 0].toArray 26 (0, 0)), (b4, .cells [.int .i64 len].toArray 3 (0, 0)), (b3, .cells [.int .i64 st].toArray 3 (0, 0))] ++ ([(b1, .cells (ipC ip).toArray 23 (0, 0))] ++ [(c1, .cells (ipC ip).toArray 23 (0, 0))])) (by rw [← List.append_assoc]; exact List.perm_append_comm)).sub (l' := [(b5, .cells [.slice none 0 0].toArray 26 (0, 0)), (b4, .cells [.int .i64 len].toArray 3 (0, 0)), (b3, .cells [.int .i64 st].toArray 3 (0, 0))] ++ [(c1, .cells (ipC ip).toArray 23 (0, 0))]) (List.Sublist.append_left (List.sublist_append_right _ _) _)
  refine c_range (α := Nat × Int) (ps := [15, 16]) F M rfl (groups_iter ip h c1) (fun _ => rfl) rfl
    (fun pre l => ∃ sv ent, OwnS 5 1 sv (fall st len pre).length ((fall st len pre).map (Value.int .u8)) ent ∧ l = [(b5, .cells [sv].toArray 26 (0, 0)), (b4, .cells [.int .i64 len].toArray 3 (0, 0)), (b3, .cells [.int .i64 st].toArray 3 (0, 0))] ++ ent)
    (fun _ _ _ => False) ⟨_, [], OwnS.nil _ _, rfl⟩ ?round ?done ?stop
  case round =>
    clear F M
    rintro L pre x _ w p a hok ⟨sv, ent, hO, rfl⟩ M F
    obtain ⟨hx1, hp8, hx2⟩ := pre_at hok
    with_reducible refine c_seq ?_
    with_reducible refine c_region ?_
    refine stepD rfl F rfl (o_assign (F.ev rfl) ?_); clear F; clear a; intro a F
    with_reducible refine l_nil ?_
    with_reducible refine q_then ?_
    with_reducible refine c_region ?_
    refine stepD rfl F rfl (o_assign (F.ev rfl) ?_); clear F; clear a; intro a F
    with_reducible refine l_nil ?_
    with_reducible refine q_then ?_
    refine ⟨_, M, ?_⟩
    clear M
    intro w p M
    have hstep : fall st len (pre ++ [x]) = fstep st len (fall st len pre) x := by simp [fall]
    have hbl : (fall st len pre).length ≤ 5 * pre.length := by have := fall_len st len pre []; simpa [fall] using this
    have hgb := h.grp pre.length
    rw [← hx2] at hgb
    generalize fall st len pre = bs at *
    obtain ⟨x1, x2⟩ := x
    dsimp only at *
    obtain ⟨sp, sc, rfl⟩ := hO.slice
    replace M := M.perm (l' := (b5, .cells [.slice sp bs.length sc].toArray 26 (0, 0)) :: (b4, .cells [.int .i64 len].toArray 3 (0, 0)) :: (b3, .cells [.int .i64 st].toArray 3 (0, 0)) :: (p ++ ent)) (by rw [List.append_assoc]; exact List.Perm.append_left [_, _, _] List.perm_append_comm)
    by_cases hin : inRun st len x1
    · have hin2 := hin
      obtain ⟨hi1, hi2, hi3⟩ := hin2
      by_cases hst : x1 = st
      · have hs' : fall st len (pre ++ [(x1, x2)]) = bs ++ [58, 58] := by rw [hstep]; simp only [fstep, if_pos hin, if_pos hst]
        with_reducible refine c_block ?_
        with_reducible refine c_seq ?_
        with_reducible refine c_seq ?_
        with_reducible refine c_region ?_
        refine stepD rfl F rfl (o_load1 M (F.ev rfl) (by repeat (first | exact .here | apply Has.there)) (by first | assumption | rfl) ?_); clear F; clear a; intro a F
        refine stepD rfl F rfl (o_geqT (F.ev rfl) (F.ev rfl) (by omega) ?_); clear F; clear a; intro a F
        refine stepD rfl F rfl (o_move (F.ev rfl) ?_); clear F; clear a; intro a F
        refine stepG rfl F rfl rfl rfl (o_move (F.ev rfl) ?_); clear F; clear a; intro a F
        refine stepG rfl F rfl rfl rfl (o_load1 M (F.ev rfl) (by repeat (first | exact .here | apply Has.there)) (by first | assumption | rfl) ?_); clear F; clear a; intro a F
        refine stepG rfl F rfl rfl rfl (o_geqT (F.ev rfl) (F.ev rfl) (by omega) ?_); clear F; clear a; intro a F
        refine stepD rfl F rfl (o_pickT (F.ev rfl) (F.ev rfl) ?_); clear F; clear a; intro a F
        refine stepD rfl F rfl (o_move (F.ev rfl) ?_); clear F; clear a; intro a F
        refine stepG rfl F rfl rfl rfl (o_move (F.ev rfl) ?_); clear F; clear a; intro a F
        refine stepG rfl F rfl rfl rfl (o_load1 M (F.ev rfl) (by repeat (first | exact .here | apply Has.there)) (by first | assumption | rfl) ?_); clear F; clear a; intro a F
        refine stepG rfl F rfl rfl rfl (o_load1 M (F.ev rfl) (by repeat (first | exact .here | apply Has.there)) (by first | assumption | rfl) ?_); clear F; clear a; intro a F
        refine stepG rfl F rfl rfl rfl (o_add (F.ev rfl) (F.ev rfl) (w_i64 (by omega) (by omega)) ?_); clear F; clear a; intro a F
        refine stepG rfl F rfl rfl rfl (o_lssT (F.ev rfl) (F.ev rfl) (by omega) ?_); clear F; clear a; intro a F
        refine stepD rfl F rfl (o_pickT (F.ev rfl) (F.ev rfl) ?_); clear F; clear a; intro a F
        with_reducible refine l_nil ?_
        with_reducible refine q_then ?_
        refine c_true F rfl rfl ?_
        with_reducible refine c_seq ?_
        with_reducible refine c_seq ?_
        with_reducible refine c_region ?_
        refine stepD rfl F rfl (o_move (F.ev rfl) ?_); clear F; clear a; intro a F
        refine stepD rfl F rfl (o_load1 M (F.ev rfl) (by repeat (first | exact .here | apply Has.there)) (by first | assumption | rfl) ?_); clear F; clear a; intro a F
        refine stepD rfl F rfl (o_eqlT (F.ev rfl) (F.ev rfl) (by omega) ?_); clear F; clear a; intro a F
        with_reducible refine l_nil ?_
        with_reducible refine q_then ?_
        refine c_true F rfl rfl ?_
        with_reducible refine c_region ?_
        refine stepD rfl F rfl (o_load1 M (F.ev rfl) (by repeat (first | exact .here | apply Has.there)) (by first | assumption | rfl) ?_); clear F; clear a; intro a F
        (refine stepD rfl F rfl (o_append hO M (.cons (.cons (.cons (.app .here)))) (F.ev rfl) (F.ev rfl) (src2 _ _) (by first | omega | (simp; omega)) (by first | omega | (simp; omega)) ?_); clear F; clear M; clear hO; intro v2 ent2 w hO M a F; (try dsimp only at M))
        obtain ⟨sp2, sc2, rfl⟩ := hO.slice
        (refine stepN rfl F (o_store1 M (F.ev rfl) (F.ev rfl) rfl (by repeat (first | exact .here | apply Has.there)) (by rfl) (by repeat (first | exact .here | apply Upd.there)) ?_); clear F; clear M; intro w M a F)
        with_reducible refine l_nil ?_
        with_reducible refine q_then ?_
        with_reducible refine c_exit ?_
        with_reducible refine q_thenX ?_
        with_reducible refine q_inBX ?_
        refine ⟨[_, _, _] ++ ent2, ⟨.slice sp2 _ sc2, ent2, ?_, rfl⟩, M.perm (by rw [List.append_assoc]; exact List.Perm.append_left [_, _, _] List.perm_append_comm)⟩
        rw [hs', List.map_append, List.length_append]; exact hO
      · have hs' : fall st len (pre ++ [(x1, x2)]) = bs := by rw [hstep]; simp [fstep, hin, hst]
        with_reducible refine c_block ?_
        with_reducible refine c_seq ?_
        with_reducible refine c_seq ?_
        with_reducible refine c_region ?_
        refine stepD rfl F rfl (o_load1 M (F.ev rfl) (by repeat (first | exact .here | apply Has.there)) (by first | assumption | rfl) ?_); clear F; clear a; intro a F
        refine stepD rfl F rfl (o_geqT (F.ev rfl) (F.ev rfl) (by omega) ?_); clear F; clear a; intro a F
        refine stepD rfl F rfl (o_move (F.ev rfl) ?_); clear F; clear a; intro a F
        refine stepG rfl F rfl rfl rfl (o_move (F.ev rfl) ?_); clear F; clear a; intro a F
        refine stepG rfl F rfl rfl rfl (o_load1 M (F.ev rfl) (by repeat (first | exact .here | apply Has.there)) (by first | assumption | rfl) ?_); clear F; clear a; intro a F
        refine stepG rfl F rfl rfl rfl (o_geqT (F.ev rfl) (F.ev rfl) (by omega) ?_); clear F; clear a; intro a F
        refine stepD rfl F rfl (o_pickT (F.ev rfl) (F.ev rfl) ?_); clear F; clear a; intro a F
        refine stepD rfl F rfl (o_move (F.ev rfl) ?_); clear F; clear a; intro a F
        refine stepG rfl F rfl rfl rfl (o_move (F.ev rfl) ?_); clear F; clear a; intro a F
        refine stepG rfl F rfl rfl rfl (o_load1 M (F.ev rfl) (by repeat (first | exact .here | apply Has.there)) (by first | assumption | rfl) ?_); clear F; clear a; intro a F
        refine stepG rfl F rfl rfl rfl (o_load1 M (F.ev rfl) (by repeat (first | exact .here | apply Has.there)) (by first | assumption | rfl) ?_); clear F; clear a; intro a F
        refine stepG rfl F rfl rfl rfl (o_add (F.ev rfl) (F.ev rfl) (w_i64 (by omega) (by omega)) ?_); clear F; clear a; intro a F
        refine stepG rfl F rfl rfl rfl (o_lssT (F.ev rfl) (F.ev rfl) (by omega) ?_); clear F; clear a; intro a F
        refine stepD rfl F rfl (o_pickT (F.ev rfl) (F.ev rfl) ?_); clear F; clear a; intro a F
        with_reducible refine l_nil ?_
        with_reducible refine q_then ?_
        refine c_true F rfl rfl ?_
        with_reducible refine c_seq ?_
        with_reducible refine c_seq ?_
        with_reducible refine c_region ?_
        refine stepD rfl F rfl (o_move (F.ev rfl) ?_); clear F; clear a; intro a F
        refine stepD rfl F rfl (o_load1 M (F.ev rfl) (by repeat (first | exact .here | apply Has.there)) (by first | assumption | rfl) ?_); clear F; clear a; intro a F
        refine stepD rfl F rfl (o_eqlF (F.ev rfl) (F.ev rfl) (by omega) ?_); clear F; clear a; intro a F
        with_reducible refine l_nil ?_
        with_reducible refine q_then ?_
        refine c_false F rfl rfl ?_
        with_reducible refine c_skip ?_
        with_reducible refine q_then ?_
        with_reducible refine c_exit ?_
        with_reducible refine q_thenX ?_
        with_reducible refine q_inBX ?_
        refine ⟨[_, _, _] ++ ent, ⟨.slice sp bs.length sc, ent, ?_, rfl⟩, ?_⟩
        · rw [hs']; exact hO
        · exact M.perm (by rw [List.append_assoc]; exact List.Perm.append_left [_, _, _] List.perm_append_comm)
    · have hs' : fall st len (pre ++ [(x1, x2)]) = fsep bs ++ hexI x2 := by rw [hstep]; simp [fstep, hin]
      have h3 : len < 2 ∨ (2 ≤ len ∧ x1 < st) ∨ (2 ≤ len ∧ st ≤ x1 ∧ st + len ≤ x1) := by unfold inRun at hin; omega
      rcases h3 with h3 | ⟨h3, h4⟩ | ⟨h3, h4, h5⟩
      all_goals
        by_cases hb0 : bs.length = 0
        · have hfs : fsep bs = bs := by
            obtain rfl := List.length_eq_zero_iff.1 hb0
            rfl
          repeat (first | (with_reducible refine c_seq ?_) | (with_reducible refine c_region ?_) | (with_reducible refine l_nil ?_) | (with_reducible refine q_then ?_) | (with_reducible refine c_block ?_) | (with_reducible refine c_skip ?_) | (refine c_false F rfl rfl ?_) | (refine stepD rfl F rfl (o_move (F.ev rfl) ?_); clear F; clear a; intro a F) | (refine stepD rfl F rfl (o_gtrF (F.ev rfl) (F.ev rfl) (by omega) ?_); clear F; clear a; intro a F) | (refine stepD rfl F rfl (o_geqT (F.ev rfl) (F.ev rfl) (by omega) ?_); clear F; clear a; intro a F) | (refine stepD rfl F rfl (o_geqF (F.ev rfl) (F.ev rfl) (by omega) ?_); clear F; clear a; intro a F) | (refine stepD rfl F rfl (o_conv (F.ev rfl) (w_u64 (by omega) (by omega)) ?_); clear F; clear a; intro a F) | (refine stepD rfl F rfl (o_pickT (F.ev rfl) (F.ev rfl) ?_); clear F; clear a; intro a F) | (refine stepD rfl F rfl (o_pickF (F.ev rfl) (F.ev rfl) ?_); clear F; clear a; intro a F) | (refine stepD rfl F rfl (o_lenSl (F.ev rfl) ?_); clear F; clear a; intro a F) | (refine stepD rfl F rfl (o_load1 M (F.ev rfl) (by repeat (first | exact .here | apply Has.there)) (by first | assumption | rfl) ?_); clear F; clear a; intro a F) | (refine stepOff F rfl rfl rfl rfl ?_; clear F; clear a; intro a F) | (refine stepG rfl F rfl rfl rfl (o_move (F.ev rfl) ?_); clear F; clear a; intro a F) | (refine stepG rfl F rfl rfl rfl (o_lssF (F.ev rfl) (F.ev rfl) (by omega) ?_); clear F; clear a; intro a F) | (refine stepG rfl F rfl rfl rfl (o_geqT (F.ev rfl) (F.ev rfl) (by omega) ?_); clear F; clear a; intro a F) | (refine stepG rfl F rfl rfl rfl (o_geqF (F.ev rfl) (F.ev rfl) (by omega) ?_); clear F; clear a; intro a F) | (refine stepG rfl F rfl rfl rfl (o_add (F.ev rfl) (F.ev rfl) (w_i64 (by omega) (by omega)) ?_); clear F; clear a; intro a F) | (refine stepG rfl F rfl rfl rfl (o_load1 M (F.ev rfl) (by repeat (first | exact .here | apply Has.there)) (by first | assumption | rfl) ?_); clear F; clear a; intro a F))
          (refine stepD rfl F rfl (o_call (F.ev rfl) (F.evs rfl) (Cal.mono (appendUint_c hO M (.cons (.cons (.cons (.app .here)))) hgb.1 hgb.2 (by first | omega | (simp; omega)) hG (by simp)) ?_)); clear F; clear M; clear hO; clear a; rintro v2 w ⟨ent2, hO, M⟩ a F; (try dsimp only at M))
          skip
          obtain ⟨sp2, sc2, rfl⟩ := hO.slice
          (refine stepN rfl F (o_store1 M (F.ev rfl) (F.ev rfl) rfl (by repeat (first | exact .here | apply Has.there)) (by rfl) (by repeat (first | exact .here | apply Upd.there)) ?_); clear F; clear M; intro w M a F)
          repeat (first | (with_reducible refine l_nil ?_) | (with_reducible refine q_inB ?_))
          refine ⟨[_, _, _] ++ ent2, ⟨.slice sp2 _ sc2, ent2, ?_, rfl⟩, M.perm (by rw [List.append_assoc]; exact List.Perm.append_left [_, _, _] List.perm_append_comm)⟩
          rw [hs', show (fsep bs ++ hexI x2).length = (fsep bs).length + (hexI x2).length from List.length_append, hfs]; exact hO
        · have hne : bs ≠ [] := fun e => hb0 (by rw [e]; rfl)
          have hOk := hO
          rcases hOk with ⟨_, h0, _, _⟩ | ⟨bf, capf, junkf, hv, rfl, hxl, hjl, hcc⟩
          · omega
          cases hv
          have M' := M.perm (l' := (b5, .cells [.slice (some ⟨bf, 0, none⟩) bs.length sc].toArray 26 (0, 0)) :: (b4, .cells [.int .i64 len].toArray 3 (0, 0)) :: (b3, .cells [.int .i64 st].toArray 3 (0, 0)) :: ([(bf, .cells (bs.map (Value.int .u8) ++ junkf).toArray 5 (0, 0))] ++ p)) (by exact List.Perm.append_left [_, _, _] List.perm_append_comm)
          by_cases hlast : bs.getD (bs.length - 1) 0 = 58
          · have hfs : fsep bs = bs := by unfold fsep; rw [if_neg (by simp only [hlast]; simp)]
            repeat (first | (with_reducible refine c_seq ?_) | (with_reducible refine c_region ?_) | (with_reducible refine l_nil ?_) | (with_reducible refine q_then ?_) | (with_reducible refine c_block ?_) | (with_reducible refine c_skip ?_) | (refine c_false F rfl rfl ?_) | (refine stepD rfl F rfl (o_move (F.ev rfl) ?_); clear F; clear a; intro a F) | (refine stepD rfl F rfl (o_gtrT (F.ev rfl) (F.ev rfl) (by omega) ?_); clear F; clear a; intro a F) | (refine stepD rfl F rfl (o_geqT (F.ev rfl) (F.ev rfl) (by omega) ?_); clear F; clear a; intro a F) | (refine stepD rfl F rfl (o_geqF (F.ev rfl) (F.ev rfl) (by omega) ?_); clear F; clear a; intro a F) | (refine stepD rfl F rfl (o_pickT (F.ev rfl) (F.ev rfl) ?_); clear F; clear a; intro a F) | (refine stepD rfl F rfl (o_pickF (F.ev rfl) (F.ev rfl) ?_); clear F; clear a; intro a F) | (refine stepD rfl F rfl (o_lenSl (F.ev rfl) ?_); clear F; clear a; intro a F) | (refine stepD rfl F rfl (o_load1 M (F.ev rfl) (by repeat (first | exact .here | apply Has.there)) (by first | assumption | rfl) ?_); clear F; clear a; intro a F) | (refine stepOff F rfl rfl rfl rfl ?_; clear F; clear a; intro a F) | (refine stepG rfl F rfl rfl rfl (o_move (F.ev rfl) ?_); clear F; clear a; intro a F) | (refine stepG rfl F rfl rfl rfl (o_lssF (F.ev rfl) (F.ev rfl) (by omega) ?_); clear F; clear a; intro a F) | (refine stepG rfl F rfl rfl rfl (o_geqT (F.ev rfl) (F.ev rfl) (by omega) ?_); clear F; clear a; intro a F) | (refine stepG rfl F rfl rfl rfl (o_geqF (F.ev rfl) (F.ev rfl) (by omega) ?_); clear F; clear a; intro a F) | (refine stepG rfl F rfl rfl rfl (o_add (F.ev rfl) (F.ev rfl) (w_i64 (by omega) (by omega)) ?_); clear F; clear a; intro a F) | (refine stepG rfl F rfl rfl rfl (o_sub (F.ev rfl) (F.ev rfl) (w_i64 (by omega) (by omega)) ?_); clear F; clear a; intro a F) | (refine stepG rfl F rfl rfl rfl (o_lenSl (F.ev rfl) ?_); clear F; clear a; intro a F) | (refine stepG rfl F rfl rfl rfl (o_indexSl (F.ev rfl) (F.ev rfl) (by omega) (by omega) ?_); clear F; clear a; intro a F) | (refine stepG rfl F rfl rfl rfl (o_load1 M (F.ev rfl) (by repeat (first | exact .here | apply Has.there)) (by first | assumption | rfl) ?_); clear F; clear a; intro a F))
            (refine stepG rfl F rfl rfl rfl (o_load1 M' (F.ev rfl) (.there (.there (.there .here))) (nth_last (by omega) (by omega)) ?_); clear F; clear a; intro a F)
            clear M'
            repeat (first | (with_reducible refine c_region ?_) | (with_reducible refine l_nil ?_) | (with_reducible refine q_then ?_) | (with_reducible refine c_skip ?_) | (refine c_false F rfl rfl ?_) | (refine stepD rfl F rfl (o_move (F.ev rfl) ?_); clear F; clear a; intro a F) | (refine stepD rfl F rfl (o_conv (F.ev rfl) (w_u64 (by omega) (by omega)) ?_); clear F; clear a; intro a F) | (refine stepD rfl F rfl (o_pickT (F.ev rfl) (F.ev rfl) ?_); clear F; clear a; intro a F) | (refine stepD rfl F rfl (o_load1 M (F.ev rfl) (by repeat (first | exact .here | apply Has.there)) (by first | assumption | rfl) ?_); clear F; clear a; intro a F) | (refine stepG rfl F rfl rfl rfl (o_neqF (F.ev rfl) (F.ev rfl) (by omega) ?_); clear F; clear a; intro a F))
            (refine stepD rfl F rfl (o_call (F.ev rfl) (F.evs rfl) (Cal.mono (appendUint_c hO M (.cons (.cons (.cons (.app .here)))) hgb.1 hgb.2 (by first | omega | (simp; omega)) hG (by simp)) ?_)); clear F; clear M; clear hO; clear a; rintro v2 w ⟨ent2, hO, M⟩ a F; (try dsimp only at M))
            skip
            obtain ⟨sp2, sc2, rfl⟩ := hO.slice
            (refine stepN rfl F (o_store1 M (F.ev rfl) (F.ev rfl) rfl (by repeat (first | exact .here | apply Has.there)) (by rfl) (by repeat (first | exact .here | apply Upd.there)) ?_); clear F; clear M; intro w M a F)
            repeat (first | (with_reducible refine l_nil ?_) | (with_reducible refine q_inB ?_))
            refine ⟨[_, _, _] ++ ent2, ⟨.slice sp2 _ sc2, ent2, ?_, rfl⟩, M.perm (by rw [List.append_assoc]; exact List.Perm.append_left [_, _, _] List.perm_append_comm)⟩
            rw [hs', show (fsep bs ++ hexI x2).length = (fsep bs).length + (hexI x2).length from List.length_append, hfs]; exact hO
          · have hfs : fsep bs = bs ++ [58] := by unfold fsep; rw [if_pos ⟨hne, hlast⟩]
            repeat (first | (with_reducible refine c_seq ?_) | (with_reducible refine c_region ?_) | (with_reducible refine l_nil ?_) | (with_reducible refine q_then ?_) | (with_reducible refine c_block ?_) | (with_reducible refine c_skip ?_) | (refine c_false F rfl rfl ?_) | (refine stepD rfl F rfl (o_move (F.ev rfl) ?_); clear F; clear a; intro a F) | (refine stepD rfl F rfl (o_gtrT (F.ev rfl) (F.ev rfl) (by omega) ?_); clear F; clear a; intro a F) | (refine stepD rfl F rfl (o_geqT (F.ev rfl) (F.ev rfl) (by omega) ?_); clear F; clear a; intro a F) | (refine stepD rfl F rfl (o_geqF (F.ev rfl) (F.ev rfl) (by omega) ?_); clear F; clear a; intro a F) | (refine stepD rfl F rfl (o_pickT (F.ev rfl) (F.ev rfl) ?_); clear F; clear a; intro a F) | (refine stepD rfl F rfl (o_pickF (F.ev rfl) (F.ev rfl) ?_); clear F; clear a; intro a F) | (refine stepD rfl F rfl (o_lenSl (F.ev rfl) ?_); clear F; clear a; intro a F) | (refine stepD rfl F rfl (o_load1 M (F.ev rfl) (by repeat (first | exact .here | apply Has.there)) (by first | assumption | rfl) ?_); clear F; clear a; intro a F) | (refine stepOff F rfl rfl rfl rfl ?_; clear F; clear a; intro a F) | (refine stepG rfl F rfl rfl rfl (o_move (F.ev rfl) ?_); clear F; clear a; intro a F) | (refine stepG rfl F rfl rfl rfl (o_lssF (F.ev rfl) (F.ev rfl) (by omega) ?_); clear F; clear a; intro a F) | (refine stepG rfl F rfl rfl rfl (o_geqT (F.ev rfl) (F.ev rfl) (by omega) ?_); clear F; clear a; intro a F) | (refine stepG rfl F rfl rfl rfl (o_geqF (F.ev rfl) (F.ev rfl) (by omega) ?_); clear F; clear a; intro a F) | (refine stepG rfl F rfl rfl rfl (o_add (F.ev rfl) (F.ev rfl) (w_i64 (by omega) (by omega)) ?_); clear F; clear a; intro a F) | (refine stepG rfl F rfl rfl rfl (o_sub (F.ev rfl) (F.ev rfl) (w_i64 (by omega) (by omega)) ?_); clear F; clear a; intro a F) | (refine stepG rfl F rfl rfl rfl (o_lenSl (F.ev rfl) ?_); clear F; clear a; intro a F) | (refine stepG rfl F rfl rfl rfl (o_indexSl (F.ev rfl) (F.ev rfl) (by omega) (by omega) ?_); clear F; clear a; intro a F) | (refine stepG rfl F rfl rfl rfl (o_load1 M (F.ev rfl) (by repeat (first | exact .here | apply Has.there)) (by first | assumption | rfl) ?_); clear F; clear a; intro a F))
            (refine stepG rfl F rfl rfl rfl (o_load1 M' (F.ev rfl) (.there (.there (.there .here))) (nth_last (by omega) (by omega)) ?_); clear F; clear a; intro a F)
            clear M'
            repeat (first | (with_reducible refine c_region ?_) | (with_reducible refine l_nil ?_) | (with_reducible refine q_then ?_) | (refine c_true F rfl rfl ?_) | (refine stepD rfl F rfl (o_pickT (F.ev rfl) (F.ev rfl) ?_); clear F; clear a; intro a F) | (refine stepD rfl F rfl (o_load1 M (F.ev rfl) (by repeat (first | exact .here | apply Has.there)) (by first | assumption | rfl) ?_); clear F; clear a; intro a F) | (refine stepG rfl F rfl rfl rfl (o_neqT (F.ev rfl) (F.ev rfl) (by omega) ?_); clear F; clear a; intro a F))
            (refine stepD rfl F rfl (o_buildSlice F M rfl rfl rfl rfl ?_); clear F; clear M; intro b49 w M a F)
            (refine stepD rfl F rfl (o_append hO M (.cons (.cons (.cons (.cons (.app .here))))) (F.ev rfl) (F.ev rfl) (SrcOf.cells' (M.heap .here) rfl rfl) (by first | omega | (simp; omega)) (by first | omega | (simp; omega)) ?_); clear F; clear M; clear hO; intro v3 ent3 w hO M a F; (try dsimp only at M))
            obtain ⟨sp3, sc3, rfl⟩ := hO.slice
            replace hO : OwnS 5 1 (.slice sp3 (bs.length + 1) sc3) (bs ++ [58]).length ((bs ++ [58]).map (Value.int .u8)) ent3 := by rw [List.map_append, List.length_append]; exact hO
            replace M := M.sub (List.sublist_cons_self _ _)
            (refine stepN rfl F (o_store1 M (F.ev rfl) (F.ev rfl) rfl (by repeat (first | exact .here | apply Has.there)) (by rfl) (by repeat (first | exact .here | apply Upd.there)) ?_); clear F; clear M; intro w M a F)
            repeat (first | (with_reducible refine c_region ?_) | (with_reducible refine l_nil ?_) | (with_reducible refine q_then ?_) | (refine stepD rfl F rfl (o_move (F.ev rfl) ?_); clear F; clear a; intro a F) | (refine stepD rfl F rfl (o_conv (F.ev rfl) (w_u64 (by omega) (by omega)) ?_); clear F; clear a; intro a F) | (refine stepD rfl F rfl (o_load1 M (F.ev rfl) (by repeat (first | exact .here | apply Has.there)) (by first | assumption | rfl) ?_); clear F; clear a; intro a F))
            (refine stepD rfl F rfl (o_call (F.ev rfl) (F.evs rfl) (Cal.mono (appendUint_c hO M (.cons (.cons (.cons (.app .here)))) hgb.1 hgb.2 (by first | omega | (simp; omega)) hG (by simp)) ?_)); clear F; clear M; clear hO; clear a; rintro v2 w ⟨ent2, hO, M⟩ a F; (try dsimp only at M))
            skip
            obtain ⟨sp2, sc2, rfl⟩ := hO.slice
            (refine stepN rfl F (o_store1 M (F.ev rfl) (F.ev rfl) rfl (by repeat (first | exact .here | apply Has.there)) (by rfl) (by repeat (first | exact .here | apply Upd.there)) ?_); clear F; clear M; intro w M a F)
            repeat (first | (with_reducible refine l_nil ?_) | (with_reducible refine q_inB ?_))
            refine ⟨[_, _, _] ++ ent2, ⟨.slice sp2 _ sc2, ent2, ?_, rfl⟩, M.perm (by rw [List.append_assoc]; exact List.Perm.append_left [_, _, _] List.perm_append_comm)⟩
            rw [hs', show (fsep bs ++ hexI x2).length = (fsep bs).length + (hexI x2).length from List.length_append, hfs]; exact hO
  case done =>
    clear F M
    rintro D xs _ p w a rfl ⟨sv, ent, hO, rfl⟩ M F
    obtain ⟨sp, sc, rfl⟩ := hO.slice
    replace M := M.perm (l' := (D, .deferred (some [])) :: (b5, .cells [.slice sp (fall st len (grps ip)).length sc].toArray 26 (0, 0)) :: (b4, .cells [.int .i64 len].toArray 3 (0, 0)) :: (b3, .cells [.int .i64 st].toArray 3 (0, 0)) :: (p ++ ent)) (by rw [List.append_assoc]; exact List.Perm.append_left [_, _, _, _] List.perm_append_comm)
    with_reducible refine q_inB ?_
    with_reducible refine q_then ?_
    with_reducible refine c_seq ?_
    with_reducible refine c_region ?_
    refine stepD rfl F rfl (o_load1 M (F.ev rfl) (by repeat (first | exact .here | apply Has.there)) (by first | assumption | rfl) ?_); clear F; clear a; intro a F
    (refine stepD rfl F rfl (o_convOS hO M (.cons (.cons (.cons (.cons (.app .here))))) (F.ev rfl) ?_); clear F; clear a; intro a F)
    refine stepD rfl F rfl (o_assign (F.ev rfl) ?_); clear F; clear a; intro a F
    with_reducible refine l_nil ?_
    with_reducible refine q_then ?_
    with_reducible refine c_ret ?_
    refine p_ret1 F M .here rfl fun w' M' => ⟨.cons (.tmp (F.ev rfl)) .nil, rfl, M'.ext⟩
  case stop => exact fun _ _ _ _ _ _ _ h => h.elim
end Go.Proofs.YtadnpidadcgdcaaDoor

/-
  address.groups, its iterator, address.zeros.
-/
import Derived.Test.YtadnpidadcgdcaaDoorP5
namespace Go.Proofs.YtadnpidadcgdcaaDoor
set_option linter.unusedVariables false
set_option linter.unusedSimpArgs false
open Go.RowKit
attribute [local irreducible] OpTo wpListIn Code.wpIn MW Cal

structure IsIP (ip : List Int) : Prop where
  len : ip.length = 16
  bd : ∀ x ∈ ip, 0 ≤ x ∧ x < 256
theorem IsIP.at_ {ip : List Int} (h : IsIP ip) (i : Nat) : 0 ≤ ip.getD i 0 ∧ ip.getD i 0 < 256 := by
  rcases Nat.lt_or_ge i ip.length with hl | hl
  · rw [List.getD_eq_getElem?_getD, List.getElem?_eq_getElem hl]; exact h.bd _ (List.getElem_mem hl)
  · rw [List.getD_eq_getElem?_getD, List.getElem?_eq_none hl]; simp
/-- the group i -/
def grpAt (ip : List Int) (i : Nat) : Int := ip.getD (2 * i) 0 * 256 + ip.getD (2 * i + 1) 0
def grps (ip : List Int) : List (Nat × Int) := (List.range 8).map fun i => (i, grpAt ip i)
theorem IsIP.grp {ip : List Int} (h : IsIP ip) (i : Nat) : 0 ≤ grpAt ip i ∧ grpAt ip i < 65536 := by
  have h1 := h.at_ (2 * i)
  have h2 := h.at_ (2 * i + 1)
  unfold grpAt; omega
theorem grps_take {ip : List Int} {i : Nat} (h : i < 8) : (grps ip).take i ++ [(i, grpAt ip i)] = (grps ip).take (i + 1) := by
  rw [List.take_add_one]
  congr 1
  simp [grps, h]

set_option maxHeartbeats 400000 in
theorem groups_c (ip : List Int) (h : IsIP ip) (W : World) : Cal Tryd.prog 62 [.agg (ipC ip).toArray].toArray W fun v w' => ∃ b1, v = .func (.func 84) #[] [Value.pointer (some ⟨b1, 0, none⟩)].toArray ∧ Mem [] W w' [(b1, .cells (ipC ip).toArray 23 (0, 0))] := by
  refine fn_ofM (n := 4) [] Tryd.func62 rfl rfl rfl ?_
  intro a w F M hwW
  refine c_seq ?_
  refine c_region ?_
  (refine stepD rfl F rfl (o_box M (F.ev rfl) rfl ?_); clear F; clear M; intro b1 w M a F)
  refine stepD rfl F rfl (o_assign (F.ev rfl) ?_); clear F; clear a; intro a F
  with_reducible refine l_nil ?_
  with_reducible refine q_then ?_
  with_reducible refine c_seq ?_
  with_reducible refine c_region ?_
  (refine stepD rfl F rfl (o_makeFunc (F.evs (xs := []) rfl) (F.evs (xs := [.tmp 1]) rfl) ?_); clear F; clear a; intro a F)
  refine stepD rfl F rfl (o_assign (F.ev rfl) ?_); clear F; clear a; intro a F
  with_reducible refine l_nil ?_
  with_reducible refine q_then ?_
  with_reducible refine c_ret ?_
  refine p_ret F rfl (.cons (.tmp (F.ev rfl)) .nil) ?_
  exact ⟨b1, rfl, M⟩

theorem nth_ip2 {ip : List Int} (h : IsIP ip) {i n : Nat} (hi : i < 16) (hn : n = i) : nth (ipC ip) n = some (.int .u8 (ip.getD i 0)) := by
  subst hn
  have := h.len
  rw [nth_spec]; simp [ipC, List.getElem?_eq_getElem (show n < ip.length by omega)]
theorem shl8or {g d : Int} (h0 : 0 ≤ g) (h1 : g < 256) (d0 : 0 ≤ d) (d1 : d < 256) : bitsOf .or .u16 (IntKind.u16.wrap (g * 2 ^ min (Int.toNat 8) IntKind.u16.bits)) d = g * 256 + d := by
  obtain ⟨q, rfl⟩ := Int.eq_ofNat_of_zero_le h0
  obtain ⟨n, rfl⟩ := Int.eq_ofNat_of_zero_le d0
  have e : IntKind.u16.wrap ((q : Int) * 2 ^ min (Int.toNat 8) IntKind.u16.bits) = ((2 ^ 8 * q : Nat) : Int) := by
    have : ((q : Int) * 2 ^ min (Int.toNat 8) IntKind.u16.bits) = ((2 ^ 8 * q : Nat) : Int) := by
      show (q : Int) * 256 = _
      omega
    rw [this]
    exact wrap_u rfl (show 2 ^ 8 * q < 65536 by omega)
  rw [e, or_add (k := .u16) rfl 8 q n (by omega) (show 2 ^ 8 * q + n < 65536 by omega)]
  omega

set_option maxHeartbeats 1000000 in
theorem groups_iter (ip : List Int) (h : IsIP ip) (b1 : Nat) : Iter Tryd.prog 84 [.pointer (some ⟨b1, 0, none⟩)] (fun x : Nat × Int => [.int .i64 x.1, .int .u16 x.2]) (fun pre x => (pre ++ [x]) <+: grps ip)
    [(b1, .cells (ipC ip).toArray 23 (0, 0))] (fun xs => xs = grps ip) := by
  intro L S W0 w Inv InvX l hY h0 M0
  have M := M0.perm List.perm_append_comm
  clear M0
  refine fn_of (n := 25) Tryd.func84 rfl rfl rfl ?_
  intro a F
  with_reducible refine c_seq ?_
  with_reducible refine c_region ?_
  refine stepD rfl F rfl (o_move (F.ev rfl) ?_); clear F; clear a; intro a F
  with_reducible refine l_nil ?_
  with_reducible refine q_then ?_
  with_reducible refine c_block ?_
  refine c_loop (fun k a w => ∃ (i : Nat) (l : List (Nat × Obj)), k = 8 - i ∧ i ≤ 8 ∧ Inv ((grps ip).take i) l ∧ Frm a 25 [] [(4, .int .i64 i), (0, .func (.yield L) #[] #[]), (1, .pointer (some ⟨b1, 0, none⟩))] ∧
      Mem S W0 w ((b1, .cells (ipC ip).toArray 23 (0, 0)) :: l)) 8 ⟨0, l, rfl, by omega, h0, F.only [4, 0, 1] rfl, M⟩ ?_
  clear F M h0 l
  rintro k a w ⟨i, l, hk, hi8, hI, F, M⟩
  by_cases hlt : i < 8
  · have hb0 := h.at_ (2 * i)
    have hb1 := h.at_ (2 * i + 1)
    with_reducible refine c_seq ?_
    with_reducible refine c_region ?_
    refine stepD rfl F rfl (o_lssT (F.ev rfl) (F.ev rfl) (by omega) ?_); clear F; clear a; intro a F
    with_reducible refine l_nil ?_
    with_reducible refine q_then ?_
    with_reducible refine c_seq ?_
    refine c_true F rfl rfl ?_
    with_reducible refine c_skip ?_
    with_reducible refine q_then ?_
    with_reducible refine c_seq ?_
    with_reducible refine c_block ?_
    with_reducible refine c_seq ?_
    with_reducible refine c_region ?_
    refine stepD rfl F rfl (o_move (F.ev rfl) ?_); clear F; clear a; intro a F
    refine stepD rfl F rfl (o_assign (F.ev rfl) ?_); clear F; clear a; intro a F
    with_reducible refine l_nil ?_
    with_reducible refine q_then ?_
    with_reducible refine c_seq ?_
    refine c_draw 15 F (by kernel_rfl) ?_
    intro w1 hE hok
    have M1 := M.later hE
    refine mK hok rfl rfl (fun a' w' F' E' => o_move (F'.ev rfl) ⟨Ext.refl _ _, rfl⟩) ?_
    refine mK hok rfl rfl (fun a' w' F' E' => o_move (F'.ev rfl) ⟨Ext.refl _ _, rfl⟩) ?_
    refine mK hok rfl rfl (fun a' w' F' E' => o_move (F'.ev rfl) ⟨Ext.refl _ _, rfl⟩) ?_
    refine mK hok rfl rfl (fun a' w' F' E' => o_mul (F'.ev rfl) (F'.ev rfl) (w_i64 (by omega) (by omega)) ⟨Ext.refl _ _, rfl⟩) ?_
    refine mK hok rfl rfl (fun a' w' F' E' => o_indexArr (F'.ev rfl) (F'.ev rfl) (by omega) (by omega) ⟨Ext.refl _ _, rfl⟩) ?_
    (refine mK hok rfl rfl (fun a' w' F' E' => o_load1 (M1.later E') (F'.ev rfl) (by repeat (first | exact .here | apply Has.there)) (nth_ip2 h (i := 2 * i) (by omega) (by omega)) ⟨Ext.refl _ _, rfl⟩) ?_)
    refine mK hok rfl rfl (fun a' w' F' E' => o_conv (F'.ev rfl) (w_u16 (by omega) (by omega)) ⟨Ext.refl _ _, rfl⟩) ?_
    refine mK hok rfl rfl (fun a' w' F' E' => o_shl (F'.ev rfl) (F'.ev rfl) (by omega) rfl ⟨Ext.refl _ _, rfl⟩) ?_
    refine mK hok rfl rfl (fun a' w' F' E' => o_move (F'.ev rfl) ⟨Ext.refl _ _, rfl⟩) ?_
    refine mK hok rfl rfl (fun a' w' F' E' => o_mul (F'.ev rfl) (F'.ev rfl) (w_i64 (by omega) (by omega)) ⟨Ext.refl _ _, rfl⟩) ?_
    refine mK hok rfl rfl (fun a' w' F' E' => o_add (F'.ev rfl) (F'.ev rfl) (w_i64 (by omega) (by omega)) ⟨Ext.refl _ _, rfl⟩) ?_
    refine mK hok rfl rfl (fun a' w' F' E' => o_indexArr (F'.ev rfl) (F'.ev rfl) (by omega) (by omega) ⟨Ext.refl _ _, rfl⟩) ?_
    (refine mK hok rfl rfl (fun a' w' F' E' => o_load1 (M1.later E') (F'.ev rfl) (by repeat (first | exact .here | apply Has.there)) (nth_ip2 h (i := 2 * i + 1) (by omega) (by omega)) ⟨Ext.refl _ _, rfl⟩) ?_)
    refine mK hok rfl rfl (fun a' w' F' E' => o_conv (F'.ev rfl) (w_u16 (by omega) (by omega)) ⟨Ext.refl _ _, rfl⟩) ?_
    refine mK hok rfl rfl (fun a' w' F' E' => o_or (F'.ev rfl) (F'.ev rfl) rfl ⟨Ext.refl _ _, rfl⟩) ?_
    (refine mDone rfl rfl ?_; clear F; clear M; intro a w F hE2 hX hTT hDD hPP; have M := M1.later hE2; clear M1; clear hX; clear hE2; clear hok; clear hE; clear hTT; clear hDD; clear hPP; (try dsimp only at F))
    rw [shl8or hb0.1 hb0.2 hb1.1 hb1.2] at F
    have M' := M.perm (l' := l ++ [(b1, .cells (ipC ip).toArray 23 (0, 0))]) (List.perm_append_comm (l₁ := [_]))
    (refine stepD rfl F rfl (o_yield (F.ev rfl) (F.evs rfl) ((hY ((grps ip).take i) (i, grpAt ip i) l w _ (by show _ ++ [_] <+: _; rw [grps_take hlt]; exact List.take_prefix _ _) hI M').mono ?_)); clear F; clear a)
    rintro v w2 ⟨l2, M2, hor⟩ a F
    rcases hor with ⟨rfl, h1⟩ | ⟨rfl, h1⟩
    · replace M := M2.perm List.perm_append_comm
      clear M2 M'
      refine stepD rfl F rfl (o_not (F.ev rfl) ?_); clear F; clear a; intro a F
      with_reducible refine l_nil ?_
      with_reducible refine q_then ?_
      refine c_false F rfl rfl ?_
      with_reducible refine c_skip ?_
      with_reducible refine q_inB ?_
      with_reducible refine q_then ?_
      with_reducible refine c_region ?_
      refine stepD rfl F rfl (o_add (F.ev rfl) (F.ev rfl) (w_i64 (by omega) (by omega)) ?_); clear F; clear a; intro a F
      refine stepD rfl F rfl (o_move (F.ev rfl) ?_); clear F; clear a; intro a F
      with_reducible refine l_nil ?_
      with_reducible refine q_then ?_
      exact ⟨_, by omega, i + 1, l2, rfl, by omega, by rw [grps_take hlt] at h1; exact h1, F.only [4, 0, 1] rfl, M⟩
    · refine stepD rfl F rfl (o_not (F.ev rfl) ?_); clear F; clear a; intro a F
      with_reducible refine l_nil ?_
      with_reducible refine q_then ?_
      refine c_true F rfl rfl ?_
      with_reducible refine c_ret ?_
      with_reducible refine q_inBR ?_
      with_reducible refine q_thenR ?_
      with_reducible refine q_thenR ?_
      with_reducible refine q_inBR ?_
      refine p_ret F rfl .nil ?_
      exact ⟨l2, _, M2, .inr ⟨_, h1⟩⟩
  · obtain rfl : i = 8 := by omega
    with_reducible refine c_seq ?_
    with_reducible refine c_region ?_
    refine stepD rfl F rfl (o_lssF (F.ev rfl) (F.ev rfl) (by omega) ?_); clear F; clear a; intro a F
    with_reducible refine l_nil ?_
    with_reducible refine q_then ?_
    with_reducible refine c_seq ?_
    refine c_false F rfl rfl ?_
    with_reducible refine c_exit ?_
    with_reducible refine q_thenX ?_
    with_reducible refine q_thenX ?_
    with_reducible refine q_inBX ?_
    refine p_ret F rfl .nil ?_
    exact ⟨l, _, M.perm (List.perm_append_comm (l₁ := [_])), .inl ⟨_, List.take_of_length_le (by simp [grps]), hI⟩⟩

/-- one group more: the beginning, the length, the present run -/
def zstep (s : Nat × Nat × Nat) (x : Nat × Int) : Nat × Nat × Nat :=
  if x.2 ≠ 0 then (s.1, s.2.1, 0) else if s.2.2 + 1 > s.2.1 then (x.1 + 1 - (s.2.2 + 1), s.2.2 + 1, s.2.2 + 1) else (s.1, s.2.1, s.2.2 + 1)
def zall (xs : List (Nat × Int)) : Nat × Nat × Nat := xs.foldl zstep (0, 0, 0)
theorem pre_at {ip : List Int} {pre : List (Nat × Int)} {x : Nat × Int} (h : (pre ++ [x]) <+: grps ip) : x.1 = pre.length ∧ pre.length < 8 ∧ x.2 = grpAt ip pre.length := by
  obtain ⟨suf, hs⟩ := h
  have hl : pre.length < 8 := by
    have := congrArg List.length hs
    simp [grps] at this; omega
  have h1 : (grps ip)[pre.length]? = some x := by rw [← hs]; simp
  have h2 : (grps ip)[pre.length]? = some (pre.length, grpAt ip pre.length) := by simp [grps, hl]
  rw [h2] at h1
  cases h1
  exact ⟨rfl, hl, rfl⟩

set_option maxHeartbeats 1000000 in
theorem zeros_c (ip : List Int) (h : IsIP ip) (W : World) : Cal Tryd.prog 61 [.agg (ipC ip).toArray].toArray W fun v w' => v = .tuple #[.int .i64 (zall (grps ip)).1, .int .i64 (zall (grps ip)).2.1] ∧ Ext [] W w' := by
  have hl16 : (ipC ip).length = 16 := by rw [length_ipC, h.len]
  have hseg : seg (ipC ip) 0 16 = some (ipC ip) := by
    have h1 := seg_of [] (ipC ip) []
    rw [hl16] at h1
    simpa using h1
  refine fn_ofM (n := 27) [] Tryd.func61 rfl rfl rfl ?_
  intro a w F M hwW
  refine c_seq ?_
  refine c_region ?_
  (refine stepD rfl F rfl (o_box M (F.ev rfl) rfl ?_); clear F; clear M; intro b1 w M a F)
  refine stepD rfl F rfl (o_assign (F.ev rfl) ?_); clear F; clear a; intro a F
  refine stepD rfl F rfl (o_assign (F.ev rfl) ?_); clear F; clear a; intro a F
  with_reducible refine l_nil ?_
  with_reducible refine q_then ?_
  with_reducible refine c_seq ?_
  with_reducible refine c_region ?_
  (refine stepD rfl F rfl (o_alloc M ?_); clear F; clear M; intro b4 w M a F)
  (refine stepD rfl F rfl (o_alloc M ?_); clear F; clear M; intro b5 w M a F)
  (refine stepD rfl F rfl (o_alloc M ?_); clear F; clear M; intro b6 w M a F)
  (refine stepN rfl F (o_store1 M (F.ev rfl) (F.ev rfl) rfl (by repeat (first | exact .here | apply Has.there)) (by rfl) (by repeat (first | exact .here | apply Upd.there)) ?_); clear F; clear M; intro w M a F)
  (refine stepN rfl F (o_store1 M (F.ev rfl) (F.ev rfl) rfl (by repeat (first | exact .here | apply Has.there)) (by rfl) (by repeat (first | exact .here | apply Upd.there)) ?_); clear F; clear M; intro w M a F)
  (refine stepN rfl F (o_store1 M (F.ev rfl) (F.ev rfl) rfl (by repeat (first | exact .here | apply Has.there)) (by rfl) (by repeat (first | exact .here | apply Upd.there)) ?_); clear F; clear M; intro w M a F)
  with_reducible refine l_nil ?_
  with_reducible refine q_then ?_
  with_reducible refine c_seq ?_
  with_reducible refine c_seq ?_
  with_reducible refine c_region ?_
  refine stepD rfl F rfl (o_loadA M (F.ev rfl) (by repeat (first | exact .here | apply Has.there)) (by first | assumption | rfl) ?_); clear F; clear a; intro a F
  (refine stepD rfl F rfl (o_call (F.ev rfl) (F.evs rfl) (Cal.mono (groups_c ip h _ ) ?_)); clear F; clear a; rintro _ w ⟨c1, rfl, N⟩ a F; replace M := M.joins N; clear N)
  with_reducible refine l_nil ?_
  with_reducible refine q_then ?_
  with_reducible refine c_block ?_
  replace F := F.only [10, 6, 5, 4] rfl
  replace M := (M.perm (l' := [(b6, .cells [.int .i64 0].toArray 3 (0, 0)), (b5, .cells [.int .i64 0].toArray 3 (0, 0)), (b4, .cells [.int .i64 0].toArray 3 (0, 0))] ++ ([(b1, .cells (ipC ip).toArray 23 (0, 0))] ++ [(c1, .cells (ipC ip).toArray 23 (0, 0))])) (by rw [← List.append_assoc]; exact List.perm_append_comm)).sub (l' := [(b6, .cells [.int .i64 0].toArray 3 (0, 0)), (b5, .cells [.int .i64 0].toArray 3 (0, 0)), (b4, .cells [.int .i64 0].toArray 3 (0, 0))] ++ [(c1, .cells (ipC ip).toArray 23 (0, 0))]) (List.Sublist.append_left (List.sublist_append_right _ _) _)
  refine c_range (α := Nat × Int) (ps := [11, 12]) F M rfl (groups_iter ip h c1) (fun _ => rfl) rfl
    (fun pre l => (zall pre).1 ≤ pre.length ∧ (zall pre).2.1 ≤ pre.length ∧ (zall pre).2.2 ≤ pre.length ∧ l = [(b6, .cells [.int .i64 (zall pre).2.2].toArray 3 (0, 0)), (b5, .cells [.int .i64 (zall pre).2.1].toArray 3 (0, 0)), (b4, .cells [.int .i64 (zall pre).1].toArray 3 (0, 0))])
    (fun _ _ _ => False) ⟨Nat.le_refl _, Nat.le_refl _, Nat.le_refl _, rfl⟩ ?round ?done ?stop
  case round =>
    clear F M
    rintro L pre x _ w p a hok ⟨hz1, hz2, hz3, rfl⟩ M F
    obtain ⟨hx1, hp8, hx2⟩ := pre_at hok
    with_reducible refine c_seq ?_
    with_reducible refine c_region ?_
    refine stepD rfl F rfl (o_assign (F.ev rfl) ?_); clear F; clear a; intro a F
    with_reducible refine l_nil ?_
    with_reducible refine q_then ?_
    with_reducible refine c_region ?_
    refine stepD rfl F rfl (o_assign (F.ev rfl) ?_); clear F; clear a; intro a F
    with_reducible refine l_nil ?_
    with_reducible refine q_then ?_
    refine ⟨_, M, ?_⟩
    clear M
    intro w p M
    have hz : zall (pre ++ [x]) = zstep (zall pre) x := by simp [zall]
    generalize zall pre = z at *
    obtain ⟨z1, z2, z3⟩ := z
    obtain ⟨x1, x2⟩ := x
    dsimp only at *
    subst hx1
    by_cases hg : x2 = 0
    · subst hg
      have hcond : ((0 : Int) != 0) = false := rfl
      by_cases hr : z3 + 1 > z2
      · have hz' : zall (pre ++ [(pre.length, 0)]) = (pre.length + 1 - (z3 + 1), z3 + 1, z3 + 1) := by rw [hz]; simp [zstep, hr]
        with_reducible refine c_block ?_
        with_reducible refine c_seq ?_
        with_reducible refine c_seq ?_
        with_reducible refine c_region ?_
        refine stepD rfl F rfl (o_move (F.ev rfl) ?_); clear F; clear a; intro a F
        refine stepD rfl F rfl (o_neqF (F.ev rfl) (F.ev rfl) (by omega) ?_); clear F; clear a; intro a F
        with_reducible refine l_nil ?_
        with_reducible refine q_then ?_
        refine c_false F rfl rfl ?_
        with_reducible refine c_skip ?_
        with_reducible refine q_then ?_
        with_reducible refine c_seq ?_
        with_reducible refine c_region ?_
        refine stepD rfl F rfl (o_load1 M (F.ev rfl) (by repeat (first | exact .here | apply Has.there)) (by first | assumption | rfl) ?_); clear F; clear a; intro a F
        refine stepD rfl F rfl (o_add (F.ev rfl) (F.ev rfl) (w_i64 (by omega) (by omega)) ?_); clear F; clear a; intro a F
        (refine stepN rfl F (o_store1 M (F.ev rfl) (F.ev rfl) rfl (by repeat (first | exact .here | apply Has.there)) (by rfl) (by repeat (first | exact .here | apply Upd.there)) ?_); clear F; clear M; intro w M a F)
        with_reducible refine l_nil ?_
        with_reducible refine q_then ?_
        with_reducible refine c_seq ?_
        with_reducible refine c_region ?_
        refine stepD rfl F rfl (o_load1 M (F.ev rfl) (by repeat (first | exact .here | apply Has.there)) (by first | assumption | rfl) ?_); clear F; clear a; intro a F
        refine stepD rfl F rfl (o_load1 M (F.ev rfl) (by repeat (first | exact .here | apply Has.there)) (by first | assumption | rfl) ?_); clear F; clear a; intro a F
        refine stepD rfl F rfl (o_gtrT (F.ev rfl) (F.ev rfl) (by omega) ?_); clear F; clear a; intro a F
        with_reducible refine l_nil ?_
        with_reducible refine q_then ?_
        refine c_true F rfl rfl ?_
        replace M := M.perm (l' := [(b4, .cells [.int .i64 z1].toArray 3 (0, 0)), (b6, .cells [.int .i64 (z3 + 1)].toArray 3 (0, 0)), (b5, .cells [.int .i64 z2].toArray 3 (0, 0))] ++ p) (by exact List.Perm.append_right p (List.perm_append_comm (l₁ := [_, _]) (l₂ := [_])))
        refine c_drawOne M (.cells [.int .i64 ((pre.length : Int) + 1 - (z3 + 1))].toArray 3 (0, 0)) 6 F (by kernel_rfl) ?_
        intro w1 M1 hok
        refine mK hok rfl rfl (fun a' w' F' E' => o_move (F'.ev rfl) ⟨Keep.refl _ _, rfl⟩) ?_
        refine mK hok rfl rfl (fun a' w' F' E' => o_add (F'.ev rfl) (F'.ev rfl) (w_i64 (by omega) (by omega)) ⟨Keep.refl _ _, rfl⟩) ?_
        refine mK hok rfl rfl (fun a' w' F' E' => o_load1 (keepOne.later M1 E') (F'.ev rfl) (by repeat (first | exact .here | apply Has.there)) (by first | assumption | rfl) ⟨Keep.refl _ _, rfl⟩) ?_
        refine mK hok rfl rfl (fun a' w' F' E' => o_sub (F'.ev rfl) (F'.ev rfl) (w_i64 (by omega) (by omega)) ⟨Keep.refl _ _, rfl⟩) ?_
        refine mK hok rfl rfl (fun a' w' F' E' => o_load1 (keepOne.later M1 E') (F'.ev rfl) (by repeat (first | exact .here | apply Has.there)) (by first | assumption | rfl) ⟨Keep.refl _ _, rfl⟩) ?_
        refine mNX hok rfl (keepOne.stays _ _ _ _ _ _) (fun a' w' F' E' => (E'.1.1 M1).elim (fun M2 => o_store1E M2 (F'.ev rfl) (F'.ev rfl) rfl .here (by rfl) .here fun _ hS M3 => keepOne.put hS.size M3) (fun M2 => o_store1E M2 (F'.ev rfl) (F'.ev rfl) rfl .here (by rfl) .here fun _ hS M3 => keepOne.put hS.size M3)) ?_
        skip
        (refine mDone rfl rfl ?_; clear F; clear M; intro a w F hE2 hX hTT hDD hPP; have M := hX 5 _ rfl; clear M1; clear hX; clear hE2; clear hok; clear hTT; clear hDD; clear hPP; (try dsimp only at F); (try dsimp only at M))
        (refine stepN rfl F (o_store1 M (F.ev rfl) (F.ev rfl) rfl (by repeat (first | exact .here | apply Has.there)) (by rfl) (by repeat (first | exact .here | apply Upd.there)) ?_); clear F; clear M; intro w M a F)
        with_reducible refine l_nil ?_
        with_reducible refine q_inB ?_
        replace M := M.perm (List.Perm.append_right p (List.perm_append_comm (l₁ := [(b4, _)]) (l₂ := [(b6, _), (b5, _)])))
        refine ⟨[_, _, _], ?_, M⟩
        show _ ∧ _ ∧ _ ∧ _
        rw [hz']
        refine ⟨by simp; omega, by simp; omega, by simp; omega, ?_⟩
        simp; omega
      · have hz' : zall (pre ++ [(pre.length, 0)]) = (z1, z2, z3 + 1) := by rw [hz]; simp [zstep, hr]
        with_reducible refine c_block ?_
        with_reducible refine c_seq ?_
        with_reducible refine c_seq ?_
        with_reducible refine c_region ?_
        refine stepD rfl F rfl (o_move (F.ev rfl) ?_); clear F; clear a; intro a F
        refine stepD rfl F rfl (o_neqF (F.ev rfl) (F.ev rfl) (by omega) ?_); clear F; clear a; intro a F
        with_reducible refine l_nil ?_
        with_reducible refine q_then ?_
        refine c_false F rfl rfl ?_
        with_reducible refine c_skip ?_
        with_reducible refine q_then ?_
        with_reducible refine c_seq ?_
        with_reducible refine c_region ?_
        refine stepD rfl F rfl (o_load1 M (F.ev rfl) (by repeat (first | exact .here | apply Has.there)) (by first | assumption | rfl) ?_); clear F; clear a; intro a F
        refine stepD rfl F rfl (o_add (F.ev rfl) (F.ev rfl) (w_i64 (by omega) (by omega)) ?_); clear F; clear a; intro a F
        (refine stepN rfl F (o_store1 M (F.ev rfl) (F.ev rfl) rfl (by repeat (first | exact .here | apply Has.there)) (by rfl) (by repeat (first | exact .here | apply Upd.there)) ?_); clear F; clear M; intro w M a F)
        with_reducible refine l_nil ?_
        with_reducible refine q_then ?_
        with_reducible refine c_seq ?_
        with_reducible refine c_region ?_
        refine stepD rfl F rfl (o_load1 M (F.ev rfl) (by repeat (first | exact .here | apply Has.there)) (by first | assumption | rfl) ?_); clear F; clear a; intro a F
        refine stepD rfl F rfl (o_load1 M (F.ev rfl) (by repeat (first | exact .here | apply Has.there)) (by first | assumption | rfl) ?_); clear F; clear a; intro a F
        refine stepD rfl F rfl (o_gtrF (F.ev rfl) (F.ev rfl) (by omega) ?_); clear F; clear a; intro a F
        with_reducible refine l_nil ?_
        with_reducible refine q_then ?_
        refine c_false F rfl rfl ?_
        with_reducible refine c_skip ?_
        with_reducible refine q_inB ?_
        refine ⟨[_, _, _], ?_, M⟩
        show _ ∧ _ ∧ _ ∧ _
        rw [hz']
        exact ⟨by simp; omega, by simp; omega, by simp; omega, rfl⟩
    · have hz' : zall (pre ++ [(pre.length, x2)]) = (z1, z2, 0) := by rw [hz]; simp [zstep, hg]
      with_reducible refine c_block ?_
      with_reducible refine c_seq ?_
      with_reducible refine c_seq ?_
      with_reducible refine c_region ?_
      refine stepD rfl F rfl (o_move (F.ev rfl) ?_); clear F; clear a; intro a F
      refine stepD rfl F rfl (o_neqT (F.ev rfl) (F.ev rfl) (by omega) ?_); clear F; clear a; intro a F
      with_reducible refine l_nil ?_
      with_reducible refine q_then ?_
      refine c_true F rfl rfl ?_
      with_reducible refine c_seq ?_
      with_reducible refine c_region ?_
      (refine stepN rfl F (o_store1 M (F.ev rfl) (F.ev rfl) rfl (by repeat (first | exact .here | apply Has.there)) (by rfl) (by repeat (first | exact .here | apply Upd.there)) ?_); clear F; clear M; intro w M a F)
      with_reducible refine l_nil ?_
      with_reducible refine q_then ?_
      with_reducible refine c_exit ?_
      with_reducible refine q_thenX ?_
      with_reducible refine q_inBX ?_
      refine ⟨[_, _, _], ?_, M⟩
      show _ ∧ _ ∧ _ ∧ _
      rw [hz']
      exact ⟨by simp; omega, by simp; omega, by simp, rfl⟩
  case done =>
    clear F M
    rintro D xs _ p w a rfl ⟨hz1, hz2, hz3, rfl⟩ M F
    with_reducible refine q_inB ?_
    with_reducible refine q_then ?_
    with_reducible refine c_seq ?_
    refine c_draw 4 F (by kernel_rfl) ?_
    intro w1 hE hok
    have M1 := M.later hE
    refine mK hok rfl rfl (fun a' w' F' E' => o_load1 (M1.later E') (F'.ev rfl) (by repeat (first | exact .here | apply Has.there)) (by first | assumption | rfl) ⟨Ext.refl _ _, rfl⟩) ?_
    refine mK hok rfl rfl (fun a' w' F' E' => o_load1 (M1.later E') (F'.ev rfl) (by repeat (first | exact .here | apply Has.there)) (by first | assumption | rfl) ⟨Ext.refl _ _, rfl⟩) ?_
    refine mK hok rfl rfl (fun a' w' F' E' => o_assign (F'.ev rfl) ⟨Ext.refl _ _, rfl⟩) ?_
    refine mK hok rfl rfl (fun a' w' F' E' => o_assign (F'.ev rfl) ⟨Ext.refl _ _, rfl⟩) ?_
    (refine mDone rfl rfl ?_; clear F; clear M; intro a w F hE2 hX hTT hDD hPP; have M := M1.later hE2; clear M1; clear hX; clear hE2; clear hok; clear hE; clear hTT; clear hDD; clear hPP; (try dsimp only at F))
    with_reducible refine l_nil ?_
    with_reducible refine q_then ?_
    with_reducible refine c_ret ?_
    refine p_ret1 F M .here rfl fun w' M' => ⟨.cons (.tmp (F.ev rfl)) (.cons (.tmp (F.ev rfl)) .nil), rfl, M'.ext⟩
  case stop => exact fun _ _ _ _ _ _ _ h => h.elim
end Go.Proofs.YtadnpidadcgdcaaDoor

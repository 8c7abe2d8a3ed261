/-
  Texts joined: FI, K2, FJ, J0, K3, K4, K5, K6, K7, K8, K9.
-/
import Derived.Test.YtainnefmobfcjaaVal5
/-! FI -/
namespace Go.Proofs.Ytainnefmobfcjaa
set_option linter.unusedVariables false
set_option linter.unusedSimpArgs false
open Go.RowKit
attribute [local irreducible] OpTo wpListIn Code.wpIn MW Cal
theorem NewV.mono {n0 n1 : Nat} {v : Value} (h : NewV n1 v) (hle : n0 ≤ n1) : NewV n0 v := fun b o s n c e => Nat.le_trans hle (h b o s n c e)
theorem NewV.notIn {n0 bt : Nat} {v : Value} (h : NewV n0 v) (hbt : bt < n0) : ∀ b o s k c, v = .slice (some ⟨b, o, s⟩) k c → b ∉ [bt] := fun b o s k c e hb => by
  have := h b o s k c e
  simp only [List.mem_singleton] at hb
  omega
theorem OffNew.mono {n0 n1 : Nat} {W : World} {x : OV} (h : OffNew n1 W x) (hle : n0 ≤ n1) : OffNew n0 W x := ⟨h.1, h.2.1.mono hle, h.2.2.mono hle⟩
theorem OffNew.laterB {n0 bt : Nat} {W w : World} {x : OV} (h : OffNew n0 W x) (hbt : bt < n0) (E : Ext [bt] W w) : OffNew n0 w x :=
  ⟨⟨h.1.1.laterB (h.2.1.notIn hbt) E, h.1.2.laterB (h.2.2.notIn hbt) E⟩, h.2⟩
theorem OffsN.mono {n0 n1 : Nat} {W : World} {v : Value} {os : List Off} (h : OffsN n1 W v os) (hle : n0 ≤ n1) : OffsN n0 W v os := by
  obtain ⟨zs, h1, h2, h3, h4, h5⟩ := h
  exact ⟨zs, h1, h2, h3, h4.mono hle, fun z hz => ⟨(h5 z hz).1.mono hle, (h5 z hz).2.mono hle⟩⟩
theorem OffsN.laterB {n0 bt : Nat} {W w : World} {v : Value} {os : List Off} (h : OffsN n0 W v os) (hbt : bt < n0) (E : Ext [bt] W w) : OffsN n0 w v os := by
  obtain ⟨zs, h1, h2, h3, h4, h5⟩ := h
  exact ⟨zs, h1, h2.laterB (h4.notIn hbt) E, fun z hz => (OffNew.laterB ⟨h3 z hz, h5 z hz⟩ hbt E).1, h4, h5⟩
/-- offers off the tape -/
structure OffsO (n0 : Nat) (W : World) (v : Value) (os : List Off) : Prop where
  at_ : OffsN n0 W v os
  is : ∀ o ∈ os, IsOff o
  len : os.length ≤ 8
  small : ∀ o ∈ os, o.ps.length ≤ 16 ∧ o.cs.length ≤ 16
theorem OffsO.laterB {n0 bt : Nat} {W w : World} {v : Value} {os : List Off} (h : OffsO n0 W v os) (hbt : bt < n0) (E : Ext [bt] W w) : OffsO n0 w v os := ⟨h.at_.laterB hbt E, h.is, h.len, h.small⟩
/-- the memory, seen from here on -/
theorem Mem.re {S : List Nat} {W w : World} {l : List (Nat × Obj)} (M : Mem S W w l) (h : ∀ p ∈ l, p.1 ∈ S) : Mem S w w l := ⟨Ext.refl _ _, M.at_, M.nd, fun p hp => .inl (h p hp)⟩
theorem Mem.un {S : List Nat} {W w1 w : World} {l : List (Nat × Obj)} (M : Mem S w1 w l) (E : Ext S W w1) : Mem S W w l := ⟨E.trans M.ext, M.at_, M.nd, fun p hp => (M.own p hp).imp_right fun h => Nat.le_trans E.size h⟩
set_option maxHeartbeats 2000000 in
theorem woffers_c {bt : Nat} {p : Option Addr} {len cap k : Nat} {xs : List Int} (base : Int) (h0 : 0 ≤ base) (h1 : base ≤ 1099511627776) (W : World) (hT : TapeS W bt p len xs) (hb : W.heap[bt]? = some (tobj p len cap k)) :
    Cal Try.prog 25 [.pointer (some ⟨bt, 0, none⟩), .int .i64 base].toArray W fun r w' => ∃ os k', OffsO W.heap.size w' r os ∧ Mem [bt] W w' [(bt, tobj p len cap k')] := by
  have hbt : bt < W.heap.size := (Array.getElem?_eq_some_iff.1 hb).1
  refine fn_ofM (n := 29) [bt] Try.func25 rfl rfl rfl ?_
  intro a w F M hwW
  replace M := M.came hwW hb (by simp) (by simp)
  with_reducible refine c_seq ?_
  with_reducible refine c_region ?_
  refine stepD rfl F rfl (o_assign (F.ev rfl) ?_); clear F; clear a; intro a F
  with_reducible refine l_nil ?_
  with_reducible refine q_then ?_
  with_reducible refine c_seq ?_
  with_reducible refine c_region ?_
  refine stepD rfl F rfl (o_assign (F.ev rfl) ?_); clear F; clear a; intro a F
  with_reducible refine l_nil ?_
  with_reducible refine q_then ?_
  with_reducible refine c_seq ?_
  with_reducible refine c_seq ?_
  with_reducible refine c_region ?_
  refine stepD rfl F rfl (o_move (F.ev rfl) ?_); clear F; clear a; intro a F
  (refine stepD rfl F rfl (o_call (F.ev rfl) (F.evs rfl) (Cal.mono (next_c 6 (by omega) (by omega) _ (hT.later M.ext) (M.heap .here) ) ?_)); clear F; clear a; have M0 := M; clear M; rintro _ w ⟨rfl, N⟩ a F)
  replace M := M0.turn1 N .here
  clear M0
  have v1 := nxV_bd xs k (n := 6) (by omega)
  obtain ⟨c0, hc0⟩ := Int.eq_ofNat_of_zero_le v1.1
  rw [hc0] at F v1
  refine stepD rfl F rfl (o_assign (F.ev rfl) ?_); clear F; clear a; intro a F
  with_reducible refine l_nil ?_
  with_reducible refine q_then ?_
  with_reducible refine c_block ?_
  refine c_loop (fun m a w => ∃ (c : Nat) (x : Int) (os : List Off) (v : Value) (k : Nat), m = c ∧ x = c ∧ c ≤ 5 ∧ OffsO W.heap.size w v os ∧ Frm a 29 [] [(6, .int .i64 x), (5, v), (1, .int .i64 base), (0, .pointer (some ⟨bt, 0, none⟩))] ∧ Mem [bt] W w [(bt, tobj p len cap k)]) c0 ⟨c0, _, [], _, nxK xs k, rfl, rfl, by omega, ⟨OffsN.nil _ _, by simp, by simp, by simp⟩, F.only [6, 5, 1, 0] rfl, M⟩ ?_
  clear F M
  rintro m a w ⟨c, x, os, v, kk, hm, hxc, hc5, hO, F, M⟩
  by_cases hlt : 0 < c
  · with_reducible refine c_seq ?_
    with_reducible refine c_seq ?_
    with_reducible refine c_region ?_
    refine stepD rfl F rfl (o_move (F.ev rfl) ?_); clear F; clear a; intro a F
    refine stepD rfl F rfl (o_gtrT (F.ev rfl) (F.ev rfl) (by omega) ?_); clear F; clear a; intro a F
    with_reducible refine l_nil ?_
    with_reducible refine q_then ?_
    refine c_true F rfl rfl ?_
    with_reducible refine c_skip ?_
    with_reducible refine q_then ?_
    with_reducible refine c_seq ?_
    with_reducible refine c_block ?_
    with_reducible refine c_seq ?_
    with_reducible refine c_region ?_
    refine stepD rfl F rfl (o_move (F.ev rfl) ?_); clear F; clear a; intro a F
    refine stepD rfl F rfl (o_move (F.ev rfl) ?_); clear F; clear a; intro a F
    (refine stepD rfl F rfl (o_call (F.ev rfl) (F.evs rfl) (Cal.mono (woffer_c base h0 h1 _ (hT.later M.ext) (M.heap .here) ) ?_)); clear F; clear a; have M0 := M; clear M; rintro _ w ⟨y, k2, rfl, hyo, hys, hyN, N⟩ a F)
    replace hO := hO.laterB hbt N.ext
    replace M := M0.turn1 N .here
    replace hyN := hyN.mono M0.ext.size
    clear M0 N
    have E0 := M.ext
    replace M := M.re (by simp)
    have f2 : (ovC y).length = 20 := ov_len hyo
    have f3 : seg (ovC y) 0 20 = some (ovC y) := of_all hyo.1 _ _
    (refine stepD rfl F rfl (o_alloc M ?_); clear F; clear M; intro b7 w M a F)
    (refine stepN rfl F (o_storeA M (F.ev rfl) (F.ev rfl) (f2) (ov_one hyN.1)  (by repeat (first | exact .here | apply Has.there))  (put_all (by rw [f2]; rfl)) (by repeat (first | exact .here | apply Upd.there)) ?_); clear F; clear M; intro w M a F)
    with_reducible refine l_nil ?_
    with_reducible refine q_then ?_
    with_reducible refine c_seq ?_
    with_reducible refine c_region ?_
    refine stepD rfl F rfl (o_move (F.ev rfl) ?_); clear F; clear a; intro a F
    refine stepD rfl F rfl (o_loadA M (F.ev rfl) (by repeat (first | exact .here | apply Has.there)) (by first | assumption | rfl) ?_); clear F; clear a; intro a F
    obtain ⟨zs, hz, hS, hA, hNv, hNz⟩ := (hO.laterB hbt M.ext).at_
    have hzo : ∀ z ∈ zs, IsOff z.o := fun z hz' => hO.is z.o (by rw [← hz]; exact List.mem_map_of_mem hz')
    (refine stepD rfl F rfl (o_call (F.ev rfl) (F.evs rfl) (Cal.mono (raccept_c zs hzo v 0 y hyo _ hS hA (hyN.laterB hbt M.ext).1) ?_)); clear F; clear a; rintro _ w ⟨s, rfl, hof, hE⟩ a F; replace hof := hof.mono (Nat.le_trans E0.size M.ext.size); replace M := M.later hE; clear hE hS hA hNv hNz)
    rw [hz] at F hof
    have hres := acceptV_is (now := 0) hO.is hyo
    have hrl := acceptV_len os 0 y.o
    generalize acceptV os 0 y.o = R at *
    obtain ⟨r, e⟩ := R
    dsimp only at *
    by_cases he : e = 0
    · refine stepD rfl F rfl (o_move (F.ev rfl) ?_); clear F; clear a; intro a F
      refine stepD rfl F rfl (o_extract (F.ev rfl) rfl ?_); clear F; clear a; intro a F
      refine stepD rfl F rfl (o_extract (F.ev rfl) rfl ?_); clear F; clear a; intro a F
      refine stepD rfl F rfl (o_assign (F.ev rfl) ?_); clear F; clear a; intro a F
      refine stepD rfl F rfl (o_assign (F.ev rfl) ?_); clear F; clear a; intro a F
      with_reducible refine l_nil ?_
      with_reducible refine q_then ?_
      with_reducible refine c_seq ?_
      with_reducible refine c_region ?_
      refine stepD rfl F rfl (o_move (F.ev rfl) ?_); clear F; clear a; intro a F
      refine stepD rfl F rfl (o_eqlT (F.ev rfl) (F.ev rfl) (by omega) ?_); clear F; clear a; intro a F
      with_reducible refine l_nil ?_
      with_reducible refine q_then ?_
      refine c_true F rfl rfl ?_
      with_reducible refine c_region ?_
      refine stepD rfl F rfl (o_move (F.ev rfl) ?_); clear F; clear a; intro a F
      refine stepD rfl F rfl (o_assign (F.ev rfl) ?_); clear F; clear a; intro a F
      with_reducible refine l_nil ?_
      with_reducible refine q_inB ?_
      with_reducible refine q_then ?_
      with_reducible refine c_region ?_
      refine stepD rfl F rfl (o_move (F.ev rfl) ?_); clear F; clear a; intro a F
      refine stepD rfl F rfl (o_sub (F.ev rfl) (F.ev rfl) (w_i64 (by omega) (by omega)) ?_); clear F; clear a; intro a F
      refine stepD rfl F rfl (o_assign (F.ev rfl) ?_); clear F; clear a; intro a F
      with_reducible refine l_nil ?_
      with_reducible refine q_then ?_
      exact ⟨_, by omega, c - 1, _, r, s, k2, rfl, by omega, by omega, ⟨hof, fun o ho => (hres o ho).1, hrl, fun o ho => (hres o ho).2⟩, F.only [6, 5, 1, 0] rfl, (M.sub (.cons _ (.refl _))).un E0⟩
    · refine stepD rfl F rfl (o_move (F.ev rfl) ?_); clear F; clear a; intro a F
      refine stepD rfl F rfl (o_extract (F.ev rfl) rfl ?_); clear F; clear a; intro a F
      refine stepD rfl F rfl (o_extract (F.ev rfl) rfl ?_); clear F; clear a; intro a F
      refine stepD rfl F rfl (o_assign (F.ev rfl) ?_); clear F; clear a; intro a F
      refine stepD rfl F rfl (o_assign (F.ev rfl) ?_); clear F; clear a; intro a F
      with_reducible refine l_nil ?_
      with_reducible refine q_then ?_
      with_reducible refine c_seq ?_
      with_reducible refine c_region ?_
      refine stepD rfl F rfl (o_move (F.ev rfl) ?_); clear F; clear a; intro a F
      refine stepD rfl F rfl (o_eqlF (F.ev rfl) (F.ev rfl) (by omega) ?_); clear F; clear a; intro a F
      with_reducible refine l_nil ?_
      with_reducible refine q_then ?_
      refine c_false F rfl rfl ?_
      with_reducible refine c_skip ?_
      with_reducible refine q_inB ?_
      with_reducible refine q_then ?_
      with_reducible refine c_region ?_
      refine stepD rfl F rfl (o_move (F.ev rfl) ?_); clear F; clear a; intro a F
      refine stepD rfl F rfl (o_sub (F.ev rfl) (F.ev rfl) (w_i64 (by omega) (by omega)) ?_); clear F; clear a; intro a F
      refine stepD rfl F rfl (o_assign (F.ev rfl) ?_); clear F; clear a; intro a F
      with_reducible refine l_nil ?_
      with_reducible refine q_then ?_
      exact ⟨_, by omega, c - 1, _, os, v, k2, rfl, by omega, by omega, hO.laterB hbt M.ext, F.only [6, 5, 1, 0] rfl, (M.sub (.cons _ (.refl _))).un E0⟩
  · with_reducible refine c_seq ?_
    with_reducible refine c_seq ?_
    with_reducible refine c_region ?_
    refine stepD rfl F rfl (o_move (F.ev rfl) ?_); clear F; clear a; intro a F
    refine stepD rfl F rfl (o_gtrF (F.ev rfl) (F.ev rfl) (by omega) ?_); clear F; clear a; intro a F
    with_reducible refine l_nil ?_
    with_reducible refine q_then ?_
    refine c_false F rfl rfl ?_
    with_reducible refine c_exit ?_
    with_reducible refine q_thenX ?_
    with_reducible refine q_thenX ?_
    with_reducible refine q_inBX ?_
    with_reducible refine q_then ?_
    with_reducible refine c_seq ?_
    with_reducible refine c_region ?_
    refine stepD rfl F rfl (o_move (F.ev rfl) ?_); clear F; clear a; intro a F
    refine stepD rfl F rfl (o_assign (F.ev rfl) ?_); clear F; clear a; intro a F
    with_reducible refine l_nil ?_
    with_reducible refine q_then ?_
    with_reducible refine c_ret ?_
    refine p_ret F rfl (.cons (.tmp (F.ev rfl)) .nil) ?_
    exact ⟨os, kk, hO, M⟩
/-- its lists lie elsewhere -/
def OffNb (bt : Nat) (x : OV) : Prop := (∀ b o s k c, x.u = .slice (some ⟨b, o, s⟩) k c → b ∉ [bt]) ∧ ∀ b o s k c, x.v = .slice (some ⟨b, o, s⟩) k c → b ∉ [bt]
theorem OffAt.laterB {bt : Nat} {W w : World} {x : OV} (h : OffAt W x) (hn : OffNb bt x) (E : Ext [bt] W w) : OffAt w x := ⟨h.1.laterB hn.1 E, h.2.laterB hn.2 E⟩
theorem OffNew.nb {n0 bt : Nat} {W : World} {x : OV} (h : OffNew n0 W x) (hbt : bt < n0) : OffNb bt x := ⟨h.2.1.notIn hbt, h.2.2.notIn hbt⟩
def z16 : List Int := [0, 0, 0, 0, 0, 0, 0, 0, 0, 0, 0, 0, 0, 0, 0, 0]
def ciN (id : Int) : CInf := ⟨id, z16, 0, false, 0⟩
theorem ciN_is (id : Int) : IsCi (ciN id) := isIP_dec z16 (by decide)
def piN : PInf := ⟨[1, 1, 0, 0, 0, 0, 0, 0, 0, 0, 0, 0, 0, 0, 0, 0], 8, false, false, 0⟩
theorem piN_is : IsPi piN := isIP_dec [1, 1, 0, 0, 0, 0, 0, 0, 0, 0, 0, 0, 0, 0, 0, 0] (by decide)
set_option maxHeartbeats 4000000 in
theorem spoiled_c {bt : Nat} {p : Option Addr} {len cap k : Nat} {xs : List Int} (x : OV) (hx : IsOff x.o) (hl1 : x.o.ps.length ≤ 100000) (hl2 : x.o.cs.length ≤ 100000) (W : World) (hA : OffAt W x) (hnb : OffNb bt x) (hT : TapeS W bt p len xs) (hb : W.heap[bt]? = some (tobj p len cap k)) :
    Cal Try.prog 29 [.pointer (some ⟨bt, 0, none⟩), .agg (ovC x).toArray].toArray W fun r w' => ∃ y k', r = .agg (ovC y).toArray ∧ IsOff y.o ∧ (y.o.ps.length ≤ x.o.ps.length + 1 ∧ y.o.cs.length ≤ x.o.cs.length + 2) ∧ OffNew W.heap.size w' y ∧ Mem [bt] W w' [(bt, tobj p len cap k')] := by
  obtain ⟨⟨h, ps, cs⟩, u0, v0⟩ := x
  dsimp only at hx hl1 hl2
  have hh := hx.1
  change Cal _ _ [_, .agg (ofC h u0 v0).toArray].toArray _ _
  have f2 : (ofC h u0 v0).length = 20 := of_len hh _ _
  have f3 : seg (ofC h u0 v0) 0 20 = some (ofC h u0 v0) := of_all hh _ _
  refine fn_ofM (n := 48) [bt] Try.func29 rfl rfl rfl ?_
  intro a w F M hwW
  replace M := M.came hwW hb (by simp) (by simp)
  refine c_seq ?_
  refine c_region ?_
  (refine stepD rfl F rfl (o_box M (F.ev rfl) rfl ?_); clear F; clear M; intro b3 w M a F)
  (refine stepD rfl F rfl (o_alloc M ?_); clear F; clear M; intro b4 w M a F)
  with_reducible refine l_nil ?_
  with_reducible refine q_then ?_
  with_reducible refine c_seq ?_
  with_reducible refine c_region ?_
  refine stepD rfl F rfl (o_loadA M (F.ev rfl) (by repeat (first | exact .here | apply Has.there)) (by first | assumption | rfl) ?_); clear F; clear a; intro a F
  (refine stepD rfl F rfl (o_call (F.ev rfl) (F.evs rfl) (Cal.mono (rcopy_c ⟨⟨h, ps, cs⟩, u0, v0⟩ hx hl1 hl2 _ (hA.laterB hnb M.ext) ) ?_)); clear F; clear a; rintro _ w ⟨u, v, eu, ev, rfl, hu, hv, N⟩ a F; replace M := M.joins N; clear N)
  dsimp only at hu hv
  have f4 : (ofC h u v).length = 20 := of_len hh _ _
  have f5 : (ofC h u v).all (·.oneCell') = true := of_one _ _ _ hu.one hv.one
  change Frm a 48 _ ((_, Value.agg (ofC h u v).toArray) :: _) at F
  replace M := M.perm (l' := (bt, tobj p len cap k) :: (b3, .cells (ofC h u0 v0).toArray 58 (0, 0)) :: (b4, .cells ofZ.toArray 58 (0, 0)) :: (eu ++ ev)) (by classical exact List.perm_iff_count.2 fun _ => by simp only [List.count_append, List.count_cons, List.count_nil, Nat.add_zero, Nat.zero_add] <;> ac_rfl)
  (refine stepN rfl F (o_storeA M (F.ev rfl) (F.ev rfl) f4 f5  (by repeat (first | exact .here | apply Has.there))  (put_all (by rw [f4, f2])) (by repeat (first | exact .here | apply Upd.there)) ?_); clear F; clear M; intro w M a F)
  with_reducible refine l_nil ?_
  with_reducible refine q_then ?_
  with_reducible refine c_seq ?_
  with_reducible refine c_seq ?_
  with_reducible refine c_region ?_
  refine stepD rfl F rfl (o_move (F.ev rfl) ?_); clear F; clear a; intro a F
  (refine stepD rfl F rfl (o_call (F.ev rfl) (F.evs rfl) (Cal.mono (next_c 6 (by omega) (by omega) _ (hT.later M.ext) (M.heap .here) ) ?_)); clear F; clear a; have M0 := M; clear M; rintro _ w ⟨rfl, N⟩ a F)
  replace M := M0.turn1 N .here
  clear M0 N
  have v6 := nxV_bd xs k (n := 6) (by omega)
  generalize nxV xs k 6 = q at *
  generalize nxK xs k = k1 at *
  have e18 := of_ps hh u v
  have e19 := of_cs hh u v
  refine l_nil ?_
  refine q_then ?_
  refine c_cut (fun a w => ∃ (h2 : OffH) (ps2 : List PInf) (cs2 : List CInf) (u2 v2 : Value) (eu2 ev2 : List (Nat × Obj)) (k2 : Nat), IsOff ⟨h2, ps2, cs2⟩ ∧ ps2.length ≤ ps.length + 1 ∧ cs2.length ≤ cs.length + 2 ∧ OwnS 111 20 u2 ps2.length (pisC ps2) eu2 ∧ OwnS 116 20 v2 cs2.length (cisC cs2) ev2 ∧ Frm a 48 [] [(3, .pointer (some ⟨b3, 0, none⟩)), (4, .pointer (some ⟨b4, 0, none⟩))] ∧ Mem [bt] W w ((bt, tobj p len cap k2) :: (b3, .cells (ofC h2 u2 v2).toArray 58 (0, 0)) :: (b4, .cells ofZ.toArray 58 (0, 0)) :: (eu2 ++ ev2))) ?_ ?_
  · by_cases c0 : q = 0
    · with_reducible refine c_block ?_
      with_reducible refine c_seq ?_
      with_reducible refine c_region ?_
      refine stepD rfl F rfl (o_eqlT (F.ev rfl) (F.ev rfl) (by omega) ?_); clear F; clear a; intro a F
      refine stepD rfl F rfl (o_assign (F.ev rfl) ?_); clear F; clear a; intro a F
      with_reducible refine l_nil ?_
      with_reducible refine q_then ?_
      refine c_true F rfl rfl ?_
      with_reducible refine c_region ?_
      refine stepD rfl F rfl (o_fieldAddr (F.ev rfl) ?_); clear F; clear a; intro a F
      (refine stepN rfl F (o_store1 M (F.ev rfl) (F.ev rfl) rfl (by repeat (first | exact .here | apply Has.there)) (of_put_ver hh _ _ _) (by repeat (first | exact .here | apply Upd.there)) ?_); clear F; clear M; intro w M a F)
      with_reducible refine l_nil ?_
      with_reducible refine q_inB ?_
      exact ⟨{ h with ver := -1 }, ps, cs, u, v, eu, ev, k1, ⟨hh, hx.2⟩, by omega, by omega, hu, hv, F.only [3, 4] rfl, M⟩
    by_cases c1 : q = 1
    · with_reducible refine c_block ?_
      with_reducible refine c_seq ?_
      with_reducible refine c_region ?_
      refine stepD rfl F rfl (o_eqlF (F.ev rfl) (F.ev rfl) (by omega) ?_); clear F; clear a; intro a F
      refine stepD rfl F rfl (o_assign (F.ev rfl) ?_); clear F; clear a; intro a F
      with_reducible refine l_nil ?_
      with_reducible refine q_then ?_
      refine c_false F rfl rfl ?_
      with_reducible refine c_seq ?_
      with_reducible refine c_region ?_
      refine stepD rfl F rfl (o_eqlT (F.ev rfl) (F.ev rfl) (by omega) ?_); clear F; clear a; intro a F
      refine stepD rfl F rfl (o_assign (F.ev rfl) ?_); clear F; clear a; intro a F
      with_reducible refine l_nil ?_
      with_reducible refine q_then ?_
      refine c_true F rfl rfl ?_
      with_reducible refine c_region ?_
      refine stepD rfl F rfl (o_fieldAddr (F.ev rfl) ?_); clear F; clear a; intro a F
      (refine stepN rfl F (o_store1 M (F.ev rfl) (F.ev rfl) rfl (by repeat (first | exact .here | apply Has.there)) (of_put_ver hh _ _ _) (by repeat (first | exact .here | apply Upd.there)) ?_); clear F; clear M; intro w M a F)
      with_reducible refine l_nil ?_
      with_reducible refine q_inB ?_
      exact ⟨{ h with ver := 4294967296 }, ps, cs, u, v, eu, ev, k1, ⟨hh, hx.2⟩, by omega, by omega, hu, hv, F.only [3, 4] rfl, M⟩
    by_cases c2 : q = 2
    · with_reducible refine c_block ?_
      with_reducible refine c_seq ?_
      with_reducible refine c_region ?_
      refine stepD rfl F rfl (o_eqlF (F.ev rfl) (F.ev rfl) (by omega) ?_); clear F; clear a; intro a F
      refine stepD rfl F rfl (o_assign (F.ev rfl) ?_); clear F; clear a; intro a F
      with_reducible refine l_nil ?_
      with_reducible refine q_then ?_
      refine c_false F rfl rfl ?_
      with_reducible refine c_seq ?_
      with_reducible refine c_region ?_
      refine stepD rfl F rfl (o_eqlF (F.ev rfl) (F.ev rfl) (by omega) ?_); clear F; clear a; intro a F
      refine stepD rfl F rfl (o_assign (F.ev rfl) ?_); clear F; clear a; intro a F
      with_reducible refine l_nil ?_
      with_reducible refine q_then ?_
      refine c_false F rfl rfl ?_
      with_reducible refine c_seq ?_
      with_reducible refine c_region ?_
      refine stepD rfl F rfl (o_eqlT (F.ev rfl) (F.ev rfl) (by omega) ?_); clear F; clear a; intro a F
      refine stepD rfl F rfl (o_assign (F.ev rfl) ?_); clear F; clear a; intro a F
      with_reducible refine l_nil ?_
      with_reducible refine q_then ?_
      refine c_true F rfl rfl ?_
      with_reducible refine c_region ?_
      refine stepD rfl F rfl (o_move (F.ev rfl) ?_); clear F; clear a; intro a F
      (refine stepD rfl F rfl (o_call (F.ev rfl) (F.evs rfl) (Cal.mono (next_c 2 (by omega) (by omega) _ (hT.later M.ext) (M.heap .here) ) ?_)); clear F; clear a; have M0 := M; clear M; rintro _ w ⟨rfl, N⟩ a F)
      replace M := M0.turn1 N .here
      clear M0 N
      have v7 := nxV_bd xs k1 (n := 2) (by omega)
      generalize nxV xs k1 2 = q2 at *
      refine stepD rfl F rfl (o_mul (F.ev rfl) (F.ev rfl) (w_i64 (by omega) (by omega)) ?_); clear F; clear a; intro a F
      refine stepD rfl F rfl (o_add (F.ev rfl) (F.ev rfl) (w_i64 (by omega) (by omega)) ?_); clear F; clear a; intro a F
      refine stepD rfl F rfl (o_fieldAddr (F.ev rfl) ?_); clear F; clear a; intro a F
      (refine stepN rfl F (o_store1 M (F.ev rfl) (F.ev rfl) rfl (by repeat (first | exact .here | apply Has.there)) (of_put_til hh _ _ _) (by repeat (first | exact .here | apply Upd.there)) ?_); clear F; clear M; intro w M a F)
      with_reducible refine l_nil ?_
      with_reducible refine q_inB ?_
      exact ⟨{ h with til := -1 + q2 * 1099511627778 }, ps, cs, u, v, eu, ev, nxK xs k1, ⟨hh, hx.2⟩, by omega, by omega, hu, hv, F.only [3, 4] rfl, M⟩
    by_cases c3 : q = 3
    · skip
      replace M := M.perm (l' := (bt, tobj p len cap k1) :: (b3, .cells (ofC h u v).toArray 58 (0, 0)) :: (b4, .cells ofZ.toArray 58 (0, 0)) :: (ev ++ eu)) (by classical exact List.perm_iff_count.2 fun _ => by simp only [List.count_append, List.count_cons, List.count_nil, Nat.add_zero, Nat.zero_add] <;> ac_rfl)
      with_reducible refine c_block ?_
      with_reducible refine c_seq ?_
      with_reducible refine c_region ?_
      refine stepD rfl F rfl (o_eqlF (F.ev rfl) (F.ev rfl) (by omega) ?_); clear F; clear a; intro a F
      refine stepD rfl F rfl (o_assign (F.ev rfl) ?_); clear F; clear a; intro a F
      with_reducible refine l_nil ?_
      with_reducible refine q_then ?_
      refine c_false F rfl rfl ?_
      with_reducible refine c_seq ?_
      with_reducible refine c_region ?_
      refine stepD rfl F rfl (o_eqlF (F.ev rfl) (F.ev rfl) (by omega) ?_); clear F; clear a; intro a F
      refine stepD rfl F rfl (o_assign (F.ev rfl) ?_); clear F; clear a; intro a F
      with_reducible refine l_nil ?_
      with_reducible refine q_then ?_
      refine c_false F rfl rfl ?_
      with_reducible refine c_seq ?_
      with_reducible refine c_region ?_
      refine stepD rfl F rfl (o_eqlF (F.ev rfl) (F.ev rfl) (by omega) ?_); clear F; clear a; intro a F
      refine stepD rfl F rfl (o_assign (F.ev rfl) ?_); clear F; clear a; intro a F
      with_reducible refine l_nil ?_
      with_reducible refine q_then ?_
      refine c_false F rfl rfl ?_
      with_reducible refine c_seq ?_
      with_reducible refine c_region ?_
      refine stepD rfl F rfl (o_eqlT (F.ev rfl) (F.ev rfl) (by omega) ?_); clear F; clear a; intro a F
      refine stepD rfl F rfl (o_assign (F.ev rfl) ?_); clear F; clear a; intro a F
      with_reducible refine l_nil ?_
      with_reducible refine q_then ?_
      refine c_true F rfl rfl ?_
      with_reducible refine c_region ?_
      refine stepD rfl F rfl (o_fieldAddr (F.ev rfl) ?_); clear F; clear a; intro a F
      refine stepD rfl F rfl (o_load1 M (F.ev rfl) (by repeat (first | exact .here | apply Has.there)) (by first | assumption | rfl) ?_); clear F; clear a; intro a F
      refine stepD rfl F rfl (o_build F rfl rfl ?_); clear F; clear a; intro a F
      refine stepD rfl F rfl (o_build F rfl rfl ?_); clear F; clear a; intro a F
      refine stepD rfl F rfl (o_build F rfl rfl ?_); clear F; clear a; intro a F
      (refine stepD rfl F rfl (o_buildSlice F M rfl rfl rfl rfl ?_); clear F; clear M; intro bs w M a F)
      (refine stepD rfl F rfl (o_append hu M (.cons (.cons (.cons (.cons (.app .here))))) (F.ev rfl) (F.ev rfl) (SrcOf.cells' (M.heap .here) rfl rfl) (by omega) (by omega) ?_); clear F; clear M; intro u2 eu2 w hu2 M a F)
      obtain ⟨up2, uc2, rfl⟩ := hu2.slice
      refine stepD rfl F rfl (o_fieldAddr (F.ev rfl) ?_); clear F; clear a; intro a F
      (refine stepN rfl F (o_store1 M (F.ev rfl) (F.ev rfl) rfl (by repeat (first | exact .here | apply Has.there)) (of_put_ps hh _ _ _) (by repeat (first | exact .here | apply Upd.there)) ?_); clear F; clear M; intro w M a F)
      with_reducible refine l_nil ?_
      with_reducible refine q_inB ?_
      exact ⟨h, ps ++ [piN], cs, _, v, eu2, ev, k1, ⟨hh, by
        intro q hq
        rcases List.mem_append.1 hq with h | h
        · exact hx.2.1 q h
        · simp only [List.mem_singleton] at h
          rw [h]; exact piN_is, hx.2.2⟩, by simp, by omega, by show OwnS _ 20 _ (ps ++ [piN]).length (encL piC (ps ++ [piN])) _; rw [show (ps ++ [piN]).length = ps.length + 1 by simp, encL_app, encL_one]; exact hu2, hv, F.only [3, 4] rfl, (M.sub (.cons _ (.refl _))).perm (by classical exact List.perm_iff_count.2 fun _ => by simp only [List.count_append, List.count_cons, List.count_nil, Nat.add_zero, Nat.zero_add] <;> ac_rfl)⟩
    by_cases c4 : q = 4
    · skip
      with_reducible refine c_block ?_
      with_reducible refine c_seq ?_
      with_reducible refine c_region ?_
      refine stepD rfl F rfl (o_eqlF (F.ev rfl) (F.ev rfl) (by omega) ?_); clear F; clear a; intro a F
      refine stepD rfl F rfl (o_assign (F.ev rfl) ?_); clear F; clear a; intro a F
      with_reducible refine l_nil ?_
      with_reducible refine q_then ?_
      refine c_false F rfl rfl ?_
      with_reducible refine c_seq ?_
      with_reducible refine c_region ?_
      refine stepD rfl F rfl (o_eqlF (F.ev rfl) (F.ev rfl) (by omega) ?_); clear F; clear a; intro a F
      refine stepD rfl F rfl (o_assign (F.ev rfl) ?_); clear F; clear a; intro a F
      with_reducible refine l_nil ?_
      with_reducible refine q_then ?_
      refine c_false F rfl rfl ?_
      with_reducible refine c_seq ?_
      with_reducible refine c_region ?_
      refine stepD rfl F rfl (o_eqlF (F.ev rfl) (F.ev rfl) (by omega) ?_); clear F; clear a; intro a F
      refine stepD rfl F rfl (o_assign (F.ev rfl) ?_); clear F; clear a; intro a F
      with_reducible refine l_nil ?_
      with_reducible refine q_then ?_
      refine c_false F rfl rfl ?_
      with_reducible refine c_seq ?_
      with_reducible refine c_region ?_
      refine stepD rfl F rfl (o_eqlF (F.ev rfl) (F.ev rfl) (by omega) ?_); clear F; clear a; intro a F
      refine stepD rfl F rfl (o_assign (F.ev rfl) ?_); clear F; clear a; intro a F
      with_reducible refine l_nil ?_
      with_reducible refine q_then ?_
      refine c_false F rfl rfl ?_
      with_reducible refine c_seq ?_
      with_reducible refine c_region ?_
      refine stepD rfl F rfl (o_eqlT (F.ev rfl) (F.ev rfl) (by omega) ?_); clear F; clear a; intro a F
      refine stepD rfl F rfl (o_assign (F.ev rfl) ?_); clear F; clear a; intro a F
      with_reducible refine l_nil ?_
      with_reducible refine q_then ?_
      refine c_true F rfl rfl ?_
      with_reducible refine c_region ?_
      refine stepD rfl F rfl (o_fieldAddr (F.ev rfl) ?_); clear F; clear a; intro a F
      refine stepD rfl F rfl (o_load1 M (F.ev rfl) (by repeat (first | exact .here | apply Has.there)) (by first | assumption | rfl) ?_); clear F; clear a; intro a F
      refine stepD rfl F rfl (o_build F rfl rfl ?_); clear F; clear a; intro a F
      refine stepD rfl F rfl (o_build F rfl rfl ?_); clear F; clear a; intro a F
      (refine stepD rfl F rfl (o_buildSlice F M rfl rfl rfl rfl ?_); clear F; clear M; intro bs w M a F)
      (refine stepD rfl F rfl (o_append hv M (.cons (.cons (.cons (.cons (.app .here))))) (F.ev rfl) (F.ev rfl) (SrcOf.cells' (M.heap .here) rfl rfl) (by omega) (by omega) ?_); clear F; clear M; intro v2 ev2 w hv2 M a F)
      obtain ⟨up2, uc2, rfl⟩ := hv2.slice
      refine stepD rfl F rfl (o_fieldAddr (F.ev rfl) ?_); clear F; clear a; intro a F
      (refine stepN rfl F (o_store1 M (F.ev rfl) (F.ev rfl) rfl (by repeat (first | exact .here | apply Has.there)) (of_put_cs hh _ _ _) (by repeat (first | exact .here | apply Upd.there)) ?_); clear F; clear M; intro w M a F)
      with_reducible refine l_nil ?_
      with_reducible refine q_inB ?_
      exact ⟨h, ps, cs ++ [ciN 15, ciN 15], u, _, eu, ev2, k1, ⟨hh, hx.2.1, by
        intro q hq
        rcases List.mem_append.1 hq with h | h
        · exact hx.2.2 q h
        · simp only [List.mem_cons, List.not_mem_nil, or_false] at h
          rcases h with h | h <;> (rw [h]; exact ciN_is _)⟩, by omega, by simp, hu, by show OwnS _ 20 _ (cs ++ [ciN 15, ciN 15]).length (encL ciC (cs ++ [ciN 15, ciN 15])) _; rw [show (cs ++ [ciN 15, ciN 15]).length = cs.length + 2 by simp, encL_app, encL_cons, encL_one]; exact hv2, F.only [3, 4] rfl, M.sub (.cons _ (.refl _))⟩
    · skip
      with_reducible refine c_block ?_
      with_reducible refine c_seq ?_
      with_reducible refine c_region ?_
      refine stepD rfl F rfl (o_eqlF (F.ev rfl) (F.ev rfl) (by omega) ?_); clear F; clear a; intro a F
      refine stepD rfl F rfl (o_assign (F.ev rfl) ?_); clear F; clear a; intro a F
      with_reducible refine l_nil ?_
      with_reducible refine q_then ?_
      refine c_false F rfl rfl ?_
      with_reducible refine c_seq ?_
      with_reducible refine c_region ?_
      refine stepD rfl F rfl (o_eqlF (F.ev rfl) (F.ev rfl) (by omega) ?_); clear F; clear a; intro a F
      refine stepD rfl F rfl (o_assign (F.ev rfl) ?_); clear F; clear a; intro a F
      with_reducible refine l_nil ?_
      with_reducible refine q_then ?_
      refine c_false F rfl rfl ?_
      with_reducible refine c_seq ?_
      with_reducible refine c_region ?_
      refine stepD rfl F rfl (o_eqlF (F.ev rfl) (F.ev rfl) (by omega) ?_); clear F; clear a; intro a F
      refine stepD rfl F rfl (o_assign (F.ev rfl) ?_); clear F; clear a; intro a F
      with_reducible refine l_nil ?_
      with_reducible refine q_then ?_
      refine c_false F rfl rfl ?_
      with_reducible refine c_seq ?_
      with_reducible refine c_region ?_
      refine stepD rfl F rfl (o_eqlF (F.ev rfl) (F.ev rfl) (by omega) ?_); clear F; clear a; intro a F
      refine stepD rfl F rfl (o_assign (F.ev rfl) ?_); clear F; clear a; intro a F
      with_reducible refine l_nil ?_
      with_reducible refine q_then ?_
      refine c_false F rfl rfl ?_
      with_reducible refine c_seq ?_
      with_reducible refine c_region ?_
      refine stepD rfl F rfl (o_eqlF (F.ev rfl) (F.ev rfl) (by omega) ?_); clear F; clear a; intro a F
      refine stepD rfl F rfl (o_assign (F.ev rfl) ?_); clear F; clear a; intro a F
      with_reducible refine l_nil ?_
      with_reducible refine q_then ?_
      refine c_false F rfl rfl ?_
      with_reducible refine c_region ?_
      refine stepD rfl F rfl (o_fieldAddr (F.ev rfl) ?_); clear F; clear a; intro a F
      refine stepD rfl F rfl (o_load1 M (F.ev rfl) (by repeat (first | exact .here | apply Has.there)) (by first | assumption | rfl) ?_); clear F; clear a; intro a F
      refine stepD rfl F rfl (o_build F rfl rfl ?_); clear F; clear a; intro a F
      (refine stepD rfl F rfl (o_buildSlice F M rfl rfl rfl rfl ?_); clear F; clear M; intro bs w M a F)
      (refine stepD rfl F rfl (o_append hv M (.cons (.cons (.cons (.cons (.app .here))))) (F.ev rfl) (F.ev rfl) (SrcOf.cells' (M.heap .here) rfl rfl) (by omega) (by omega) ?_); clear F; clear M; intro v2 ev2 w hv2 M a F)
      obtain ⟨up2, uc2, rfl⟩ := hv2.slice
      refine stepD rfl F rfl (o_fieldAddr (F.ev rfl) ?_); clear F; clear a; intro a F
      (refine stepN rfl F (o_store1 M (F.ev rfl) (F.ev rfl) rfl (by repeat (first | exact .here | apply Has.there)) (of_put_cs hh _ _ _) (by repeat (first | exact .here | apply Upd.there)) ?_); clear F; clear M; intro w M a F)
      with_reducible refine l_nil ?_
      with_reducible refine q_inB ?_
      exact ⟨h, ps, cs ++ [ciN 16], u, _, eu, ev2, k1, ⟨hh, hx.2.1, by
        intro q hq
        rcases List.mem_append.1 hq with h | h
        · exact hx.2.2 q h
        · simp only [List.mem_cons, List.not_mem_nil, or_false] at h
          rw [h]; exact ciN_is _⟩, by omega, by simp, hu, by show OwnS _ 20 _ (cs ++ [ciN 16]).length (encL ciC (cs ++ [ciN 16])) _; rw [show (cs ++ [ciN 16]).length = cs.length + 1 by simp, encL_app, encL_one]; exact hv2, F.only [3, 4] rfl, M.sub (.cons _ (.refl _))⟩
  · clear F M a w hu hv f4 f5 f2 f3 e18 e19
    rintro a w ⟨h2, ps2, cs2, u2, v2, eu2, ev2, k2, hi2, hl3, hl4, hu2, hv2, F, M⟩
    have hh2 := hi2.1
    have f2 : (ofC h2 u2 v2).length = 20 := of_len hh2 _ _
    have f0 : seg (ofC h2 u2 v2) 0 20 = some (ofC h2 u2 v2) := of_all hh2 _ _
    have f1 : (ofC h2 u2 v2).all (·.oneCell') = true := of_one _ _ _ hu2.one hv2.one
    with_reducible refine q_then ?_
    with_reducible refine c_seq ?_
    with_reducible refine c_region ?_
    refine stepD rfl F rfl (o_loadA M (F.ev rfl) (by repeat (first | exact .here | apply Has.there)) (by first | assumption | rfl) ?_); clear F; clear a; intro a F
    (refine stepN rfl F (o_storeA M (F.ev rfl) (F.ev rfl) f2 f1  (by repeat (first | exact .here | apply Has.there))  (put_all (by rw [f2]; rfl)) (by repeat (first | exact .here | apply Upd.there)) ?_); clear F; clear M; intro w M a F)
    with_reducible refine l_nil ?_
    with_reducible refine q_then ?_
    with_reducible refine c_ret ?_
    have hAt : OffNew W.heap.size w ⟨⟨h2, ps2, cs2⟩, u2, v2⟩ := by
      have hnb : ∀ p ∈ eu2 ++ ev2, p.1 ∉ [bt] := fun p hp hb => (List.nodup_cons.1 M.nd).1 (by
        simp only [List.mem_singleton] at hb
        exact List.mem_map.2 ⟨p, by simp at hp ⊢; exact .inr (.inr hp), hb⟩)
      refine ⟨⟨hu2.slAt M (fun p hp => by simp [hp]), hv2.slAt M (fun p hp => by simp [hp])⟩, hu2.newVB M (fun p hp => by simp [hp]) (fun p hp => hnb p (List.mem_append_left _ hp)), hv2.newVB M (fun p hp => by simp [hp]) (fun p hp => hnb p (List.mem_append_right _ hp))⟩
    refine p_ret F rfl (.cons (.cell (F.ev rfl) (run_loadVar_agg TAgg.h (M.heap (.there (.there .here))) f0)) .nil) ⟨⟨⟨h2, ps2, cs2⟩, u2, v2⟩, k2, rfl, hi2, ⟨hl3, hl4⟩, hAt, ?_⟩
    exact M.sub (.cons_cons _ (List.nil_sublist _))
end Go.Proofs.Ytainnefmobfcjaa
/-! K2 -/
namespace Go.Proofs.Ytainnefmobfcjaa
set_option linter.unusedVariables false
set_option linter.unusedSimpArgs false
open Go.RowKit Go.Sort Go.Shelf
attribute [local irreducible] OpTo wpListIn Code.wpIn MW Cal
abbrev AIP := {x : List Int // IsIP x}
instance : Inhabited AIP := ⟨⟨z16, isIP_dec z16 (by decide)⟩⟩
def encA (x : AIP) : List Value := ipC x.1
def cfA (x y : AIP) : Int := cmpL x.1 y.1
theorem ltA (x y : AIP) : ltOf cfA x y = true ↔ cmpL x.1 y.1 < 0 := decide_eq_true_iff
theorem ltA_f (x y : AIP) : ltOf cfA x y = false ↔ ¬ cmpL x.1 y.1 < 0 := decide_eq_false_iff_not
theorem swoA : SWO (ltOf cfA) where
  irrefl x := by rw [ltA_f, cmpL_self]; omega
  trans x y z h1 h2 := by rw [ltA] at *; exact cmpL_lt_trans h1 h2
  ntrans x y z h1 h2 := by
    rw [ltA_f] at *
    intro h
    have h3 := cmpL_anti x.1 y.1
    rcases Int.lt_trichotomy (cmpL y.1 x.1) 0 with h4 | h4 | h4
    · exact h2 (cmpL_lt_trans h4 h)
    · rw [cmpL_zero h4] at h2
      exact h2 h
    · omega
theorem totA (x y : AIP) (h1 : ltOf cfA x y = false) (h2 : ltOf cfA y x = false) : x = y := by
  rw [ltA_f] at *
  have h3 := cmpL_anti x.1 y.1
  exact Subtype.ext (cmpL_zero (by omega))
theorem encA_map (ls : List AIP) : encL encA ls = ipsC (ls.map (·.1)) := by
  induction ls with
  | nil => rfl
  | cons x xs ih => rw [encL_cons, ih]; rfl
theorem sort_ok : SortOk (fun ls => ls.length ≤ 100000) (fun ls ls' => ls'.Perm ls ∧ ls'.Pairwise fun a b => cmpL a b ≤ 0) := by
  intro S W0 w l f v ls ent M hO hl hI hlen
  obtain ⟨az, rfl⟩ : ∃ az : List AIP, ls = az.map (·.1) := ⟨ls.pmap Subtype.mk hI, by rw [List.map_pmap]; simp⟩
  rw [List.length_map] at hO hlen
  rw [← encA_map] at hO
  have h := sort_own (P := Try.prog) (ρ := sortIP_ren) (enc := encA) (k := 16) (e := 26) sortIP (fun x => ipC_len x.2.len) (by omega) (fun x => one_ip _) (by kernel_rfl) cfA swoA totA (g := 45) (TBody.h (P := Try.prog)) (fun W x y => compareIP_c x.1 y.1 x.2 y.2 W) az M hO hl (by omega)
  refine Cal.mono h ?_
  rintro _ w' ⟨ent', hO', M'⟩
  have hp := List.mergeSort_perm az fun x y => !(ltOf cfA) y x
  have hs : (az.mergeSort fun x y => !(ltOf cfA) y x).Pairwise fun x y => (!(ltOf cfA) y x) = true := by
    refine List.pairwise_mergeSort ?_ ?_ _
    · intro a b c h1 h2
      simp only [Bool.not_eq_true'] at h1 h2 ⊢
      exact swoA.ntrans c b a h2 h1
    · intro a b
      cases h : ltOf cfA b a with
      | false => simp
      | true => simp [swoA.asymmA h]
  refine ⟨(az.mergeSort fun x y => !(ltOf cfA) y x).map (·.1), ent', ⟨hp.map _, ?_⟩, ?_, M'⟩
  · rw [List.pairwise_map]
    refine hs.imp ?_
    intro a b h
    simp only [Bool.not_eq_true'] at h
    rw [ltA_f] at h
    have := cmpL_anti a.1 b.1
    omega
  · rw [List.length_map, List.length_mergeSort, ← encA_map]
    exact hO'
/-! ascending lists -/
def AscL (ls : List (List Int)) : Prop := ls.Pairwise fun a b => cmpL a b < 0
theorem cmpL_le_eq {a b : List Int} (h : cmpL a b ≤ 0) (h2 : ¬ cmpL a b < 0) : a = b := cmpL_zero (by omega)
theorem asc_unique : ∀ (az bs : List (List Int)), AscL az → AscL bs → (∀ x, x ∈ az ↔ x ∈ bs) → az = bs
  | [], bs, _, _, h => by
    cases bs with
    | nil => rfl
    | cons b bs => have := (h b).2 (by simp); cases this
  | a :: az, [], _, _, h => by have := (h a).1 (by simp); cases this
  | a :: az, b :: bs, ha, hb, h => by
    obtain ⟨ha1, ha2⟩ := List.pairwise_cons.1 ha
    obtain ⟨hb1, hb2⟩ := List.pairwise_cons.1 hb
    have hab : a = b := by
      rcases List.mem_cons.1 ((h a).1 (by simp)) with h1 | h1
      · exact h1
      · rcases List.mem_cons.1 ((h b).2 (by simp)) with h2 | h2
        · exact h2.symm
        · have h3 := hb1 a h1
          have h4 := ha1 b h2
          have := cmpL_anti a b
          omega
    subst hab
    have hne : ∀ x, cmpL a x < 0 → x ≠ a := fun x hx e => by rw [e, cmpL_self] at hx; omega
    rw [asc_unique az bs ha2 hb2 fun x => ⟨fun hx => by
      rcases List.mem_cons.1 ((h x).1 (by simp [hx])) with h1 | h1
      · exact absurd h1 (hne x (ha1 x hx))
      · exact h1, fun hx => by
      rcases List.mem_cons.1 ((h x).2 (by simp [hx])) with h1 | h1
      · exact absurd h1 (hne x (hb1 x hx))
      · exact h1⟩]
theorem dedA_asc {ls : List (List Int)} (hs : ls.Pairwise fun a b => cmpL a b ≤ 0) : ∀ j, j ≤ ls.length → AscL (dedA (ls.take j)) ∧ ∀ x, x ∈ dedA (ls.take j) ↔ x ∈ ls.take j := by
  intro j
  induction j with
  | zero => intro _; simp [dedA, AscL]
  | succ j ih =>
    intro hj
    obtain ⟨h1, h2⟩ := ih (by omega)
    have hlt : j < ls.length := by omega
    rw [dedA_take hlt]
    have htk : ls.take (j + 1) = ls.take j ++ [ls[j]] := by rw [List.take_add_one, List.getElem?_eq_getElem hlt]; rfl
    have hle : ∀ z ∈ dedA (ls.take j), cmpL z ls[j] ≤ 0 := by
      intro z hz
      have hz' := (h2 z).1 hz
      obtain ⟨i, hi, rfl⟩ := List.mem_iff_getElem.1 hz'
      have hij : i < j := by simp at hi; omega
      rw [List.getElem_take]
      exact (List.pairwise_iff_getElem.1 hs) i j (by omega) hlt hij
    unfold dedS
    by_cases hl : (dedA (ls.take j)).getLast? = some ls[j]
    · rw [if_pos hl]
      refine ⟨h1, fun x => ?_⟩
      rw [h2, htk]
      simp only [List.mem_append, List.mem_singleton]
      constructor
      · exact .inl
      · rintro (h | h)
        · exact h
        · rw [h]; exact (h2 _).1 (List.mem_of_getLast? hl)
    · rw [if_neg hl]
      refine ⟨?_, fun x => by rw [htk]; simp only [List.mem_append, List.mem_singleton, h2]⟩
      unfold AscL
      rw [List.pairwise_append]
      refine ⟨h1, by simp, fun z hz y hy => ?_⟩
      simp only [List.mem_singleton] at hy
      subst hy
      refine Classical.byContradiction fun hn => hl ?_
      have hzx := cmpL_le_eq (hle z hz) hn
      obtain ⟨pre, lst, hpl⟩ : ∃ pre lst, dedA (ls.take j) = pre ++ [lst] := by
        cases hd : (dedA (ls.take j)).reverse with
        | nil => rw [List.reverse_eq_nil_iff] at hd; rw [hd] at hz; cases hz
        | cons y ys => exact ⟨ys.reverse, y, by rw [← List.reverse_reverse (dedA _), hd]; simp⟩
      rw [hpl] at hz h1 hle ⊢
      have hll := hle lst (by simp)
      rcases List.mem_append.1 hz with h | h
      · have h3 := (List.pairwise_append.1 h1).2.2 z h lst (by simp)
        rw [hzx] at h3
        have := cmpL_anti ls[j] lst
        omega
      · simp only [List.mem_singleton] at h
        rw [← h, hzx]; simp
/-- an address comes into an ascending list -/
def insA (ip : List Int) : List (List Int) → List (List Int)
  | [] => [ip]
  | x :: xs => if cmpL ip x < 0 then ip :: x :: xs else if cmpL ip x = 0 then x :: xs else x :: insA ip xs
theorem insA_mem (ip : List Int) : ∀ (ls : List (List Int)) (x : List Int), x ∈ insA ip ls ↔ x = ip ∨ x ∈ ls
  | [], x => by simp [insA]
  | y :: ys, x => by
    simp only [insA]
    split
    · simp
    · split
      · rename_i h
        have := cmpL_zero h
        subst this
        simp
      · simp only [List.mem_cons, insA_mem ip ys x]
        constructor
        · rintro (h | h | h)
          · exact .inr (.inl h)
          · exact .inl h
          · exact .inr (.inr h)
        · rintro (h | h | h)
          · exact .inr (.inl h)
          · exact .inl h
          · exact .inr (.inr h)
theorem insA_asc (ip : List Int) : ∀ (ls : List (List Int)), AscL ls → AscL (insA ip ls)
  | [], _ => by simp [insA, AscL]
  | y :: ys, h => by
    obtain ⟨h1, h2⟩ := List.pairwise_cons.1 h
    simp only [insA]
    split
    · rename_i hlt
      refine List.pairwise_cons.2 ⟨fun z hz => ?_, h⟩
      rcases List.mem_cons.1 hz with h3 | h3
      · rw [h3]; exact hlt
      · exact cmpL_lt_trans hlt (h1 z h3)
    · split
      · exact h
      · rename_i hn1 hn2
        refine List.pairwise_cons.2 ⟨fun z hz => ?_, insA_asc ip ys h2⟩
        rcases (insA_mem ip ys z).1 hz with h3 | h3
        · rw [h3]; have := cmpL_anti ip y; omega
        · exact h1 z h3
def insAll (raw : List (List Int)) : List (List Int) := raw.foldl (fun acc ip => insA ip acc) []
theorem insAll_spec (raw : List (List Int)) : AscL (insAll raw) ∧ ∀ x, x ∈ insAll raw ↔ x ∈ raw := by
  have key : ∀ (raw acc : List (List Int)), AscL acc → AscL (raw.foldl (fun acc ip => insA ip acc) acc) ∧ ∀ x, x ∈ raw.foldl (fun acc ip => insA ip acc) acc ↔ x ∈ raw ∨ x ∈ acc := by
    intro raw
    induction raw with
    | nil => intro acc h; simpa using h
    | cons r rs ih =>
      intro acc h
      obtain ⟨h1, h2⟩ := ih (insA r acc) (insA_asc r acc h)
      refine ⟨h1, fun x => ?_⟩
      rw [List.foldl_cons, h2, insA_mem]
      simp only [List.mem_cons]
      constructor
      · rintro (h | h | h)
        · exact .inl (.inr h)
        · exact .inl (.inl h)
        · exact .inr h
      · rintro ((h | h) | h)
        · exact .inr (.inl h)
        · exact .inl h
        · exact .inr (.inr h)
  obtain ⟨h1, h2⟩ := key raw [] (by simp [AscL])
  exact ⟨h1, fun x => by unfold insAll; rw [h2]; simp⟩
/-- sorted and compacted: the same list -/
theorem ded_ins {raw ls : List (List Int)} (hp : ls.Perm raw) (hs : ls.Pairwise fun a b => cmpL a b ≤ 0) : dedA ls = insAll raw := by
  have h1 := dedA_asc hs ls.length (Nat.le_refl _)
  rw [List.take_length] at h1
  have h2 := insAll_spec raw
  exact asc_unique _ _ h1.1 h2.1 fun x => by rw [h1.2, h2.2]; exact hp.mem_iff
end Go.Proofs.Ytainnefmobfcjaa
/-! FJ -/
namespace Go.Proofs.Ytainnefmobfcjaa
set_option linter.unusedVariables false
set_option linter.unusedSimpArgs false
open Go.RowKit
attribute [local irreducible] OpTo wpListIn Code.wpIn MW Cal
/-- an offer in new memory, as an answer -/
def OffP (n0 : Nat) : Pred := fun v w => ∃ y, v = .agg (ovC y).toArray ∧ IsOff y.o ∧ OffNew n0 w y
theorem OffP.staysBut {n0 bt : Nat} (hbt : bt < n0) : Stays (keepBut [bt]) (OffP n0) := fun v w w' ⟨y, h1, h2, h3⟩ h => ⟨y, h1, h2, h3.laterB hbt h⟩
theorem OffsO.mono {n0 n1 : Nat} {W : World} {v : Value} {os : List Off} (h : OffsO n1 W v os) (hle : n0 ≤ n1) : OffsO n0 W v os := ⟨h.at_.mono hle, h.is, h.len, h.small⟩
end Go.Proofs.Ytainnefmobfcjaa
/-! J0 -/
namespace Go.Proofs.Ytainnefmobfcjaa
set_option linter.unusedVariables false
set_option linter.unusedSimpArgs false
open Go.RowKit
/-! Msg -/
structure Msg where
  ty : Int
  hops : Int
  life : Int
  tgt : List Int
  sm : Int
  ss : Int
  se : Int
  oe : Int
  os : Int
  ost : Int
  ol : Int
  ho : Bool
  bv : Int
  bl : Int
  br : List Int
  hb : Bool
  deriving DecidableEq
def msZ : List Value := [.int .u8 0, .int .u8 0, .int .u16 0, .int .u8 0, .int .u8 0, .int .u8 0, .int .u8 0, .int .u8 0, .int .u8 0, .int .u8 0, .int .u8 0, .int .u8 0, .int .u8 0, .int .u8 0, .int .u8 0, .int .u8 0, .int .u8 0, .int .u8 0, .int .u8 0, .int .i64 0, .int .u16 0, .int .u64 0, .int .u64 0, .int .u8 0, .int .u8 0, .int .u16 0, .bool false, .slice none 0 0, .slice none 0 0, .int .u32 0, .int .u16 0, .int .u8 0, .int .u8 0, .int .u8 0, .int .u8 0, .int .u8 0, .int .u8 0, .int .u8 0, .int .u8 0, .int .u8 0, .int .u8 0, .int .u8 0, .int .u8 0, .int .u8 0, .int .u8 0, .int .u8 0, .int .u8 0, .bool false]
instance : TZero Try.prog 78 msZ := ⟨by kernel_rfl⟩
/-- a message and the values of its lists -/
structure MV where
  m : Msg
  ps : List PInf
  cs : List CInf
  u : Value
  v : Value
def MsAt (W : World) (x : MV) : Prop := SlAt W 20 x.u x.ps.length (pisC x.ps) ∧ SlAt W 20 x.v x.cs.length (cisC x.cs)
theorem MsAt.later {W w : World} {x : MV} (h : MsAt W x) (E : Ext [] W w) : MsAt w x := ⟨h.1.later E, h.2.later E⟩
end Go.Proofs.Ytainnefmobfcjaa
/-! K3 -/
namespace Go.Proofs.Ytainnefmobfcjaa
set_option linter.unusedVariables false
set_option linter.unusedSimpArgs false
open Go.RowKit
attribute [local irreducible] OpTo wpListIn Code.wpIn MW Cal
theorem insA_len (ip : List Int) : ∀ ls : List (List Int), (insA ip ls).length ≤ ls.length + 1
  | [] => by simp [insA]
  | y :: ys => by
    have := insA_len ip ys
    simp only [insA]
    split
    · simp
    · split
      · simp
      · simp; omega
set_option maxHeartbeats 4000000 in
theorem addIP_c (ls : List (List Int)) (hI : ∀ a ∈ ls, IsIP a) (hlen : ls.length ≤ 1000) (ip : List Int) (hip : IsIP ip) (v : Value) (W : World) (hS : SlAt W 16 v ls.length (ipsC ls)) :
    Cal Try.prog 95 [v, .agg (ipC ip).toArray].toArray W fun r w' => ∃ ent, OwnS 26 16 r (insA ip ls).length (ipsC (insA ip ls)) ent ∧ Mem [] W w' ent := by
  obtain ⟨q, cap, rfl, hc, _, hl, hm⟩ := hS
  have hsz : ∀ x ∈ ls, (ipC x).length = 16 := fun x hx => ipC_len (hI x hx).len
  have e1 : seg (ipC ip) 0 16 = some (ipC ip) := seg_all (ipC_len hip.len)
  refine fn_ofM (n := 46) [] Try.func95 rfl rfl rfl ?_
  intro a w F M hwW
  refine c_seq ?_
  refine c_region ?_
  (refine stepD rfl F rfl (o_box M (F.ev rfl) rfl ?_); clear F; clear M; intro b3 w M a F)
  refine stepD rfl F rfl (o_assign (F.ev rfl) ?_); clear F; clear a; intro a F
  with_reducible refine l_nil ?_
  with_reducible refine q_then ?_
  with_reducible refine c_seq ?_
  with_reducible refine c_region ?_
  refine stepD rfl F rfl (o_assign (F.ev rfl) ?_); clear F; clear a; intro a F
  with_reducible refine l_nil ?_
  with_reducible refine q_then ?_
  with_reducible refine c_seq ?_
  with_reducible refine c_region ?_
  refine stepD rfl F rfl (o_assign (F.ev rfl) ?_); clear F; clear a; intro a F
  with_reducible refine l_nil ?_
  with_reducible refine q_then ?_
  with_reducible refine c_seq ?_
  with_reducible refine c_seq ?_
  with_reducible refine c_region ?_
  refine stepD rfl F rfl (o_move (F.ev rfl) ?_); clear F; clear a; intro a F
  refine stepD rfl F rfl (o_lenSl (F.ev rfl) ?_); clear F; clear a; intro a F
  refine stepD rfl F rfl (o_move (F.ev rfl) ?_); clear F; clear a; intro a F
  with_reducible refine l_nil ?_
  with_reducible refine q_then ?_
  with_reducible refine c_block ?_
  refine c_loop (fun m a w => ∃ (i : Nat) (done : Bool) (out : List (List Int)) (sv : Value) (ent : List (Nat × Obj)), m = ls.length - i ∧ i ≤ ls.length ∧ out ++ (if done then ls.drop i else insA ip (ls.drop i)) = insA ip ls ∧ out.length ≤ i + done.toNat ∧ OwnS 26 16 sv out.length (ipsC out) ent ∧ Frm a 46 [] [(12, .int .i64 (i : Int)), (11, .int .i64 ls.length), (10, .slice q ls.length cap), (6, .bool done), (5, sv), (3, .pointer (some ⟨b3, 0, none⟩))] ∧ Mem [] W w ((b3, .cells (ipC ip).toArray 26 (0, 0)) :: ent)) ls.length ⟨0, false, [], _, [], rfl, by omega, by simp, by simp, OwnS.nil _ _, F.only [12, 11, 10, 6, 5, 3] rfl, M⟩ ?_
  clear F M
  rintro m a w ⟨i, done, out, sv, ent, hm', hi, hout, hol, hO, F, M⟩
  obtain ⟨sp, sc, rfl⟩ := hO.slice
  by_cases hlt : i < ls.length
  · obtain ⟨b, o, cs, t, fz, rfl, hb, hs⟩ := hm (by omega)
    have hdr : ls.drop i = ls[i] :: ls.drop (i + 1) := List.drop_eq_getElem_cons hlt
    obtain ⟨x, hx0⟩ : ∃ x, x = ls[i] := ⟨_, rfl⟩
    rw [← hx0] at hdr
    rw [hdr] at hout
    have hx : IsIP x := by rw [hx0]; exact hI _ (List.getElem_mem hlt)
    have f1 : seg cs (o + (i : Int).toNat * 16) 16 = some (ipC x) := by rw [hx0]; exact seg_el hsz hs hlt (by omega)
    have k1 : (ipC x).length = 16 := ipC_len hx.len
    have k2 : seg (ipC x) 0 16 = some (ipC x) := seg_all k1
    clear hx0
    with_reducible refine c_seq ?_
    with_reducible refine c_region ?_
    refine stepD rfl F rfl (o_lssT (F.ev rfl) (F.ev rfl) (by omega) ?_); clear F; clear a; intro a F
    with_reducible refine l_nil ?_
    with_reducible refine q_then ?_
    with_reducible refine c_seq ?_
    refine c_true F rfl rfl ?_
    with_reducible refine c_skip ?_
    with_reducible refine q_then ?_
    with_reducible refine c_seq ?_
    with_reducible refine c_block ?_
    with_reducible refine c_seq ?_
    with_reducible refine c_region ?_
    refine stepD rfl F rfl (o_indexSl (F.ev rfl) (F.ev rfl) (by omega) (by omega) ?_); clear F; clear a; intro a F
    refine stepD rfl F rfl (o_loadWA M (F.ev rfl) (by assumption) (by first | assumption | rfl) ?_); clear F; clear a; intro a F
    (refine stepD rfl F rfl (o_alloc M ?_); clear F; clear M; intro b8 w M a F)
    (refine stepN rfl F (o_storeA M (F.ev rfl) (F.ev rfl) k1 (one_ip _)  (by repeat (first | exact .here | apply Has.there))  (put_all (by rw [k1]; rfl)) (by repeat (first | exact .here | apply Upd.there)) ?_); clear F; clear M; intro w M a F)
    with_reducible refine l_nil ?_
    with_reducible refine q_then ?_
    with_reducible refine c_seq ?_
    with_reducible refine c_region ?_
    refine stepD rfl F rfl (o_loadA M (F.ev rfl) (by repeat (first | exact .here | apply Has.there)) (by first | assumption | rfl) ?_); clear F; clear a; intro a F
    refine stepD rfl F rfl (o_loadA M (F.ev rfl) (by repeat (first | exact .here | apply Has.there)) (by first | assumption | rfl) ?_); clear F; clear a; intro a F
    (refine stepD rfl F rfl (o_call (F.ev rfl) (F.evs rfl) (Cal.mono (rcompareIP_c ip x hip hx _) ?_)); clear F; clear a; rintro _ w ⟨rfl, hE⟩ a F; replace M := M.later hE; clear hE)
    have hol2 : out.length ≤ i + 1 := by cases done <;> simp at hol <;> omega
    cases done
    · have hol3 : out.length ≤ i := by simpa using hol
      rcases Int.lt_trichotomy (cmpL ip x) 0 with hk | hk | hk
      · simp only [insA, if_pos hk, Bool.false_eq_true, if_false] at hout
        refine stepD rfl F rfl (o_assign (F.ev rfl) ?_); clear F; clear a; intro a F
        with_reducible refine l_nil ?_
        with_reducible refine q_then ?_
        with_reducible refine c_seq ?_
        with_reducible refine c_seq ?_
        with_reducible refine c_region ?_
        refine stepD rfl F rfl (o_move (F.ev rfl) ?_); clear F; clear a; intro a F
        refine stepD rfl F rfl (o_not (F.ev rfl) ?_); clear F; clear a; intro a F
        refine stepD rfl F rfl (o_move (F.ev rfl) ?_); clear F; clear a; intro a F
        refine stepG rfl F rfl rfl rfl (o_move (F.ev rfl) ?_); clear F; clear a; intro a F
        refine stepG rfl F rfl rfl rfl (o_lssT (F.ev rfl) (F.ev rfl) (by omega) ?_); clear F; clear a; intro a F
        refine stepD rfl F rfl (o_pickT (F.ev rfl) (F.ev rfl) ?_); clear F; clear a; intro a F
        with_reducible refine l_nil ?_
        with_reducible refine q_then ?_
        refine c_true F rfl rfl ?_
        with_reducible refine c_region ?_
        refine stepD rfl F rfl (o_move (F.ev rfl) ?_); clear F; clear a; intro a F
        refine stepD rfl F rfl (o_loadA M (F.ev rfl) (by repeat (first | exact .here | apply Has.there)) (by first | assumption | rfl) ?_); clear F; clear a; intro a F
        (refine stepD rfl F rfl (o_buildSlice F M rfl rfl rfl (build_ip1 hip.len) ?_); clear F; clear M; intro b70 w M a F)
        (refine stepD rfl F rfl (o_append hO M (.cons (.cons (.cons .here))) (F.ev rfl) (F.ev rfl) (SrcOf.cells' (M.heap .here) (sg_all (by rw [ipC_len hip.len])) (one_ip _)) (by omega) (by omega) ?_); clear F; clear M; clear hO; intro u2 ent2 w hO M a F)
        replace M := M.sub (.cons _ (.refl _))
        refine stepD rfl F rfl (o_assign (F.ev rfl) ?_); clear F; clear a; intro a F
        with_reducible refine l_nil ?_
        with_reducible refine q_then ?_
        with_reducible refine c_seq ?_
        with_reducible refine c_region ?_
        refine stepD rfl F rfl (o_move (F.ev rfl) ?_); clear F; clear a; intro a F
        refine stepD rfl F rfl (o_move (F.ev rfl) ?_); clear F; clear a; intro a F
        refine stepG rfl F rfl rfl rfl (o_move (F.ev rfl) ?_); clear F; clear a; intro a F
        refine stepG rfl F rfl rfl rfl (o_leqT (F.ev rfl) (F.ev rfl) (by omega) ?_); clear F; clear a; intro a F
        refine stepD rfl F rfl (o_pickF (F.ev rfl) (F.ev rfl) ?_); clear F; clear a; intro a F
        refine stepD rfl F rfl (o_assign (F.ev rfl) ?_); clear F; clear a; intro a F
        with_reducible refine l_nil ?_
        with_reducible refine q_then ?_
        with_reducible refine c_region ?_
        refine stepD rfl F rfl (o_move (F.ev rfl) ?_); clear F; clear a; intro a F
        refine stepD rfl F rfl (o_loadA M (F.ev rfl) (by repeat (first | exact .here | apply Has.there)) (by first | assumption | rfl) ?_); clear F; clear a; intro a F
        (refine stepD rfl F rfl (o_buildSlice F M rfl rfl rfl (build_ip1 hx.len) ?_); clear F; clear M; intro b71 w M a F)
        (refine stepD rfl F rfl (o_append hO M (.cons (.cons (.cons .here))) (F.ev rfl) (F.ev rfl) (SrcOf.cells' (M.heap .here) (sg_all (by omega)) (one_ip _)) (by omega) (by omega) ?_); clear F; clear M; clear hO; intro u3 ent3 w hO M a F)
        refine stepD rfl F rfl (o_assign (F.ev rfl) ?_); clear F; clear a; intro a F
        with_reducible refine l_nil ?_
        with_reducible refine q_inB ?_
        with_reducible refine q_then ?_
        with_reducible refine c_region ?_
        refine stepD rfl F rfl (o_add (F.ev rfl) (F.ev rfl) (w_i64 (by omega) (by omega)) ?_); clear F; clear a; intro a F
        refine stepD rfl F rfl (o_move (F.ev rfl) ?_); clear F; clear a; intro a F
        with_reducible refine l_nil ?_
        with_reducible refine q_then ?_
        exact ⟨_, by omega, i + 1, true, out ++ [ip] ++ [x], u3, ent3, rfl, by omega, by simpa using hout, by simp; omega, by show OwnS _ 16 _ (out ++ [ip] ++ [x]).length (encL ipC (out ++ [ip] ++ [x])) _; rw [show (out ++ [ip] ++ [x]).length = out.length + 1 + 1 by simp, encL_app, encL_app, encL_one, encL_one]; exact hO, F.only [12, 11, 10, 6, 5, 3] rfl, (M.sub (.cons _ (.cons _ (.refl _))))⟩
      · simp only [insA, if_neg (show ¬ cmpL ip x < 0 by omega), if_pos hk, Bool.false_eq_true, if_false] at hout
        refine stepD rfl F rfl (o_assign (F.ev rfl) ?_); clear F; clear a; intro a F
        with_reducible refine l_nil ?_
        with_reducible refine q_then ?_
        with_reducible refine c_seq ?_
        with_reducible refine c_seq ?_
        with_reducible refine c_region ?_
        refine stepD rfl F rfl (o_move (F.ev rfl) ?_); clear F; clear a; intro a F
        refine stepD rfl F rfl (o_not (F.ev rfl) ?_); clear F; clear a; intro a F
        refine stepD rfl F rfl (o_move (F.ev rfl) ?_); clear F; clear a; intro a F
        refine stepG rfl F rfl rfl rfl (o_move (F.ev rfl) ?_); clear F; clear a; intro a F
        refine stepG rfl F rfl rfl rfl (o_lssF (F.ev rfl) (F.ev rfl) (by omega) ?_); clear F; clear a; intro a F
        refine stepD rfl F rfl (o_pickT (F.ev rfl) (F.ev rfl) ?_); clear F; clear a; intro a F
        with_reducible refine l_nil ?_
        with_reducible refine q_then ?_
        refine c_false F rfl rfl ?_
        with_reducible refine c_skip ?_
        with_reducible refine q_then ?_
        with_reducible refine c_seq ?_
        with_reducible refine c_region ?_
        refine stepD rfl F rfl (o_move (F.ev rfl) ?_); clear F; clear a; intro a F
        refine stepD rfl F rfl (o_move (F.ev rfl) ?_); clear F; clear a; intro a F
        refine stepG rfl F rfl rfl rfl (o_move (F.ev rfl) ?_); clear F; clear a; intro a F
        refine stepG rfl F rfl rfl rfl (o_leqT (F.ev rfl) (F.ev rfl) (by omega) ?_); clear F; clear a; intro a F
        refine stepD rfl F rfl (o_pickF (F.ev rfl) (F.ev rfl) ?_); clear F; clear a; intro a F
        refine stepD rfl F rfl (o_assign (F.ev rfl) ?_); clear F; clear a; intro a F
        with_reducible refine l_nil ?_
        with_reducible refine q_then ?_
        with_reducible refine c_region ?_
        refine stepD rfl F rfl (o_move (F.ev rfl) ?_); clear F; clear a; intro a F
        refine stepD rfl F rfl (o_loadA M (F.ev rfl) (by repeat (first | exact .here | apply Has.there)) (by first | assumption | rfl) ?_); clear F; clear a; intro a F
        (refine stepD rfl F rfl (o_buildSlice F M rfl rfl rfl (build_ip1 hx.len) ?_); clear F; clear M; intro b71 w M a F)
        (refine stepD rfl F rfl (o_append hO M (.cons (.cons (.cons .here))) (F.ev rfl) (F.ev rfl) (SrcOf.cells' (M.heap .here) (sg_all (by omega)) (one_ip _)) (by omega) (by omega) ?_); clear F; clear M; clear hO; intro u3 ent3 w hO M a F)
        refine stepD rfl F rfl (o_assign (F.ev rfl) ?_); clear F; clear a; intro a F
        with_reducible refine l_nil ?_
        with_reducible refine q_inB ?_
        with_reducible refine q_then ?_
        with_reducible refine c_region ?_
        refine stepD rfl F rfl (o_add (F.ev rfl) (F.ev rfl) (w_i64 (by omega) (by omega)) ?_); clear F; clear a; intro a F
        refine stepD rfl F rfl (o_move (F.ev rfl) ?_); clear F; clear a; intro a F
        with_reducible refine l_nil ?_
        with_reducible refine q_then ?_
        exact ⟨_, by omega, i + 1, true, out ++ [x], u3, ent3, rfl, by omega, by simpa using hout, by simp; omega, by show OwnS _ 16 _ (out ++ [x]).length (encL ipC (out ++ [x])) _; rw [show (out ++ [x]).length = out.length + 1 by simp, encL_app, encL_one]; exact hO, F.only [12, 11, 10, 6, 5, 3] rfl, (M.sub (.cons _ (.cons _ (.refl _))))⟩
      · simp only [insA, if_neg (show ¬ cmpL ip x < 0 by omega), if_neg (show ¬ cmpL ip x = 0 by omega), Bool.false_eq_true, if_false] at hout
        refine stepD rfl F rfl (o_assign (F.ev rfl) ?_); clear F; clear a; intro a F
        with_reducible refine l_nil ?_
        with_reducible refine q_then ?_
        with_reducible refine c_seq ?_
        with_reducible refine c_seq ?_
        with_reducible refine c_region ?_
        refine stepD rfl F rfl (o_move (F.ev rfl) ?_); clear F; clear a; intro a F
        refine stepD rfl F rfl (o_not (F.ev rfl) ?_); clear F; clear a; intro a F
        refine stepD rfl F rfl (o_move (F.ev rfl) ?_); clear F; clear a; intro a F
        refine stepG rfl F rfl rfl rfl (o_move (F.ev rfl) ?_); clear F; clear a; intro a F
        refine stepG rfl F rfl rfl rfl (o_lssF (F.ev rfl) (F.ev rfl) (by omega) ?_); clear F; clear a; intro a F
        refine stepD rfl F rfl (o_pickT (F.ev rfl) (F.ev rfl) ?_); clear F; clear a; intro a F
        with_reducible refine l_nil ?_
        with_reducible refine q_then ?_
        refine c_false F rfl rfl ?_
        with_reducible refine c_skip ?_
        with_reducible refine q_then ?_
        with_reducible refine c_seq ?_
        with_reducible refine c_region ?_
        refine stepD rfl F rfl (o_move (F.ev rfl) ?_); clear F; clear a; intro a F
        refine stepD rfl F rfl (o_move (F.ev rfl) ?_); clear F; clear a; intro a F
        refine stepG rfl F rfl rfl rfl (o_move (F.ev rfl) ?_); clear F; clear a; intro a F
        refine stepG rfl F rfl rfl rfl (o_leqF (F.ev rfl) (F.ev rfl) (by omega) ?_); clear F; clear a; intro a F
        refine stepD rfl F rfl (o_pickF (F.ev rfl) (F.ev rfl) ?_); clear F; clear a; intro a F
        refine stepD rfl F rfl (o_assign (F.ev rfl) ?_); clear F; clear a; intro a F
        with_reducible refine l_nil ?_
        with_reducible refine q_then ?_
        with_reducible refine c_region ?_
        refine stepD rfl F rfl (o_move (F.ev rfl) ?_); clear F; clear a; intro a F
        refine stepD rfl F rfl (o_loadA M (F.ev rfl) (by repeat (first | exact .here | apply Has.there)) (by first | assumption | rfl) ?_); clear F; clear a; intro a F
        (refine stepD rfl F rfl (o_buildSlice F M rfl rfl rfl (build_ip1 hx.len) ?_); clear F; clear M; intro b71 w M a F)
        (refine stepD rfl F rfl (o_append hO M (.cons (.cons (.cons .here))) (F.ev rfl) (F.ev rfl) (SrcOf.cells' (M.heap .here) (sg_all (by omega)) (one_ip _)) (by omega) (by omega) ?_); clear F; clear M; clear hO; intro u3 ent3 w hO M a F)
        refine stepD rfl F rfl (o_assign (F.ev rfl) ?_); clear F; clear a; intro a F
        with_reducible refine l_nil ?_
        with_reducible refine q_inB ?_
        with_reducible refine q_then ?_
        with_reducible refine c_region ?_
        refine stepD rfl F rfl (o_add (F.ev rfl) (F.ev rfl) (w_i64 (by omega) (by omega)) ?_); clear F; clear a; intro a F
        refine stepD rfl F rfl (o_move (F.ev rfl) ?_); clear F; clear a; intro a F
        with_reducible refine l_nil ?_
        with_reducible refine q_then ?_
        exact ⟨_, by omega, i + 1, false, out ++ [x], u3, ent3, rfl, by omega, by simpa using hout, by simp; omega, by show OwnS _ 16 _ (out ++ [x]).length (encL ipC (out ++ [x])) _; rw [show (out ++ [x]).length = out.length + 1 by simp, encL_app, encL_one]; exact hO, F.only [12, 11, 10, 6, 5, 3] rfl, (M.sub (.cons _ (.cons _ (.refl _))))⟩
    · simp only [if_true] at hout
      refine stepD rfl F rfl (o_assign (F.ev rfl) ?_); clear F; clear a; intro a F
      with_reducible refine l_nil ?_
      with_reducible refine q_then ?_
      with_reducible refine c_seq ?_
      with_reducible refine c_seq ?_
      with_reducible refine c_region ?_
      refine stepD rfl F rfl (o_move (F.ev rfl) ?_); clear F; clear a; intro a F
      refine stepD rfl F rfl (o_not (F.ev rfl) ?_); clear F; clear a; intro a F
      refine stepD rfl F rfl (o_move (F.ev rfl) ?_); clear F; clear a; intro a F
      refine stepOff F rfl rfl rfl rfl ?_; clear F; clear a; intro a F
      refine stepOff F rfl rfl rfl rfl ?_; clear F; clear a; intro a F
      refine stepD rfl F rfl (o_pickF (F.ev rfl) (F.ev rfl) ?_); clear F; clear a; intro a F
      with_reducible refine l_nil ?_
      with_reducible refine q_then ?_
      refine c_false F rfl rfl ?_
      with_reducible refine c_skip ?_
      with_reducible refine q_then ?_
      with_reducible refine c_seq ?_
      with_reducible refine c_region ?_
      refine stepD rfl F rfl (o_move (F.ev rfl) ?_); clear F; clear a; intro a F
      refine stepD rfl F rfl (o_move (F.ev rfl) ?_); clear F; clear a; intro a F
      refine stepOff F rfl rfl rfl rfl ?_; clear F; clear a; intro a F
      refine stepOff F rfl rfl rfl rfl ?_; clear F; clear a; intro a F
      refine stepD rfl F rfl (o_pickT (F.ev rfl) (F.ev rfl) ?_); clear F; clear a; intro a F
      refine stepD rfl F rfl (o_assign (F.ev rfl) ?_); clear F; clear a; intro a F
      with_reducible refine l_nil ?_
      with_reducible refine q_then ?_
      with_reducible refine c_region ?_
      refine stepD rfl F rfl (o_move (F.ev rfl) ?_); clear F; clear a; intro a F
      refine stepD rfl F rfl (o_loadA M (F.ev rfl) (by repeat (first | exact .here | apply Has.there)) (by first | assumption | rfl) ?_); clear F; clear a; intro a F
      (refine stepD rfl F rfl (o_buildSlice F M rfl rfl rfl (build_ip1 hx.len) ?_); clear F; clear M; intro b71 w M a F)
      (refine stepD rfl F rfl (o_append hO M (.cons (.cons (.cons .here))) (F.ev rfl) (F.ev rfl) (SrcOf.cells' (M.heap .here) (sg_all (by omega)) (one_ip _)) (by omega) (by omega) ?_); clear F; clear M; clear hO; intro u3 ent3 w hO M a F)
      refine stepD rfl F rfl (o_assign (F.ev rfl) ?_); clear F; clear a; intro a F
      with_reducible refine l_nil ?_
      with_reducible refine q_inB ?_
      with_reducible refine q_then ?_
      with_reducible refine c_region ?_
      refine stepD rfl F rfl (o_add (F.ev rfl) (F.ev rfl) (w_i64 (by omega) (by omega)) ?_); clear F; clear a; intro a F
      refine stepD rfl F rfl (o_move (F.ev rfl) ?_); clear F; clear a; intro a F
      with_reducible refine l_nil ?_
      with_reducible refine q_then ?_
      exact ⟨_, by omega, i + 1, true, out ++ [x], u3, ent3, rfl, by omega, by simpa using hout, by simp; omega, by show OwnS _ 16 _ (out ++ [x]).length (encL ipC (out ++ [x])) _; rw [show (out ++ [x]).length = out.length + 1 by simp, encL_app, encL_one]; exact hO, F.only [12, 11, 10, 6, 5, 3] rfl, (M.sub (.cons _ (.cons _ (.refl _))))⟩
  · obtain rfl : i = ls.length := by omega
    have hr : ∀ {L : List (List Int)} {v : Value} {ent : List (Nat × Obj)}, L = insA ip ls → OwnS 26 16 v L.length (ipsC L) ent → OwnS 26 16 v (insA ip ls).length (ipsC (insA ip ls)) ent := fun h hO => by rw [← h]; exact hO
    cases done
    · simp only [List.drop_length, insA, Bool.false_eq_true, if_false] at hout
      have hol2 : out.length ≤ ls.length := by simpa using hol
      with_reducible refine c_seq ?_
      with_reducible refine c_region ?_
      refine stepD rfl F rfl (o_lssF (F.ev rfl) (F.ev rfl) (by omega) ?_); clear F; clear a; intro a F
      with_reducible refine l_nil ?_
      with_reducible refine q_then ?_
      with_reducible refine c_seq ?_
      refine c_false F rfl rfl ?_
      with_reducible refine c_exit ?_
      with_reducible refine q_thenX ?_
      with_reducible refine q_thenX ?_
      with_reducible refine q_inBX ?_
      with_reducible refine q_then ?_
      with_reducible refine c_seq ?_
      with_reducible refine c_seq ?_
      with_reducible refine c_region ?_
      refine stepD rfl F rfl (o_move (F.ev rfl) ?_); clear F; clear a; intro a F
      refine stepD rfl F rfl (o_not (F.ev rfl) ?_); clear F; clear a; intro a F
      with_reducible refine l_nil ?_
      with_reducible refine q_then ?_
      refine c_true F rfl rfl ?_
      with_reducible refine c_region ?_
      refine stepD rfl F rfl (o_move (F.ev rfl) ?_); clear F; clear a; intro a F
      refine stepD rfl F rfl (o_loadA M (F.ev rfl) (by repeat (first | exact .here | apply Has.there)) (by first | assumption | rfl) ?_); clear F; clear a; intro a F
      (refine stepD rfl F rfl (o_buildSlice F M rfl rfl rfl (build_ip1 hip.len) ?_); clear F; clear M; intro b70 w M a F)
      (refine stepD rfl F rfl (o_append hO M (.cons (.cons .here)) (F.ev rfl) (F.ev rfl) (SrcOf.cells' (M.heap .here) (sg_all (by rw [ipC_len hip.len])) (one_ip _)) (by omega) (by omega) ?_); clear F; clear M; clear hO; intro u3 ent3 w hO M a F)
      refine stepD rfl F rfl (o_assign (F.ev rfl) ?_); clear F; clear a; intro a F
      with_reducible refine l_nil ?_
      with_reducible refine q_then ?_
      with_reducible refine c_seq ?_
      with_reducible refine c_region ?_
      refine stepD rfl F rfl (o_move (F.ev rfl) ?_); clear F; clear a; intro a F
      refine stepD rfl F rfl (o_assign (F.ev rfl) ?_); clear F; clear a; intro a F
      with_reducible refine l_nil ?_
      with_reducible refine q_then ?_
      with_reducible refine c_ret ?_
      refine p_ret F rfl (.cons (.tmp (F.ev rfl)) .nil) ?_
      refine ⟨ent3, hr hout (by show OwnS _ 16 _ (out ++ [ip]).length (encL ipC (out ++ [ip])) _; rw [show (out ++ [ip]).length = out.length + 1 by simp, encL_app, encL_one]; exact hO), (M.sub (.cons _ (.cons _ (.refl _))))⟩
    · simp only [List.drop_length, List.append_nil, if_true] at hout
      with_reducible refine c_seq ?_
      with_reducible refine c_region ?_
      refine stepD rfl F rfl (o_lssF (F.ev rfl) (F.ev rfl) (by omega) ?_); clear F; clear a; intro a F
      with_reducible refine l_nil ?_
      with_reducible refine q_then ?_
      with_reducible refine c_seq ?_
      refine c_false F rfl rfl ?_
      with_reducible refine c_exit ?_
      with_reducible refine q_thenX ?_
      with_reducible refine q_thenX ?_
      with_reducible refine q_inBX ?_
      with_reducible refine q_then ?_
      with_reducible refine c_seq ?_
      with_reducible refine c_seq ?_
      with_reducible refine c_region ?_
      refine stepD rfl F rfl (o_move (F.ev rfl) ?_); clear F; clear a; intro a F
      refine stepD rfl F rfl (o_not (F.ev rfl) ?_); clear F; clear a; intro a F
      with_reducible refine l_nil ?_
      with_reducible refine q_then ?_
      refine c_false F rfl rfl ?_
      with_reducible refine c_skip ?_
      with_reducible refine q_then ?_
      with_reducible refine c_seq ?_
      with_reducible refine c_region ?_
      refine stepD rfl F rfl (o_move (F.ev rfl) ?_); clear F; clear a; intro a F
      refine stepD rfl F rfl (o_assign (F.ev rfl) ?_); clear F; clear a; intro a F
      with_reducible refine l_nil ?_
      with_reducible refine q_then ?_
      with_reducible refine c_ret ?_
      refine p_ret F rfl (.cons (.tmp (F.ev rfl)) .nil) ?_
      exact ⟨ent, hr hout hO, M.sub (.cons _ (.refl _))⟩
end Go.Proofs.Ytainnefmobfcjaa
/-! K4 -/
namespace Go.Proofs.Ytainnefmobfcjaa
set_option linter.unusedVariables false
set_option linter.unusedSimpArgs false
open Go.RowKit
attribute [local irreducible] OpTo wpListIn Code.wpIn MW Cal
def iidE (eui : Int) : Int := bitsOf .xor .u64 eui 144115188075855872
theorem xor64_bd (m n : Int) : 0 ≤ bitsOf .xor .u64 m n := by
  simp only [bitsOf, IntKind.wrap, IntKind.signed, IntKind.bits]
  simp
  omega
theorem iidA_3 (eui : Int) : iidA 3 0 eui = some (iidE eui) := by simp [iidA, validA, iidE]
def addrsV (os : List Off) (now eui : Int) : List (List Int) := if validL os && isTime now && !(eui == 0) then insAll (rawL (iidE eui) (curO os now)) else []
theorem addrs_f {os : List Off} {now eui : Int} (h : (validL os && isTime now && !(eui == 0)) = false) : addrsV os now eui = [] := by unfold addrsV; rw [h]; rfl
theorem addrs_t {os : List Off} {now eui : Int} (h : (validL os && isTime now && !(eui == 0)) = true) : addrsV os now eui = insAll (rawL (iidE eui) (curO os now)) := by unfold addrsV; rw [h]; rfl
theorem addr1_is {iid : Int} (h0 : 0 ≤ iid) {p : PInf} (hp : IsPi p) {r : List Int} (h : addr1 iid p = some r) : IsIP r := by
  unfold addr1 at h
  split at h
  · unfold joinP at h
    split at h
    · cases h; exact joinI_isIP hp h0
    · cases h
  · cases h
theorem rawL_is {iid : Int} (h0 : 0 ≤ iid) {os : List Off} (ho : ∀ o ∈ os, IsOff o) : ∀ a ∈ rawL iid os, IsIP a := by
  intro a ha
  obtain ⟨o, h1, h2⟩ := List.mem_flatMap.1 ha
  obtain ⟨p, h3, h4⟩ := List.mem_filterMap.1 h2
  exact addr1_is h0 ((ho o h1).2.1 p h3) h4
theorem rawL_len2 {iid now : Int} {os : List Off} (hv : validL os = true) : (rawL iid (curO os now)).length ≤ 128 := by
  have h1 := rawL_len iid (curO os now) fun o ho => (validO_len (validL_each hv (List.mem_filter.1 ho).1)).1
  have h2 : (curO os now).length ≤ os.length := List.length_filter_le _ _
  have h3 := validL_len hv
  omega
set_option maxHeartbeats 4000000 in
theorem baddr_c (xs : List OV) (hx : ∀ x ∈ xs, IsOff x.o) (v : Value) (now : Int) (eui : Int) (he : 0 ≤ eui) (W : World) (hS : SlAt W 20 v xs.length (encL ovC xs)) (hA : ∀ x ∈ xs, OffAt W x) :
    Cal Try.prog 59 [v, .int .i64 now, .int .u64 eui].toArray W fun r w' => SlAt w' 16 r (addrsV (xs.map (·.o)) now eui).length (ipsC (addrsV (xs.map (·.o)) now eui)) ∧ Ext [] W w' := by
  have hos : ∀ o ∈ xs.map (·.o), IsOff o := fun o ho => by
    obtain ⟨x, h1, rfl⟩ := List.mem_map.1 ho
    exact hx x h1
  cases hv : validL (xs.map (·.o))
  · rw [addrs_f (by rw [hv]; rfl)]
    refine fn_ofM (n := 77) [] Try.func59 rfl rfl rfl ?_
    intro a w F M hwW
    with_reducible refine c_seq ?_
    with_reducible refine c_region ?_
    refine stepD rfl F rfl (o_assign (F.ev rfl) ?_); clear F; clear a; intro a F
    with_reducible refine l_nil ?_
    with_reducible refine q_then ?_
    with_reducible refine c_seq ?_
    with_reducible refine c_seq ?_
    with_reducible refine c_region ?_
    refine stepD rfl F rfl (o_move (F.ev rfl) ?_); clear F; clear a; intro a F
    (refine stepD rfl F rfl (o_call (F.ev rfl) (F.evs rfl) (Cal.mono (validL_c xs hx _ _ (hS.later M.ext) (fun z hz => (hA z hz).later M.ext)) ?_)); clear F; clear a; rintro _ w ⟨rfl, hE⟩ a F; replace M := M.later hE; clear hE)
    rw [hv] at F
    refine stepD rfl F rfl (o_not (F.ev rfl) ?_); clear F; clear a; intro a F
    refine stepD rfl F rfl (o_move (F.ev rfl) ?_); clear F; clear a; intro a F
    refine stepOff F rfl rfl rfl rfl ?_; clear F; clear a; intro a F
    refine stepOff F rfl rfl rfl rfl ?_; clear F; clear a; intro a F
    refine stepOff F rfl rfl rfl rfl ?_; clear F; clear a; intro a F
    refine stepD rfl F rfl (o_pickT (F.ev rfl) (F.ev rfl) ?_); clear F; clear a; intro a F
    refine stepD rfl F rfl (o_move (F.ev rfl) ?_); clear F; clear a; intro a F
    refine stepOff F rfl rfl rfl rfl ?_; clear F; clear a; intro a F
    refine stepOff F rfl rfl rfl rfl ?_; clear F; clear a; intro a F
    refine stepD rfl F rfl (o_pickT (F.ev rfl) (F.ev rfl) ?_); clear F; clear a; intro a F
    with_reducible refine l_nil ?_
    with_reducible refine q_then ?_
    refine c_true F rfl rfl ?_
    with_reducible refine c_seq ?_
    with_reducible refine c_region ?_
    refine stepD rfl F rfl (o_assign (F.ev rfl) ?_); clear F; clear a; intro a F
    with_reducible refine l_nil ?_
    with_reducible refine q_then ?_
    with_reducible refine c_ret ?_
    with_reducible refine q_thenR ?_
    refine p_ret F rfl (.cons (.tmp (F.ev rfl)) .nil) ?_
    exact ⟨SlAt.nil _ _, M.ext⟩
  cases htm : isTime now
  · rw [addrs_f (by rw [hv, htm]; rfl)]
    refine fn_ofM (n := 77) [] Try.func59 rfl rfl rfl ?_
    intro a w F M hwW
    with_reducible refine c_seq ?_
    with_reducible refine c_region ?_
    refine stepD rfl F rfl (o_assign (F.ev rfl) ?_); clear F; clear a; intro a F
    with_reducible refine l_nil ?_
    with_reducible refine q_then ?_
    with_reducible refine c_seq ?_
    with_reducible refine c_seq ?_
    with_reducible refine c_region ?_
    refine stepD rfl F rfl (o_move (F.ev rfl) ?_); clear F; clear a; intro a F
    (refine stepD rfl F rfl (o_call (F.ev rfl) (F.evs rfl) (Cal.mono (validL_c xs hx _ _ (hS.later M.ext) (fun z hz => (hA z hz).later M.ext)) ?_)); clear F; clear a; rintro _ w ⟨rfl, hE⟩ a F; replace M := M.later hE; clear hE)
    rw [hv] at F
    refine stepD rfl F rfl (o_not (F.ev rfl) ?_); clear F; clear a; intro a F
    refine stepD rfl F rfl (o_move (F.ev rfl) ?_); clear F; clear a; intro a F
    refine stepG rfl F rfl rfl rfl (o_move (F.ev rfl) ?_); clear F; clear a; intro a F
    (refine stepG rfl F rfl rfl rfl (o_call (F.ev rfl) (F.evs rfl) (Cal.mono (isTime_c now _) ?_)); clear F; clear a; rintro _ w ⟨rfl, hE⟩ a F; replace M := M.later hE; clear hE)
    rw [htm] at F
    refine stepG rfl F rfl rfl rfl (o_not (F.ev rfl) ?_); clear F; clear a; intro a F
    refine stepD rfl F rfl (o_pickF (F.ev rfl) (F.ev rfl) ?_); clear F; clear a; intro a F
    refine stepD rfl F rfl (o_move (F.ev rfl) ?_); clear F; clear a; intro a F
    refine stepOff F rfl rfl rfl rfl ?_; clear F; clear a; intro a F
    refine stepOff F rfl rfl rfl rfl ?_; clear F; clear a; intro a F
    refine stepD rfl F rfl (o_pickT (F.ev rfl) (F.ev rfl) ?_); clear F; clear a; intro a F
    with_reducible refine l_nil ?_
    with_reducible refine q_then ?_
    refine c_true F rfl rfl ?_
    with_reducible refine c_seq ?_
    with_reducible refine c_region ?_
    refine stepD rfl F rfl (o_assign (F.ev rfl) ?_); clear F; clear a; intro a F
    with_reducible refine l_nil ?_
    with_reducible refine q_then ?_
    with_reducible refine c_ret ?_
    with_reducible refine q_thenR ?_
    refine p_ret F rfl (.cons (.tmp (F.ev rfl)) .nil) ?_
    exact ⟨SlAt.nil _ _, M.ext⟩
  by_cases he0 : eui = 0
  · subst he0
    rw [addrs_f (by rw [hv, htm]; rfl)]
    refine fn_ofM (n := 77) [] Try.func59 rfl rfl rfl ?_
    intro a w F M hwW
    with_reducible refine c_seq ?_
    with_reducible refine c_region ?_
    refine stepD rfl F rfl (o_assign (F.ev rfl) ?_); clear F; clear a; intro a F
    with_reducible refine l_nil ?_
    with_reducible refine q_then ?_
    with_reducible refine c_seq ?_
    with_reducible refine c_seq ?_
    with_reducible refine c_region ?_
    refine stepD rfl F rfl (o_move (F.ev rfl) ?_); clear F; clear a; intro a F
    (refine stepD rfl F rfl (o_call (F.ev rfl) (F.evs rfl) (Cal.mono (validL_c xs hx _ _ (hS.later M.ext) (fun z hz => (hA z hz).later M.ext)) ?_)); clear F; clear a; rintro _ w ⟨rfl, hE⟩ a F; replace M := M.later hE; clear hE)
    rw [hv] at F
    refine stepD rfl F rfl (o_not (F.ev rfl) ?_); clear F; clear a; intro a F
    refine stepD rfl F rfl (o_move (F.ev rfl) ?_); clear F; clear a; intro a F
    refine stepG rfl F rfl rfl rfl (o_move (F.ev rfl) ?_); clear F; clear a; intro a F
    (refine stepG rfl F rfl rfl rfl (o_call (F.ev rfl) (F.evs rfl) (Cal.mono (isTime_c now _) ?_)); clear F; clear a; rintro _ w ⟨rfl, hE⟩ a F; replace M := M.later hE; clear hE)
    rw [htm] at F
    refine stepG rfl F rfl rfl rfl (o_not (F.ev rfl) ?_); clear F; clear a; intro a F
    refine stepD rfl F rfl (o_pickF (F.ev rfl) (F.ev rfl) ?_); clear F; clear a; intro a F
    refine stepD rfl F rfl (o_move (F.ev rfl) ?_); clear F; clear a; intro a F
    refine stepG rfl F rfl rfl rfl (o_move (F.ev rfl) ?_); clear F; clear a; intro a F
    refine stepG rfl F rfl rfl rfl (o_eqlT (F.ev rfl) (F.ev rfl) (by omega) ?_); clear F; clear a; intro a F
    refine stepD rfl F rfl (o_pickF (F.ev rfl) (F.ev rfl) ?_); clear F; clear a; intro a F
    with_reducible refine l_nil ?_
    with_reducible refine q_then ?_
    refine c_true F rfl rfl ?_
    with_reducible refine c_seq ?_
    with_reducible refine c_region ?_
    refine stepD rfl F rfl (o_assign (F.ev rfl) ?_); clear F; clear a; intro a F
    with_reducible refine l_nil ?_
    with_reducible refine q_then ?_
    with_reducible refine c_ret ?_
    with_reducible refine q_thenR ?_
    refine p_ret F rfl (.cons (.tmp (F.ev rfl)) .nil) ?_
    exact ⟨SlAt.nil _ _, M.ext⟩
  rw [addrs_t (by rw [hv, htm]; simpa using he0)]
  have hl := rawL_len2 (iid := iidE eui) (now := now) hv
  have hri := rawL_is (iid := iidE eui) (xor64_bd _ _) (os := curO (xs.map (·.o)) now) fun o ho => hos o (List.mem_filter.1 ho).1
  refine Cal.mono (addresses_c xs hx v now eui he (iidE eui) (xor64_bd _ _) (iidA_3 eui) W hS hA hv htm he0 sort_ok compact_ok (by omega) (fun ls' h => ⟨fun a ha => hri a (h.1.mem_iff.1 ha), by have := h.1.length_eq; omega⟩)) ?_
  rintro r w' ⟨ls1, ls2, ⟨h1, h2⟩, rfl, h3, h4⟩
  rw [ded_ins h1 h2] at h3
  exact ⟨h3, h4⟩
end Go.Proofs.Ytainnefmobfcjaa
/-! K5 -/
namespace Go.Proofs.Ytainnefmobfcjaa
set_option linter.unusedVariables false
set_option linter.unusedSimpArgs false
open Go.RowKit
attribute [local irreducible] OpTo wpListIn Code.wpIn MW Cal
theorem insAll_snoc (raw : List (List Int)) (r : List Int) : insAll (raw ++ [r]) = insA r (insAll raw) := by simp [insAll, List.foldl_append]
theorem insAll_len (raw : List (List Int)) : (insAll raw).length ≤ raw.length := by
  have key : ∀ (raw acc : List (List Int)), (raw.foldl (fun acc ip => insA ip acc) acc).length ≤ raw.length + acc.length := by
    intro raw
    induction raw with
    | nil => intro acc; simp
    | cons r rs ih =>
      intro acc
      have h1 := ih (insA r acc)
      have h2 := insA_len r acc
      simp only [List.foldl_cons, List.length_cons]
      omega
  have := key raw []
  rw [List.length_nil, Nat.add_zero] at this
  exact this
theorem insAll_is {raw : List (List Int)} (h : ∀ a ∈ raw, IsIP a) : ∀ a ∈ insAll raw, IsIP a := fun a ha => h a (((insAll_spec raw).2 a).1 ha)
/-- what the j first prefixes of an offer give -/
def partA (iid now : Int) (o : Off) (j : Nat) : List (List Int) := if now < o.h.til then (o.ps.take j).filterMap (addr1 iid) else []
theorem partA_all (iid now : Int) (o : Off) : partA iid now o o.ps.length = rawL iid (curO [o] now) := by
  unfold partA curO
  rw [List.take_length]
  by_cases h : now < o.h.til
  · simp [h, rawL, rawA]
  · simp [h, rawL]
theorem curO_app (a b : List Off) (now : Int) : curO (a ++ b) now = curO a now ++ curO b now := by simp [curO]
theorem rawL_app (iid : Int) (a b : List Off) : rawL iid (a ++ b) = rawL iid a ++ rawL iid b := by simp [rawL]
theorem partA_step {iid now : Int} {o : Off} {j : Nat} (hj : j < o.ps.length) : partA iid now o (j + 1) = partA iid now o j ++ (if now < o.h.til then (addr1 iid o.ps[j]).toList else []) := by
  unfold partA
  split
  · rw [rawA_take hj]
  · rfl
theorem partA_len (iid now : Int) (o : Off) (j : Nat) : (partA iid now o j).length ≤ j := by
  unfold partA
  split
  · have h1 := List.length_filterMap_le (addr1 iid) (o.ps.take j)
    rw [List.length_take] at h1
    omega
  · simp
theorem valid_pi {o : Off} (h : validO o = true) {p : PInf} (hp : p ∈ o.ps) : validP p.ip p.bits = true := by
  unfold validO at h
  simp only [Bool.and_eq_true] at h
  exact List.all_eq_true.1 h.1.2 p hp
set_option maxHeartbeats 8000000 in
theorem raddr_c (xs : List OV) (hx : ∀ x ∈ xs, IsOff x.o) (v : Value) (now : Int) (eui : Int) (W : World) (hS : SlAt W 20 v xs.length (encL ovC xs)) (hA : ∀ x ∈ xs, OffAt W x) :
    Cal Try.prog 71 [v, .int .i64 now, .int .u64 eui].toArray W fun r w' => SlAt w' 16 r (addrsV (xs.map (·.o)) now eui).length (ipsC (addrsV (xs.map (·.o)) now eui)) ∧ Ext [] W w' := by
  have hos : ∀ o ∈ xs.map (·.o), IsOff o := fun o ho => by
    obtain ⟨x, h1, rfl⟩ := List.mem_map.1 ho
    exact hx x h1
  cases hv : validL (xs.map (·.o))
  · rw [addrs_f (by rw [hv]; rfl)]
    refine fn_ofM (n := 80) [] Try.func71 rfl rfl rfl ?_
    intro a w F M hwW
    with_reducible refine c_seq ?_
    with_reducible refine c_region ?_
    refine stepD rfl F rfl (o_assign (F.ev rfl) ?_); clear F; clear a; intro a F
    with_reducible refine l_nil ?_
    with_reducible refine q_then ?_
    with_reducible refine c_seq ?_
    with_reducible refine c_seq ?_
    with_reducible refine c_region ?_
    refine stepD rfl F rfl (o_move (F.ev rfl) ?_); clear F; clear a; intro a F
    (refine stepD rfl F rfl (o_call (F.ev rfl) (F.evs rfl) (Cal.mono (rvalidL_c xs hx _ _ (hS.later M.ext) (fun z hz => (hA z hz).later M.ext)) ?_)); clear F; clear a; rintro _ w ⟨rfl, hE⟩ a F; replace M := M.later hE; clear hE)
    rw [hv] at F
    refine stepD rfl F rfl (o_not (F.ev rfl) ?_); clear F; clear a; intro a F
    refine stepD rfl F rfl (o_move (F.ev rfl) ?_); clear F; clear a; intro a F
    refine stepOff F rfl rfl rfl rfl ?_; clear F; clear a; intro a F
    refine stepOff F rfl rfl rfl rfl ?_; clear F; clear a; intro a F
    refine stepOff F rfl rfl rfl rfl ?_; clear F; clear a; intro a F
    refine stepD rfl F rfl (o_pickT (F.ev rfl) (F.ev rfl) ?_); clear F; clear a; intro a F
    refine stepD rfl F rfl (o_move (F.ev rfl) ?_); clear F; clear a; intro a F
    refine stepOff F rfl rfl rfl rfl ?_; clear F; clear a; intro a F
    refine stepOff F rfl rfl rfl rfl ?_; clear F; clear a; intro a F
    refine stepD rfl F rfl (o_pickT (F.ev rfl) (F.ev rfl) ?_); clear F; clear a; intro a F
    with_reducible refine l_nil ?_
    with_reducible refine q_then ?_
    refine c_true F rfl rfl ?_
    with_reducible refine c_seq ?_
    with_reducible refine c_region ?_
    refine stepD rfl F rfl (o_assign (F.ev rfl) ?_); clear F; clear a; intro a F
    with_reducible refine l_nil ?_
    with_reducible refine q_then ?_
    with_reducible refine c_ret ?_
    with_reducible refine q_thenR ?_
    refine p_ret F rfl (.cons (.tmp (F.ev rfl)) .nil) ?_
    exact ⟨SlAt.nil _ _, M.ext⟩
  cases htm : isTime now
  · rw [addrs_f (by rw [hv, htm]; rfl)]
    refine fn_ofM (n := 80) [] Try.func71 rfl rfl rfl ?_
    intro a w F M hwW
    with_reducible refine c_seq ?_
    with_reducible refine c_region ?_
    refine stepD rfl F rfl (o_assign (F.ev rfl) ?_); clear F; clear a; intro a F
    with_reducible refine l_nil ?_
    with_reducible refine q_then ?_
    with_reducible refine c_seq ?_
    with_reducible refine c_seq ?_
    with_reducible refine c_region ?_
    refine stepD rfl F rfl (o_move (F.ev rfl) ?_); clear F; clear a; intro a F
    (refine stepD rfl F rfl (o_call (F.ev rfl) (F.evs rfl) (Cal.mono (rvalidL_c xs hx _ _ (hS.later M.ext) (fun z hz => (hA z hz).later M.ext)) ?_)); clear F; clear a; rintro _ w ⟨rfl, hE⟩ a F; replace M := M.later hE; clear hE)
    rw [hv] at F
    refine stepD rfl F rfl (o_not (F.ev rfl) ?_); clear F; clear a; intro a F
    refine stepD rfl F rfl (o_move (F.ev rfl) ?_); clear F; clear a; intro a F
    refine stepG rfl F rfl rfl rfl (o_move (F.ev rfl) ?_); clear F; clear a; intro a F
    (refine stepG rfl F rfl rfl rfl (o_call (F.ev rfl) (F.evs rfl) (Cal.mono (risTime_c now _) ?_)); clear F; clear a; rintro _ w ⟨rfl, hE⟩ a F; replace M := M.later hE; clear hE)
    rw [htm] at F
    refine stepG rfl F rfl rfl rfl (o_not (F.ev rfl) ?_); clear F; clear a; intro a F
    refine stepD rfl F rfl (o_pickF (F.ev rfl) (F.ev rfl) ?_); clear F; clear a; intro a F
    refine stepD rfl F rfl (o_move (F.ev rfl) ?_); clear F; clear a; intro a F
    refine stepOff F rfl rfl rfl rfl ?_; clear F; clear a; intro a F
    refine stepOff F rfl rfl rfl rfl ?_; clear F; clear a; intro a F
    refine stepD rfl F rfl (o_pickT (F.ev rfl) (F.ev rfl) ?_); clear F; clear a; intro a F
    with_reducible refine l_nil ?_
    with_reducible refine q_then ?_
    refine c_true F rfl rfl ?_
    with_reducible refine c_seq ?_
    with_reducible refine c_region ?_
    refine stepD rfl F rfl (o_assign (F.ev rfl) ?_); clear F; clear a; intro a F
    with_reducible refine l_nil ?_
    with_reducible refine q_then ?_
    with_reducible refine c_ret ?_
    with_reducible refine q_thenR ?_
    refine p_ret F rfl (.cons (.tmp (F.ev rfl)) .nil) ?_
    exact ⟨SlAt.nil _ _, M.ext⟩
  by_cases he0 : eui = 0
  · subst he0
    rw [addrs_f (by rw [hv, htm]; rfl)]
    refine fn_ofM (n := 80) [] Try.func71 rfl rfl rfl ?_
    intro a w F M hwW
    with_reducible refine c_seq ?_
    with_reducible refine c_region ?_
    refine stepD rfl F rfl (o_assign (F.ev rfl) ?_); clear F; clear a; intro a F
    with_reducible refine l_nil ?_
    with_reducible refine q_then ?_
    with_reducible refine c_seq ?_
    with_reducible refine c_seq ?_
    with_reducible refine c_region ?_
    refine stepD rfl F rfl (o_move (F.ev rfl) ?_); clear F; clear a; intro a F
    (refine stepD rfl F rfl (o_call (F.ev rfl) (F.evs rfl) (Cal.mono (rvalidL_c xs hx _ _ (hS.later M.ext) (fun z hz => (hA z hz).later M.ext)) ?_)); clear F; clear a; rintro _ w ⟨rfl, hE⟩ a F; replace M := M.later hE; clear hE)
    rw [hv] at F
    refine stepD rfl F rfl (o_not (F.ev rfl) ?_); clear F; clear a; intro a F
    refine stepD rfl F rfl (o_move (F.ev rfl) ?_); clear F; clear a; intro a F
    refine stepG rfl F rfl rfl rfl (o_move (F.ev rfl) ?_); clear F; clear a; intro a F
    (refine stepG rfl F rfl rfl rfl (o_call (F.ev rfl) (F.evs rfl) (Cal.mono (risTime_c now _) ?_)); clear F; clear a; rintro _ w ⟨rfl, hE⟩ a F; replace M := M.later hE; clear hE)
    rw [htm] at F
    refine stepG rfl F rfl rfl rfl (o_not (F.ev rfl) ?_); clear F; clear a; intro a F
    refine stepD rfl F rfl (o_pickF (F.ev rfl) (F.ev rfl) ?_); clear F; clear a; intro a F
    refine stepD rfl F rfl (o_move (F.ev rfl) ?_); clear F; clear a; intro a F
    refine stepG rfl F rfl rfl rfl (o_move (F.ev rfl) ?_); clear F; clear a; intro a F
    refine stepG rfl F rfl rfl rfl (o_eqlT (F.ev rfl) (F.ev rfl) (by omega) ?_); clear F; clear a; intro a F
    refine stepD rfl F rfl (o_pickF (F.ev rfl) (F.ev rfl) ?_); clear F; clear a; intro a F
    with_reducible refine l_nil ?_
    with_reducible refine q_then ?_
    refine c_true F rfl rfl ?_
    with_reducible refine c_seq ?_
    with_reducible refine c_region ?_
    refine stepD rfl F rfl (o_assign (F.ev rfl) ?_); clear F; clear a; intro a F
    with_reducible refine l_nil ?_
    with_reducible refine q_then ?_
    with_reducible refine c_ret ?_
    with_reducible refine q_thenR ?_
    refine p_ret F rfl (.cons (.tmp (F.ev rfl)) .nil) ?_
    exact ⟨SlAt.nil _ _, M.ext⟩
  rw [addrs_t (by rw [hv, htm]; simpa using he0)]
  have hl := rawL_len2 (iid := iidE eui) (now := now) hv
  have h0 : 0 ≤ iidE eui := xor64_bd _ _
  have hopt : optU (iidA 3 0 eui) = .tuple #[.int .u64 (iidE eui), .bool true] := by rw [iidA_3]; rfl
  have hlen := validL_len hv
  rw [List.length_map] at hlen
  have hle : ∀ x ∈ xs, (ovC x).length = 20 := fun x h => ov_len (hx x h)
  obtain ⟨q, cap, rfl, hcap, _, hsl, hm⟩ := id hS
  refine fn_ofM (n := 80) [] Try.func71 rfl rfl rfl ?_
  intro a w F M hwW
  with_reducible refine c_seq ?_
  with_reducible refine c_region ?_
  refine stepD rfl F rfl (o_assign (F.ev rfl) ?_); clear F; clear a; intro a F
  with_reducible refine l_nil ?_
  with_reducible refine q_then ?_
  with_reducible refine c_seq ?_
  with_reducible refine c_seq ?_
  with_reducible refine c_region ?_
  refine stepD rfl F rfl (o_move (F.ev rfl) ?_); clear F; clear a; intro a F
  (refine stepD rfl F rfl (o_call (F.ev rfl) (F.evs rfl) (Cal.mono (rvalidL_c xs hx _ _ (hS.later M.ext) (fun z hz => (hA z hz).later M.ext)) ?_)); clear F; clear a; rintro _ w ⟨rfl, hE⟩ a F; replace M := M.later hE; clear hE)
  rw [hv] at F
  refine stepD rfl F rfl (o_not (F.ev rfl) ?_); clear F; clear a; intro a F
  refine stepD rfl F rfl (o_move (F.ev rfl) ?_); clear F; clear a; intro a F
  refine stepG rfl F rfl rfl rfl (o_move (F.ev rfl) ?_); clear F; clear a; intro a F
  (refine stepG rfl F rfl rfl rfl (o_call (F.ev rfl) (F.evs rfl) (Cal.mono (risTime_c now _) ?_)); clear F; clear a; rintro _ w ⟨rfl, hE⟩ a F; replace M := M.later hE; clear hE)
  rw [htm] at F
  refine stepG rfl F rfl rfl rfl (o_not (F.ev rfl) ?_); clear F; clear a; intro a F
  refine stepD rfl F rfl (o_pickF (F.ev rfl) (F.ev rfl) ?_); clear F; clear a; intro a F
  refine stepD rfl F rfl (o_move (F.ev rfl) ?_); clear F; clear a; intro a F
  refine stepG rfl F rfl rfl rfl (o_move (F.ev rfl) ?_); clear F; clear a; intro a F
  refine stepG rfl F rfl rfl rfl (o_eqlF (F.ev rfl) (F.ev rfl) (by omega) ?_); clear F; clear a; intro a F
  refine stepD rfl F rfl (o_pickF (F.ev rfl) (F.ev rfl) ?_); clear F; clear a; intro a F
  with_reducible refine l_nil ?_
  with_reducible refine q_then ?_
  refine c_false F rfl rfl ?_
  with_reducible refine c_skip ?_
  with_reducible refine q_then ?_
  with_reducible refine c_seq ?_
  with_reducible refine c_region ?_
  refine stepD rfl F rfl (o_move (F.ev rfl) ?_); clear F; clear a; intro a F
  refine stepD rfl F rfl (o_build F rfl rfl ?_); clear F; clear a; intro a F
  (refine stepD rfl F rfl (o_call (F.ev rfl) (F.evs rfl) (Cal.mono (riid_c 3 0 eui (by omega) (by omega) _) ?_)); clear F; clear a; rintro _ w ⟨rfl, hE⟩ a F; replace M := M.later hE; clear hE)
  rw [hopt] at F
  generalize iidE eui = iid at *
  refine stepD rfl F rfl (o_move (F.ev rfl) ?_); clear F; clear a; intro a F
  refine stepD rfl F rfl (o_extract (F.ev rfl) rfl ?_); clear F; clear a; intro a F
  refine stepD rfl F rfl (o_extract (F.ev rfl) rfl ?_); clear F; clear a; intro a F
  refine stepD rfl F rfl (o_assign (F.ev rfl) ?_); clear F; clear a; intro a F
  refine stepD rfl F rfl (o_assign (F.ev rfl) ?_); clear F; clear a; intro a F
  with_reducible refine l_nil ?_
  with_reducible refine q_then ?_
  with_reducible refine c_seq ?_
  with_reducible refine c_region ?_
  refine stepD rfl F rfl (o_assign (F.ev rfl) ?_); clear F; clear a; intro a F
  with_reducible refine l_nil ?_
  with_reducible refine q_then ?_
  with_reducible refine c_seq ?_
  with_reducible refine c_seq ?_
  with_reducible refine c_region ?_
  refine stepD rfl F rfl (o_move (F.ev rfl) ?_); clear F; clear a; intro a F
  refine stepD rfl F rfl (o_lenSl (F.ev rfl) ?_); clear F; clear a; intro a F
  refine stepD rfl F rfl (o_move (F.ev rfl) ?_); clear F; clear a; intro a F
  with_reducible refine l_nil ?_
  with_reducible refine q_then ?_
  with_reducible refine c_block ?_
  refine c_loop (fun m a w => ∃ (i : Nat) (R : List (List Int)) (sv : Value) (ent : List (Nat × Obj)), m = xs.length - i ∧ i ≤ xs.length ∧ R = rawL iid (curO ((xs.take i).map (·.o)) now) ∧ R.length ≤ i * 16 ∧ OwnS 26 16 sv (insAll R).length (ipsC (insAll R)) ent ∧ Frm a 80 [] [(36, .int .i64 (i : Int)), (35, .int .i64 xs.length), (34, .slice q xs.length cap), (9, sv), (7, .int .u64 iid), (1, .int .i64 now)] ∧ Mem [] W w ent) xs.length ⟨0, [], _, [], rfl, by omega, by simp [curO, rawL], by simp, OwnS.nil _ _, F.only [36, 35, 34, 9, 7, 1] rfl, M⟩ ?_
  clear F M
  rintro m a w ⟨i, R, sv, ent, hm', hi, hR, hRl, hO, F, M⟩
  obtain ⟨sp, sc, rfl⟩ := hO.slice
  by_cases hlt : i < xs.length
  · obtain ⟨b, o, cs, t, fz, rfl, hb, hs⟩ := hm (by omega)
    obtain ⟨y, hy0⟩ : ∃ y, y = xs[i] := ⟨_, rfl⟩
    have hym : y ∈ xs := by rw [hy0]; exact List.getElem_mem hlt
    have hyo := hx y hym
    have hya := hA y hym
    have hyv := validL_each hv (List.mem_map_of_mem hym)
    have hyl := validO_len hyv
    have f1 : seg cs (o + (i : Int).toNat * 20) 20 = some (ovC y) := by rw [hy0]; exact seg_el hle hs hlt (by omega)
    have f2 : (ovC y).length = 20 := ov_len hyo
    have f3 : nth (ovC y) 17 = some (.int .i64 y.o.h.til) := of_til hyo.1 _ _
    have hnext : rawL iid (curO ((xs.take (i + 1)).map (·.o)) now) = R ++ partA iid now y.o y.o.ps.length := by
      rw [List.take_add_one, List.getElem?_eq_getElem hlt, ← hy0, List.map_append, curO_app, rawL_app, ← hR, partA_all]
      rfl
    clear hy0
    have hya2 := hya
    obtain ⟨⟨q1, cap1, hu, hc1, _, hl1, hm1⟩, _⟩ := hya
    have f4 : nth (ovC y) 18 = some (.slice q1 y.o.ps.length cap1) := by rw [← hu]; exact of_ps hyo.1 _ _
    with_reducible refine c_seq ?_
    with_reducible refine c_region ?_
    refine stepD rfl F rfl (o_lssT (F.ev rfl) (F.ev rfl) (by omega) ?_); clear F; clear a; intro a F
    with_reducible refine l_nil ?_
    with_reducible refine q_then ?_
    with_reducible refine c_seq ?_
    refine c_true F rfl rfl ?_
    with_reducible refine c_skip ?_
    with_reducible refine q_then ?_
    with_reducible refine c_seq ?_
    with_reducible refine c_block ?_
    with_reducible refine c_seq ?_
    with_reducible refine c_region ?_
    refine stepD rfl F rfl (o_indexSl (F.ev rfl) (F.ev rfl) (by omega) (by omega) ?_); clear F; clear a; intro a F
    refine stepD rfl F rfl (o_loadWA M (F.ev rfl) (by assumption) (by first | assumption | rfl) ?_); clear F; clear a; intro a F
    (refine stepD rfl F rfl (o_alloc M ?_); clear F; clear M; intro b11 w M a F)
    (refine stepN rfl F (o_storeA M (F.ev rfl) (F.ev rfl) (f2) (ov_one hya2)  (by repeat (first | exact .here | apply Has.there))  (put_all (by rw [f2]; rfl)) (by repeat (first | exact .here | apply Upd.there)) ?_); clear F; clear M; intro w M a F)
    with_reducible refine l_nil ?_
    with_reducible refine q_then ?_
    with_reducible refine c_seq ?_
    with_reducible refine c_region ?_
    refine stepD rfl F rfl (o_fieldAddr (F.ev rfl) ?_); clear F; clear a; intro a F
    refine stepD rfl F rfl (o_load1 M (F.ev rfl) (by repeat (first | exact .here | apply Has.there)) (by first | assumption | rfl) ?_); clear F; clear a; intro a F
    refine stepD rfl F rfl (o_lenSl (F.ev rfl) ?_); clear F; clear a; intro a F
    refine stepD rfl F rfl (o_move (F.ev rfl) ?_); clear F; clear a; intro a F
    with_reducible refine l_nil ?_
    with_reducible refine q_then ?_
    with_reducible refine c_block ?_
    refine c_loop (fun m a w => ∃ (j : Nat) (sv : Value) (ent : List (Nat × Obj)), m = y.o.ps.length - j ∧ j ≤ y.o.ps.length ∧ OwnS 26 16 sv (insAll (R ++ partA iid now y.o j)).length (ipsC (insAll (R ++ partA iid now y.o j))) ent ∧ Frm a 80 [] [(43, .int .i64 (j : Int)), (42, .int .i64 y.o.ps.length), (41, .slice q1 y.o.ps.length cap1), (11, .pointer (some ⟨b11, 0, none⟩)), (36, .int .i64 (i : Int)), (35, .int .i64 xs.length), (34, .slice (some ⟨b, o, none⟩) xs.length cap), (9, sv), (7, .int .u64 iid), (1, .int .i64 now)] ∧ Mem [] W w ((b11, .cells (ovC y).toArray 58 (0, 0)) :: ent)) y.o.ps.length ⟨0, _, ent, rfl, by omega, by simpa [partA] using hO, F.only [43, 42, 41, 11, 36, 35, 34, 9, 7, 1] rfl, M⟩ ?_
    clear F M hO
    rintro m2 a w ⟨j, sv, ent, hm2, hj, hO, F, M⟩
    have hpl := partA_len iid now y.o j
    have hRI : ∀ a ∈ R, IsIP a := by
      rw [hR]
      exact rawL_is h0 fun o ho => by
        obtain ⟨z, h1, rfl⟩ := List.mem_map.1 (List.mem_filter.1 ho).1
        exact hx z (List.mem_of_mem_take h1)
    have hPI : ∀ a ∈ partA iid now y.o j, IsIP a := fun a ha => by
      unfold partA at ha
      split at ha
      · obtain ⟨p, h3, h4⟩ := List.mem_filterMap.1 ha
        exact addr1_is h0 (hyo.2.1 p (List.mem_of_mem_take h3)) h4
      · cases ha
    by_cases hlt2 : j < y.o.ps.length
    · obtain ⟨b', o', cs', t', fz', rfl, hb', hs'⟩ := hm1 (by omega)
      have hst := partA_step (iid := iid) (now := now) hlt2
      obtain ⟨p1, hp0⟩ : ∃ p1, p1 = y.o.ps[j] := ⟨_, rfl⟩
      rw [← hp0] at hst
      have hpm : p1 ∈ y.o.ps := by rw [hp0]; exact List.getElem_mem hlt2
      have hpi : IsPi p1 := hyo.2.1 _ hpm
      have hpv := valid_pi hyv hpm
      have g0 : seg cs' (o' + (j : Int).toNat * 20) 20 = some (piC p1) := by rw [hp0]; exact seg_el (pis_len hyo.2.1) hs' hlt2 (by omega)
      have g1 := pi_aut hpi
      have g2 := pi_bits hpi
      have g3 := pi_life hpi
      have g4 := pi_pre hpi
      clear hp0
      obtain ⟨sp2, sc2, rfl⟩ := hO.slice
      with_reducible refine c_seq ?_
      with_reducible refine c_region ?_
      refine stepD rfl F rfl (o_lssT (F.ev rfl) (F.ev rfl) (by omega) ?_); clear F; clear a; intro a F
      with_reducible refine l_nil ?_
      with_reducible refine q_then ?_
      with_reducible refine c_seq ?_
      refine c_true F rfl rfl ?_
      with_reducible refine c_skip ?_
      with_reducible refine q_then ?_
      with_reducible refine c_seq ?_
      with_reducible refine c_block ?_
      with_reducible refine c_seq ?_
      with_reducible refine c_region ?_
      refine stepD rfl F rfl (o_indexSl (F.ev rfl) (F.ev rfl) (by omega) (by omega) ?_); clear F; clear a; intro a F
      refine stepD rfl F rfl (o_loadWA M (F.ev rfl) (by assumption) (by first | assumption | rfl) ?_); clear F; clear a; intro a F
      (refine stepD rfl F rfl (o_alloc M ?_); clear F; clear M; intro b13 w M a F)
      (refine stepN rfl F (o_storeA M (F.ev rfl) (F.ev rfl) (pi_len hpi) (pi_one _)  (by repeat (first | exact .here | apply Has.there))  (put_all (by rw [pi_len hpi]; rfl)) (by repeat (first | exact .here | apply Upd.there)) ?_); clear F; clear M; intro w M a F)
      have skipc : ∀ {a : Act} {w : World}, (if now < y.o.h.til then (addr1 iid p1).toList else []) = [] → Frm a 80 [] [(43, .int .i64 ((j + 1 : Nat) : Int)), (42, .int .i64 y.o.ps.length), (41, .slice (some ⟨b', o', none⟩) y.o.ps.length cap1), (11, .pointer (some ⟨b11, 0, none⟩)), (36, .int .i64 (i : Int)), (35, .int .i64 xs.length), (34, .slice (some ⟨b, o, none⟩) xs.length cap), (9, .slice sp2 (insAll (R ++ partA iid now y.o j)).length sc2), (7, .int .u64 iid), (1, .int .i64 now)] → Mem [] W w ((b13, .cells (piC p1).toArray 111 (0, 0)) :: (b11, .cells (ovC y).toArray 58 (0, 0)) :: ent) → ∃ k', k' < m2 ∧ ∃ (j : Nat) (sv : Value) (ent : List (Nat × Obj)), k' = y.o.ps.length - j ∧ j ≤ y.o.ps.length ∧ OwnS 26 16 sv (insAll (R ++ partA iid now y.o j)).length (ipsC (insAll (R ++ partA iid now y.o j))) ent ∧ Frm a 80 [] [(43, .int .i64 (j : Int)), (42, .int .i64 y.o.ps.length), (41, .slice (some ⟨b', o', none⟩) y.o.ps.length cap1), (11, .pointer (some ⟨b11, 0, none⟩)), (36, .int .i64 (i : Int)), (35, .int .i64 xs.length), (34, .slice (some ⟨b, o, none⟩) xs.length cap), (9, sv), (7, .int .u64 iid), (1, .int .i64 now)] ∧ Mem [] W w ((b11, .cells (ovC y).toArray 58 (0, 0)) :: ent) :=
        fun h F M => ⟨_, by omega, j + 1, _, ent, rfl, by omega, by rw [hst, h, List.append_nil]; exact hO, F, M.sub (.cons _ (.refl _))⟩
      by_cases c1 : y.o.h.til ≤ now
      · with_reducible refine l_nil ?_
        with_reducible refine q_then ?_
        with_reducible refine c_seq ?_
        with_reducible refine c_seq ?_
        with_reducible refine c_region ?_
        refine stepD rfl F rfl (o_fieldAddr (F.ev rfl) ?_); clear F; clear a; intro a F
        refine stepD rfl F rfl (o_load1 M (F.ev rfl) (by repeat (first | exact .here | apply Has.there)) (by first | assumption | rfl) ?_); clear F; clear a; intro a F
        refine stepD rfl F rfl (o_move (F.ev rfl) ?_); clear F; clear a; intro a F
        refine stepD rfl F rfl (o_leqT (F.ev rfl) (F.ev rfl) (by omega) ?_); clear F; clear a; intro a F
        refine stepD rfl F rfl (o_move (F.ev rfl) ?_); clear F; clear a; intro a F
        refine stepOff F rfl rfl rfl rfl ?_; clear F; clear a; intro a F
        refine stepOff F rfl rfl rfl rfl ?_; clear F; clear a; intro a F
        refine stepOff F rfl rfl rfl rfl ?_; clear F; clear a; intro a F
        refine stepD rfl F rfl (o_pickT (F.ev rfl) (F.ev rfl) ?_); clear F; clear a; intro a F
        refine stepD rfl F rfl (o_move (F.ev rfl) ?_); clear F; clear a; intro a F
        refine stepOff F rfl rfl rfl rfl ?_; clear F; clear a; intro a F
        refine stepOff F rfl rfl rfl rfl ?_; clear F; clear a; intro a F
        refine stepOff F rfl rfl rfl rfl ?_; clear F; clear a; intro a F
        refine stepOff F rfl rfl rfl rfl ?_; clear F; clear a; intro a F
        refine stepD rfl F rfl (o_pickT (F.ev rfl) (F.ev rfl) ?_); clear F; clear a; intro a F
        refine stepD rfl F rfl (o_move (F.ev rfl) ?_); clear F; clear a; intro a F
        refine stepOff F rfl rfl rfl rfl ?_; clear F; clear a; intro a F
        refine stepOff F rfl rfl rfl rfl ?_; clear F; clear a; intro a F
        refine stepOff F rfl rfl rfl rfl ?_; clear F; clear a; intro a F
        refine stepD rfl F rfl (o_pickT (F.ev rfl) (F.ev rfl) ?_); clear F; clear a; intro a F
        with_reducible refine l_nil ?_
        with_reducible refine q_then ?_
        refine c_true F rfl rfl ?_
        with_reducible refine c_exit ?_
        with_reducible refine q_thenX ?_
        with_reducible refine q_inBX ?_
        with_reducible refine q_then ?_
        with_reducible refine c_region ?_
        refine stepD rfl F rfl (o_add (F.ev rfl) (F.ev rfl) (w_i64 (by omega) (by omega)) ?_); clear F; clear a; intro a F
        refine stepD rfl F rfl (o_move (F.ev rfl) ?_); clear F; clear a; intro a F
        with_reducible refine l_nil ?_
        with_reducible refine q_then ?_
        exact skipc (by rw [if_neg (by omega)]) (F.only [43, 42, 41, 11, 36, 35, 34, 9, 7, 1] rfl) M
      rw [if_pos (show now < y.o.h.til by omega)] at hst skipc
      cases c2 : p1.aut
      · have : addr1 iid p1 = none := by unfold addr1; rw [c2]; rfl
        rw [c2] at g1
        with_reducible refine l_nil ?_
        with_reducible refine q_then ?_
        with_reducible refine c_seq ?_
        with_reducible refine c_seq ?_
        with_reducible refine c_region ?_
        refine stepD rfl F rfl (o_fieldAddr (F.ev rfl) ?_); clear F; clear a; intro a F
        refine stepD rfl F rfl (o_load1 M (F.ev rfl) (by repeat (first | exact .here | apply Has.there)) (by first | assumption | rfl) ?_); clear F; clear a; intro a F
        refine stepD rfl F rfl (o_move (F.ev rfl) ?_); clear F; clear a; intro a F
        refine stepD rfl F rfl (o_leqF (F.ev rfl) (F.ev rfl) (by omega) ?_); clear F; clear a; intro a F
        refine stepD rfl F rfl (o_move (F.ev rfl) ?_); clear F; clear a; intro a F
        refine stepG rfl F rfl rfl rfl (o_fieldAddr (F.ev rfl) ?_); clear F; clear a; intro a F
        refine stepG rfl F rfl rfl rfl (o_load1 M (F.ev rfl) (by repeat (first | exact .here | apply Has.there)) (by first | assumption | rfl) ?_); clear F; clear a; intro a F
        refine stepG rfl F rfl rfl rfl (o_not (F.ev rfl) ?_); clear F; clear a; intro a F
        refine stepD rfl F rfl (o_pickF (F.ev rfl) (F.ev rfl) ?_); clear F; clear a; intro a F
        refine stepD rfl F rfl (o_move (F.ev rfl) ?_); clear F; clear a; intro a F
        refine stepOff F rfl rfl rfl rfl ?_; clear F; clear a; intro a F
        refine stepOff F rfl rfl rfl rfl ?_; clear F; clear a; intro a F
        refine stepOff F rfl rfl rfl rfl ?_; clear F; clear a; intro a F
        refine stepOff F rfl rfl rfl rfl ?_; clear F; clear a; intro a F
        refine stepD rfl F rfl (o_pickT (F.ev rfl) (F.ev rfl) ?_); clear F; clear a; intro a F
        refine stepD rfl F rfl (o_move (F.ev rfl) ?_); clear F; clear a; intro a F
        refine stepOff F rfl rfl rfl rfl ?_; clear F; clear a; intro a F
        refine stepOff F rfl rfl rfl rfl ?_; clear F; clear a; intro a F
        refine stepOff F rfl rfl rfl rfl ?_; clear F; clear a; intro a F
        refine stepD rfl F rfl (o_pickT (F.ev rfl) (F.ev rfl) ?_); clear F; clear a; intro a F
        with_reducible refine l_nil ?_
        with_reducible refine q_then ?_
        refine c_true F rfl rfl ?_
        with_reducible refine c_exit ?_
        with_reducible refine q_thenX ?_
        with_reducible refine q_inBX ?_
        with_reducible refine q_then ?_
        with_reducible refine c_region ?_
        refine stepD rfl F rfl (o_add (F.ev rfl) (F.ev rfl) (w_i64 (by omega) (by omega)) ?_); clear F; clear a; intro a F
        refine stepD rfl F rfl (o_move (F.ev rfl) ?_); clear F; clear a; intro a F
        with_reducible refine l_nil ?_
        with_reducible refine q_then ?_
        exact skipc (by rw [this]; rfl) (F.only [43, 42, 41, 11, 36, 35, 34, 9, 7, 1] rfl) M
      rw [c2] at g1
      by_cases c3 : ¬ p1.bits = 64
      · have : addr1 iid p1 = none := by unfold addr1; rw [if_neg]; simp [c3]
        with_reducible refine l_nil ?_
        with_reducible refine q_then ?_
        with_reducible refine c_seq ?_
        with_reducible refine c_seq ?_
        with_reducible refine c_region ?_
        refine stepD rfl F rfl (o_fieldAddr (F.ev rfl) ?_); clear F; clear a; intro a F
        refine stepD rfl F rfl (o_load1 M (F.ev rfl) (by repeat (first | exact .here | apply Has.there)) (by first | assumption | rfl) ?_); clear F; clear a; intro a F
        refine stepD rfl F rfl (o_move (F.ev rfl) ?_); clear F; clear a; intro a F
        refine stepD rfl F rfl (o_leqF (F.ev rfl) (F.ev rfl) (by omega) ?_); clear F; clear a; intro a F
        refine stepD rfl F rfl (o_move (F.ev rfl) ?_); clear F; clear a; intro a F
        refine stepG rfl F rfl rfl rfl (o_fieldAddr (F.ev rfl) ?_); clear F; clear a; intro a F
        refine stepG rfl F rfl rfl rfl (o_load1 M (F.ev rfl) (by repeat (first | exact .here | apply Has.there)) (by first | assumption | rfl) ?_); clear F; clear a; intro a F
        refine stepG rfl F rfl rfl rfl (o_not (F.ev rfl) ?_); clear F; clear a; intro a F
        refine stepD rfl F rfl (o_pickF (F.ev rfl) (F.ev rfl) ?_); clear F; clear a; intro a F
        refine stepD rfl F rfl (o_move (F.ev rfl) ?_); clear F; clear a; intro a F
        refine stepG rfl F rfl rfl rfl (o_fieldAddr (F.ev rfl) ?_); clear F; clear a; intro a F
        refine stepG rfl F rfl rfl rfl (o_fieldAddr (F.ev rfl) ?_); clear F; clear a; intro a F
        refine stepG rfl F rfl rfl rfl (o_load1 M (F.ev rfl) (by repeat (first | exact .here | apply Has.there)) (by first | assumption | rfl) ?_); clear F; clear a; intro a F
        refine stepG rfl F rfl rfl rfl (o_neqT (F.ev rfl) (F.ev rfl) (by omega) ?_); clear F; clear a; intro a F
        refine stepD rfl F rfl (o_pickF (F.ev rfl) (F.ev rfl) ?_); clear F; clear a; intro a F
        refine stepD rfl F rfl (o_move (F.ev rfl) ?_); clear F; clear a; intro a F
        refine stepOff F rfl rfl rfl rfl ?_; clear F; clear a; intro a F
        refine stepOff F rfl rfl rfl rfl ?_; clear F; clear a; intro a F
        refine stepOff F rfl rfl rfl rfl ?_; clear F; clear a; intro a F
        refine stepD rfl F rfl (o_pickT (F.ev rfl) (F.ev rfl) ?_); clear F; clear a; intro a F
        with_reducible refine l_nil ?_
        with_reducible refine q_then ?_
        refine c_true F rfl rfl ?_
        with_reducible refine c_exit ?_
        with_reducible refine q_thenX ?_
        with_reducible refine q_inBX ?_
        with_reducible refine q_then ?_
        with_reducible refine c_region ?_
        refine stepD rfl F rfl (o_add (F.ev rfl) (F.ev rfl) (w_i64 (by omega) (by omega)) ?_); clear F; clear a; intro a F
        refine stepD rfl F rfl (o_move (F.ev rfl) ?_); clear F; clear a; intro a F
        with_reducible refine l_nil ?_
        with_reducible refine q_then ?_
        exact skipc (by rw [this]; rfl) (F.only [43, 42, 41, 11, 36, 35, 34, 9, 7, 1] rfl) M
      replace c3 := Decidable.not_not.1 c3
      by_cases c4 : p1.life = 0
      · have : addr1 iid p1 = none := by unfold addr1; rw [if_neg]; simp [c4]
        with_reducible refine l_nil ?_
        with_reducible refine q_then ?_
        with_reducible refine c_seq ?_
        with_reducible refine c_seq ?_
        with_reducible refine c_region ?_
        refine stepD rfl F rfl (o_fieldAddr (F.ev rfl) ?_); clear F; clear a; intro a F
        refine stepD rfl F rfl (o_load1 M (F.ev rfl) (by repeat (first | exact .here | apply Has.there)) (by first | assumption | rfl) ?_); clear F; clear a; intro a F
        refine stepD rfl F rfl (o_move (F.ev rfl) ?_); clear F; clear a; intro a F
        refine stepD rfl F rfl (o_leqF (F.ev rfl) (F.ev rfl) (by omega) ?_); clear F; clear a; intro a F
        refine stepD rfl F rfl (o_move (F.ev rfl) ?_); clear F; clear a; intro a F
        refine stepG rfl F rfl rfl rfl (o_fieldAddr (F.ev rfl) ?_); clear F; clear a; intro a F
        refine stepG rfl F rfl rfl rfl (o_load1 M (F.ev rfl) (by repeat (first | exact .here | apply Has.there)) (by first | assumption | rfl) ?_); clear F; clear a; intro a F
        refine stepG rfl F rfl rfl rfl (o_not (F.ev rfl) ?_); clear F; clear a; intro a F
        refine stepD rfl F rfl (o_pickF (F.ev rfl) (F.ev rfl) ?_); clear F; clear a; intro a F
        refine stepD rfl F rfl (o_move (F.ev rfl) ?_); clear F; clear a; intro a F
        refine stepG rfl F rfl rfl rfl (o_fieldAddr (F.ev rfl) ?_); clear F; clear a; intro a F
        refine stepG rfl F rfl rfl rfl (o_fieldAddr (F.ev rfl) ?_); clear F; clear a; intro a F
        refine stepG rfl F rfl rfl rfl (o_load1 M (F.ev rfl) (by repeat (first | exact .here | apply Has.there)) (by first | assumption | rfl) ?_); clear F; clear a; intro a F
        refine stepG rfl F rfl rfl rfl (o_neqF (F.ev rfl) (F.ev rfl) (by omega) ?_); clear F; clear a; intro a F
        refine stepD rfl F rfl (o_pickF (F.ev rfl) (F.ev rfl) ?_); clear F; clear a; intro a F
        refine stepD rfl F rfl (o_move (F.ev rfl) ?_); clear F; clear a; intro a F
        refine stepG rfl F rfl rfl rfl (o_fieldAddr (F.ev rfl) ?_); clear F; clear a; intro a F
        refine stepG rfl F rfl rfl rfl (o_load1 M (F.ev rfl) (by repeat (first | exact .here | apply Has.there)) (by first | assumption | rfl) ?_); clear F; clear a; intro a F
        refine stepG rfl F rfl rfl rfl (o_eqlT (F.ev rfl) (F.ev rfl) (by omega) ?_); clear F; clear a; intro a F
        refine stepD rfl F rfl (o_pickF (F.ev rfl) (F.ev rfl) ?_); clear F; clear a; intro a F
        with_reducible refine l_nil ?_
        with_reducible refine q_then ?_
        refine c_true F rfl rfl ?_
        with_reducible refine c_exit ?_
        with_reducible refine q_thenX ?_
        with_reducible refine q_inBX ?_
        with_reducible refine q_then ?_
        with_reducible refine c_region ?_
        refine stepD rfl F rfl (o_add (F.ev rfl) (F.ev rfl) (w_i64 (by omega) (by omega)) ?_); clear F; clear a; intro a F
        refine stepD rfl F rfl (o_move (F.ev rfl) ?_); clear F; clear a; intro a F
        with_reducible refine l_nil ?_
        with_reducible refine q_then ?_
        exact skipc (by rw [this]; rfl) (F.only [43, 42, 41, 11, 36, 35, 34, 9, 7, 1] rfl) M
      clear skipc
      have hj1 : joinP p1.ip p1.bits iid = some (joinI p1.ip iid) := by unfold joinP; rw [hpv, c3]; rfl
      have ha1 : addr1 iid p1 = some (joinI p1.ip iid) := by unfold addr1; rw [c2, c3]; simp [c4]; rw [← c3]; exact hj1
      rw [ha1] at hst
      have hri : IsIP (joinI p1.ip iid) := joinI_isIP hpi h0
      have k1 := ipC_len hri.len
      have k2 : seg (ipC (joinI p1.ip iid)) 0 16 = some (ipC (joinI p1.ip iid)) := seg_all k1
      with_reducible refine l_nil ?_
      with_reducible refine q_then ?_
      with_reducible refine c_seq ?_
      with_reducible refine c_seq ?_
      with_reducible refine c_region ?_
      refine stepD rfl F rfl (o_fieldAddr (F.ev rfl) ?_); clear F; clear a; intro a F
      refine stepD rfl F rfl (o_load1 M (F.ev rfl) (by repeat (first | exact .here | apply Has.there)) (by first | assumption | rfl) ?_); clear F; clear a; intro a F
      refine stepD rfl F rfl (o_move (F.ev rfl) ?_); clear F; clear a; intro a F
      refine stepD rfl F rfl (o_leqF (F.ev rfl) (F.ev rfl) (by omega) ?_); clear F; clear a; intro a F
      refine stepD rfl F rfl (o_move (F.ev rfl) ?_); clear F; clear a; intro a F
      refine stepG rfl F rfl rfl rfl (o_fieldAddr (F.ev rfl) ?_); clear F; clear a; intro a F
      refine stepG rfl F rfl rfl rfl (o_load1 M (F.ev rfl) (by repeat (first | exact .here | apply Has.there)) (by first | assumption | rfl) ?_); clear F; clear a; intro a F
      refine stepG rfl F rfl rfl rfl (o_not (F.ev rfl) ?_); clear F; clear a; intro a F
      refine stepD rfl F rfl (o_pickF (F.ev rfl) (F.ev rfl) ?_); clear F; clear a; intro a F
      refine stepD rfl F rfl (o_move (F.ev rfl) ?_); clear F; clear a; intro a F
      refine stepG rfl F rfl rfl rfl (o_fieldAddr (F.ev rfl) ?_); clear F; clear a; intro a F
      refine stepG rfl F rfl rfl rfl (o_fieldAddr (F.ev rfl) ?_); clear F; clear a; intro a F
      refine stepG rfl F rfl rfl rfl (o_load1 M (F.ev rfl) (by repeat (first | exact .here | apply Has.there)) (by first | assumption | rfl) ?_); clear F; clear a; intro a F
      refine stepG rfl F rfl rfl rfl (o_neqF (F.ev rfl) (F.ev rfl) (by omega) ?_); clear F; clear a; intro a F
      refine stepD rfl F rfl (o_pickF (F.ev rfl) (F.ev rfl) ?_); clear F; clear a; intro a F
      refine stepD rfl F rfl (o_move (F.ev rfl) ?_); clear F; clear a; intro a F
      refine stepG rfl F rfl rfl rfl (o_fieldAddr (F.ev rfl) ?_); clear F; clear a; intro a F
      refine stepG rfl F rfl rfl rfl (o_load1 M (F.ev rfl) (by repeat (first | exact .here | apply Has.there)) (by first | assumption | rfl) ?_); clear F; clear a; intro a F
      refine stepG rfl F rfl rfl rfl (o_eqlF (F.ev rfl) (F.ev rfl) (by omega) ?_); clear F; clear a; intro a F
      refine stepD rfl F rfl (o_pickF (F.ev rfl) (F.ev rfl) ?_); clear F; clear a; intro a F
      with_reducible refine l_nil ?_
      with_reducible refine q_then ?_
      refine c_false F rfl rfl ?_
      with_reducible refine c_skip ?_
      with_reducible refine q_then ?_
      with_reducible refine c_seq ?_
      with_reducible refine c_region ?_
      refine stepD rfl F rfl (o_fieldAddr (F.ev rfl) ?_); clear F; clear a; intro a F
      refine stepD rfl F rfl (o_loadA M (F.ev rfl) (by repeat (first | exact .here | apply Has.there)) (by first | assumption | rfl) ?_); clear F; clear a; intro a F
      refine stepD rfl F rfl (o_move (F.ev rfl) ?_); clear F; clear a; intro a F
      (refine stepD rfl F rfl (o_call (F.ev rfl) (F.evs rfl) (Cal.mono (rjoin_c p1.ip hpi p1.bits iid h0 _) ?_)); clear F; clear a; rintro _ w ⟨rfl, hE⟩ a F; replace M := M.later hE; clear hE)
      rw [hj1, show optIP (some (joinI p1.ip iid)) = .tuple #[.agg (ipC (joinI p1.ip iid)).toArray, .bool true] from rfl] at F
      refine stepD rfl F rfl (o_move (F.ev rfl) ?_); clear F; clear a; intro a F
      refine stepD rfl F rfl (o_extract (F.ev rfl) rfl ?_); clear F; clear a; intro a F
      refine stepD rfl F rfl (o_extract (F.ev rfl) rfl ?_); clear F; clear a; intro a F
      (refine stepD rfl F rfl (o_alloc M ?_); clear F; clear M; intro b14 w M a F)
      (refine stepN rfl F (o_storeA M (F.ev rfl) (F.ev rfl) (k1) (one_ip _)  (by repeat (first | exact .here | apply Has.there))  (put_all (by rw [k1]; rfl)) (by repeat (first | exact .here | apply Upd.there)) ?_); clear F; clear M; intro w M a F)
      refine stepD rfl F rfl (o_assign (F.ev rfl) ?_); clear F; clear a; intro a F
      with_reducible refine l_nil ?_
      with_reducible refine q_then ?_
      with_reducible refine c_region ?_
      refine stepD rfl F rfl (o_move (F.ev rfl) ?_); clear F; clear a; intro a F
      refine stepD rfl F rfl (o_loadA M (F.ev rfl) (by repeat (first | exact .here | apply Has.there)) (by first | assumption | rfl) ?_); clear F; clear a; intro a F
      replace M := M.sub (.cons _ (.cons _ (.refl _)))
      (refine stepD rfl F rfl (o_call (F.ev rfl) (F.evs rfl) (Cal.mono (addIP_c (insAll (R ++ partA iid now y.o j)) (insAll_is fun a ha => (List.mem_append.1 ha).elim (hRI a) (hPI a)) (by have := insAll_len (R ++ partA iid now y.o j); rw [List.length_append] at this; omega) (joinI p1.ip iid) hri _ _ (hO.slAt M (fun p hp => by simp [hp]))) ?_)); clear F; clear a; rintro u w ⟨ent2, hO2, N⟩ a F)
      replace M := M.joins N
      refine stepD rfl F rfl (o_assign (F.ev rfl) ?_); clear F; clear a; intro a F
      with_reducible refine l_nil ?_
      with_reducible refine q_inB ?_
      with_reducible refine q_then ?_
      with_reducible refine c_region ?_
      refine stepD rfl F rfl (o_add (F.ev rfl) (F.ev rfl) (w_i64 (by omega) (by omega)) ?_); clear F; clear a; intro a F
      refine stepD rfl F rfl (o_move (F.ev rfl) ?_); clear F; clear a; intro a F
      with_reducible refine l_nil ?_
      with_reducible refine q_then ?_
      refine ⟨_, by omega, j + 1, u, ent2, rfl, by omega, ?_, F.only [43, 42, 41, 11, 36, 35, 34, 9, 7, 1] rfl, ?_⟩
      · rw [hst]
        simp only [Option.toList]
        rw [← List.append_assoc, insAll_snoc]
        exact hO2
      · refine (M.perm (l' := ((b11, .cells (ovC y).toArray 58 (0, 0)) :: ent2) ++ ent) (by classical exact List.perm_iff_count.2 fun _ => by simp only [List.count_append, List.count_cons, List.count_nil, Nat.add_zero, Nat.zero_add] <;> ac_rfl)).sub (List.sublist_append_left _ _)
    · obtain rfl : j = y.o.ps.length := by omega
      with_reducible refine c_seq ?_
      with_reducible refine c_region ?_
      refine stepD rfl F rfl (o_lssF (F.ev rfl) (F.ev rfl) (by omega) ?_); clear F; clear a; intro a F
      with_reducible refine l_nil ?_
      with_reducible refine q_then ?_
      with_reducible refine c_seq ?_
      refine c_false F rfl rfl ?_
      with_reducible refine c_exit ?_
      with_reducible refine q_thenX ?_
      with_reducible refine q_thenX ?_
      with_reducible refine q_inBX ?_
      with_reducible refine q_inB ?_
      with_reducible refine q_then ?_
      with_reducible refine c_region ?_
      refine stepD rfl F rfl (o_add (F.ev rfl) (F.ev rfl) (w_i64 (by omega) (by omega)) ?_); clear F; clear a; intro a F
      refine stepD rfl F rfl (o_move (F.ev rfl) ?_); clear F; clear a; intro a F
      with_reducible refine l_nil ?_
      with_reducible refine q_then ?_
      refine ⟨_, by omega, i + 1, R ++ partA iid now y.o y.o.ps.length, sv, ent, rfl, by omega, hnext.symm, by rw [List.length_append]; omega, hO, F.only [36, 35, 34, 9, 7, 1] rfl, M.sub (.cons _ (.refl _))⟩
  · obtain rfl : i = xs.length := by omega
    rw [List.take_length] at hR
    rw [← hR]
    with_reducible refine c_seq ?_
    with_reducible refine c_region ?_
    refine stepD rfl F rfl (o_lssF (F.ev rfl) (F.ev rfl) (by omega) ?_); clear F; clear a; intro a F
    with_reducible refine l_nil ?_
    with_reducible refine q_then ?_
    with_reducible refine c_seq ?_
    refine c_false F rfl rfl ?_
    with_reducible refine c_exit ?_
    with_reducible refine q_thenX ?_
    with_reducible refine q_thenX ?_
    with_reducible refine q_inBX ?_
    with_reducible refine q_then ?_
    with_reducible refine c_seq ?_
    with_reducible refine c_region ?_
    refine stepD rfl F rfl (o_move (F.ev rfl) ?_); clear F; clear a; intro a F
    refine stepD rfl F rfl (o_assign (F.ev rfl) ?_); clear F; clear a; intro a F
    with_reducible refine l_nil ?_
    with_reducible refine q_then ?_
    with_reducible refine c_ret ?_
    refine p_ret F rfl (.cons (.tmp (F.ev rfl)) .nil) ?_
    exact ⟨hO.slAt M (fun p hp => hp), M.ext⟩
end Go.Proofs.Ytainnefmobfcjaa
/-! K6 -/
namespace Go.Proofs.Ytainnefmobfcjaa
set_option linter.unusedVariables false
set_option linter.unusedSimpArgs false
open Go.RowKit
attribute [local irreducible] OpTo wpListIn Code.wpIn MW Cal
/-! Ctx -/
structure Ctx where
  id : Int
  ip : List Int
  bits : Int
  cmp : Bool
  til : Int
  deriving DecidableEq
def cxC (o : Ctx) : List Value := [.int .i64 o.id] ++ (pfC o.ip o.bits ++ ([.bool o.cmp, .int .i64 o.til]))
def IsCx (o : Ctx) : Prop := IsIP o.ip
theorem cx_len {o : Ctx} (h : IsCx o) : (cxC o).length = 20 := by
  obtain ⟨f_id, f_ip, f_bits, f_cmp, f_til⟩ := o
  obtain ⟨x0_0, x0_1, x0_2, x0_3, x0_4, x0_5, x0_6, x0_7, x0_8, x0_9, x0_10, x0_11, x0_12, x0_13, x0_14, x0_15, e0⟩ := len16 (show f_ip.length = 16 from (h).len)
  subst e0
  rfl
theorem cx_all {o : Ctx} (h : IsCx o) : seg (cxC o) 0 20 = some (cxC o) := sg_all (cx_len h)
theorem cx_one (o : Ctx) : (cxC o).all (·.oneCell') = true := by
  simp [pfC, ipC, cxC, Value.oneCell']
def cxZ : List Value := [.int .i64 0, .int .u8 0, .int .u8 0, .int .u8 0, .int .u8 0, .int .u8 0, .int .u8 0, .int .u8 0, .int .u8 0, .int .u8 0, .int .u8 0, .int .u8 0, .int .u8 0, .int .u8 0, .int .u8 0, .int .u8 0, .int .u8 0, .int .i64 0, .bool false, .int .i64 0]
theorem cx_build {o : Ctx} (h : IsCx o) : putAll [(0, 1), (1, 17), (18, 1), (19, 1)] cxZ [(0, [.int .i64 o.id]), (1, pfC o.ip o.bits), (2, [.bool o.cmp]), (3, [.int .i64 o.til])] = some (cxC o) := by
  obtain ⟨f_id, f_ip, f_bits, f_cmp, f_til⟩ := o
  obtain ⟨x0_0, x0_1, x0_2, x0_3, x0_4, x0_5, x0_6, x0_7, x0_8, x0_9, x0_10, x0_11, x0_12, x0_13, x0_14, x0_15, e0⟩ := len16 (show f_ip.length = 16 from (h).len)
  subst e0
  rfl
theorem cx_build1 {o : Ctx} (h : IsCx o) : putAll (placesL 1 20) (zerosL cxZ (1 * 20)) [(0, cxC o)] = some (cxC o) := by
  obtain ⟨f_id, f_ip, f_bits, f_cmp, f_til⟩ := o
  obtain ⟨x0_0, x0_1, x0_2, x0_3, x0_4, x0_5, x0_6, x0_7, x0_8, x0_9, x0_10, x0_11, x0_12, x0_13, x0_14, x0_15, e0⟩ := len16 (show f_ip.length = 16 from (h).len)
  subst e0
  rfl
abbrev cxK : List LK := [.i .i64, .i .u8, .i .u8, .i .u8, .i .u8, .i .u8, .i .u8, .i .u8, .i .u8, .i .u8, .i .u8, .i .u8, .i .u8, .i .u8, .i .u8, .i .u8, .i .u8, .i .i64, .b, .i .i64]
theorem cx_fits {o : Ctx} (h : IsCx o) : fitsK cxK (cxC o) = true := by
  obtain ⟨f_id, f_ip, f_bits, f_cmp, f_til⟩ := o
  obtain ⟨x0_0, x0_1, x0_2, x0_3, x0_4, x0_5, x0_6, x0_7, x0_8, x0_9, x0_10, x0_11, x0_12, x0_13, x0_14, x0_15, e0⟩ := len16 (show f_ip.length = 16 from (h).len)
  subst e0
  rfl
theorem cx_eq {a b : Ctx} (ha : IsCx a) (hb : IsCx b) : eqVs (cxC a) (cxC b) = decide (a = b) := by
  have l0 : a.ip.length = b.ip.length := by rw [(ha).len, (hb).len]
  rw [Bool.eq_iff_iff, decide_eq_true_eq]
  obtain ⟨a_id, a_ip, a_bits, a_cmp, a_til⟩ := a
  obtain ⟨b_id, b_ip, b_bits, b_cmp, b_til⟩ := b
  dsimp only at l0
  simp only [cxC, Ctx.mk.injEq]
  rw [eqVs_append _ _ _ _ (by first | rfl | assumption | (simp [pfC, ipC]; assumption))]
  rw [eqVs_append _ _ _ _ (by first | rfl | assumption | (simp [pfC, ipC]; assumption))]
  rw [eqVs_pf l0]
  simp [eqVs, eqV, Bool.and_eq_true, beq_iff_eq, Bool.and_true, and_assoc, decide_eq_true_eq, List.cons_append, List.nil_append]
abbrev cxsC (l : List Ctx) : List Value := encL cxC l
theorem cxs_len {l : List Ctx} (h : ∀ x ∈ l, IsCx x) : ∀ x ∈ l, (cxC x).length = 20 := fun x hx => cx_len (h x hx)
/-- a return with the marks of many loops over iterators -/
theorem leaveN {P : Program} {fn : Func} {R : Value → World → Prop} {a : Act} {W0 : World} {S : List Nat} {l : List (Nat × Obj)} {rvs : List ResultVar} {vs : List Value} (hr : fn.results = rvs.toArray) (hv : ∀ w', Mem S W0 w' l → ResVs P a w' rvs vs ∧ R (oneOr vs) w') : ∀ (Ds : List Nat) (w : World), Mem S W0 w (Ds.map (fun D => (D, Obj.deferred (some []))) ++ l) →
    LeavesInM (FW none) 0 P fn a.tmps (fun e w' => ∃ v, e = .returned v ∧ R v w') (Ds.map markOf) .returning w
  | [], w, M => by
    obtain ⟨h1, h2⟩ := hv w (by simpa using M)
    exact ⟨_, run_results hr h1, _, rfl, h2⟩
  | D :: Ds, w, M => by
    have hD := M.heap (b := D) (o := .deferred (some [])) .here
    have hlt : D < w.heap.size := (Array.getElem?_eq_some_iff.1 hD).1
    have M2 := M.turned (o' := .deferred none) .here (Ext.putObj w D (.deferred none)) (World.putObj_heap_same hlt)
    exact ⟨by simp, .inl ⟨D, _, rfl, run_takeDeferred hD, leaveN hr hv Ds _ (M2.sub (.cons _ (.refl _)))⟩⟩
theorem p_retN {P : Program} {fn : Func} {R : Value → World → Prop} {a : Act} {w W0 : World} {S : List Nat} {l : List (Nat × Obj)} {n : Nat} {fr : List (Nat × Value)} {rvs : List ResultVar} {vs : List Value} (Ds : List Nat) (F : Frm a n (Ds.map markOf) fr) (M : Mem S W0 w (Ds.map (fun D => (D, Obj.deferred (some []))) ++ l)) (hr : fn.results = rvs.toArray) (hv : ∀ w', Mem S W0 w' l → ResVs P a w' rvs vs ∧ R (oneOr vs) w') : Post P fn R .ret a w := by
  show LeavesInM _ _ _ _ _ _ _ _ _
  rw [F.defers]
  exact leaveN hr hv Ds w M
/-! the contexts (plain) -/
def ctxOf (id : Int) (c : CInf) (o : Off) : Ctx := ⟨id, c.ip, c.bits, c.cmp, o.h.til⟩
def ctxZ : Ctx := ⟨0, z16, 0, false, 0⟩
theorem ctxZ_is : IsCx ctxZ := isIP_dec z16 (by decide)
def ctxS (id : Int) (st : Int × Ctx) (o : Off) : Int × Ctx := match o.cs.find? (fun c => c.id == id) with
  | none => st
  | some c => if st.1 < o.h.ver then (o.h.ver, ctxOf id c o) else st
def ctxF (id : Int) (os : List Off) : Int × Ctx := os.foldl (ctxS id) (-1, ctxZ)
def ctxT (id : Int) (os : List Off) : List Ctx := if 0 ≤ (ctxF id os).1 then [(ctxF id os).2] else []
def ctxUp (os : List Off) (n : Nat) : List Ctx := (List.range n).flatMap fun (k : Nat) => ctxT (k : Int) os
def ctxsV (os : List Off) (now : Int) : List Ctx := if validL os && isTime now then ctxUp (curO os now) 16 else []
theorem ctxF_snoc (id : Int) (os : List Off) (o : Off) : ctxF id (os ++ [o]) = ctxS id (ctxF id os) o := by simp [ctxF, List.foldl_append]
theorem ctxUp_step (os : List Off) (n : Nat) : ctxUp os (n + 1) = ctxUp os n ++ ctxT (n : Int) os := by simp [ctxUp, List.range_succ]
theorem ctxUp_len (os : List Off) (n : Nat) : (ctxUp os n).length ≤ n := by
  induction n with
  | zero => simp [ctxUp]
  | succ n ih =>
    rw [ctxUp_step, List.length_append]
    have : (ctxT (n : Int) os).length ≤ 1 := by unfold ctxT; split <;> simp
    omega
theorem ctxS_is {id : Int} {st : Int × Ctx} {o : Off} (h : IsCx st.2) (ho : IsOff o) : IsCx (ctxS id st o).2 := by
  unfold ctxS
  split
  · exact h
  · rename_i c hc
    split
    · exact ho.2.2 c (List.mem_of_find?_eq_some hc)
    · exact h
theorem ctxF_is {id : Int} : ∀ {os : List Off}, (∀ o ∈ os, IsOff o) → IsCx (ctxF id os).2 := fun {os} h => by
  have key : ∀ (os : List Off) (st : Int × Ctx), (∀ o ∈ os, IsOff o) → IsCx st.2 → IsCx (os.foldl (ctxS id) st).2 := by
    intro os
    induction os with
    | nil => intro st _ h; exact h
    | cons o os ih => intro st h h2; exact ih _ (fun x hx => h x (by simp [hx])) (ctxS_is h2 (h o (by simp)))
  exact key os _ h ctxZ_is
theorem findI_find {α : Type} {p : α → Bool} {ls : List α} : (findI p ls = -1 ∧ ls.find? p = none) ∨ ∃ i, ∃ hi : i < ls.length, findI p ls = (i : Nat) ∧ ls.find? p = some ls[i] := by
  rcases findI_cases p ls with ⟨h1, h2⟩ | ⟨i, hi, h1, h2, h3⟩
  · exact .inl ⟨h1, List.find?_eq_none.2 fun x hx => by rw [h2 x hx]; simp⟩
  · refine .inr ⟨i, hi, h1, ?_⟩
    rw [List.find?_eq_some_iff_getElem]
    exact ⟨h2, i, hi, rfl, fun j hj => by rw [h3 j hj]; rfl⟩
set_option maxHeartbeats 1000000 in
theorem indexC_c {v : Value} {ls : List CInf} (W : World) (hS : SlAt W 20 v ls.length (cisC ls)) (hls : ∀ l ∈ ls, IsCi l) (hlen : ls.length ≤ 1000) (g : FuncId) [hg : TBody Try.prog g] (caps : List Value) (p : CInf → Bool)
    (hcl : ∀ w l, Ext [] W w → l ∈ ls → Cal Try.prog g (.agg (ciC l).toArray :: caps).toArray w fun v w' => v = .bool (p l) ∧ Ext [] w w') :
    Cal Try.prog 96 [v, .func (.func g) #[] caps.toArray].toArray W fun x w' => x = .int .i64 (findI p ls) ∧ Ext [] W w' := by
  obtain ⟨q, cap, rfl, hcap, hsp, hl, hm⟩ := hS
  refine fn_ofM (n := 19) [] Try.func96 rfl rfl rfl ?_
  intro a w F M hwW
  with_reducible refine c_seq ?_
  with_reducible refine c_region ?_
  refine stepD rfl F rfl (o_assign (F.ev rfl) ?_); clear F; clear a; intro a F
  with_reducible refine l_nil ?_
  with_reducible refine q_then ?_
  with_reducible refine c_seq ?_
  with_reducible refine c_seq ?_
  with_reducible refine c_region ?_
  refine stepD rfl F rfl (o_move (F.ev rfl) ?_); clear F; clear a; intro a F
  refine stepD rfl F rfl (o_lenSl (F.ev rfl) ?_); clear F; clear a; intro a F
  refine stepD rfl F rfl (o_move (F.ev rfl) ?_); clear F; clear a; intro a F
  with_reducible refine l_nil ?_
  with_reducible refine q_then ?_
  with_reducible refine c_block ?_
  refine c_loop (fun k a w => ∃ i : Nat, k = ls.length - i ∧ i ≤ ls.length ∧ (∀ j (hj : j < i) (hj2 : j < ls.length), p ls[j] = false) ∧ Frm a 19 [] [(8, .int .i64 i), (7, .int .i64 ls.length), (0, .slice q ls.length cap), (1, .func (.func g) #[] caps.toArray)] ∧ Mem [] W w []) ls.length ⟨0, rfl, by omega, by omega, F.only [8, 7, 0, 1] rfl, M⟩ ?_
  clear F M
  rintro k a w ⟨i, hk, hi, hno, F, M⟩
  by_cases hlt : i < ls.length
  · obtain ⟨b, o, cs, t, fz, rfl, hb, hs⟩ := hm (by omega)
    have e1 : seg cs (o + (i : Int).toNat * 20) 20 = some (ciC ls[i]) := seg_el (cis_len hls) hs hlt (by omega)
    with_reducible refine c_seq ?_
    with_reducible refine c_region ?_
    refine stepD rfl F rfl (o_lssT (F.ev rfl) (F.ev rfl) (by omega) ?_); clear F; clear a; intro a F
    with_reducible refine l_nil ?_
    with_reducible refine q_then ?_
    with_reducible refine c_seq ?_
    refine c_true F rfl rfl ?_
    with_reducible refine c_skip ?_
    with_reducible refine q_then ?_
    with_reducible refine c_seq ?_
    with_reducible refine c_block ?_
    with_reducible refine c_seq ?_
    with_reducible refine c_region ?_
    refine stepD rfl F rfl (o_move (F.ev rfl) ?_); clear F; clear a; intro a F
    refine stepD rfl F rfl (o_assign (F.ev rfl) ?_); clear F; clear a; intro a F
    with_reducible refine l_nil ?_
    with_reducible refine q_then ?_
    with_reducible refine c_seq ?_
    with_reducible refine c_region ?_
    refine stepD rfl F rfl (o_move (F.ev rfl) ?_); clear F; clear a; intro a F
    refine stepD rfl F rfl (o_move (F.ev rfl) ?_); clear F; clear a; intro a F
    refine stepD rfl F rfl (o_move (F.ev rfl) ?_); clear F; clear a; intro a F
    refine stepD rfl F rfl (o_indexSl (F.ev rfl) (F.ev rfl) (by omega) (by omega) ?_); clear F; clear a; intro a F
    refine stepD rfl F rfl (o_loadWA M (F.ev rfl) (by assumption) (by first | assumption | rfl) ?_); clear F; clear a; intro a F
    (refine stepD rfl F rfl (o_callCl (us := (.agg (ciC ls[i]).toArray :: caps).toArray) (F.ev rfl) (F.evs rfl) (by simp) (Cal.mono (hcl _ ls[i] M.ext (List.getElem_mem hlt)) ?_)); clear F; clear a; rintro _ w ⟨rfl, hE⟩ a F; replace M := M.later hE; clear hE)
    cases hp : p ls[i]
    · rw [hp] at F
      with_reducible refine l_nil ?_
      with_reducible refine q_then ?_
      refine c_false F rfl rfl ?_
      with_reducible refine c_skip ?_
      with_reducible refine q_inB ?_
      with_reducible refine q_then ?_
      with_reducible refine c_region ?_
      refine stepD rfl F rfl (o_add (F.ev rfl) (F.ev rfl) (w_i64 (by omega) (by omega)) ?_); clear F; clear a; intro a F
      refine stepD rfl F rfl (o_move (F.ev rfl) ?_); clear F; clear a; intro a F
      with_reducible refine l_nil ?_
      with_reducible refine q_then ?_
      exact ⟨_, by omega, i + 1, rfl, by omega, fun j hj hj2 => by
        rcases Nat.lt_or_ge j i with h | h
        · exact hno j h hj2
        · obtain rfl : j = i := by omega
          exact hp, F.only [8, 7, 0, 1] rfl, M⟩
    · rw [hp] at F
      with_reducible refine l_nil ?_
      with_reducible refine q_then ?_
      refine c_true F rfl rfl ?_
      with_reducible refine c_seq ?_
      with_reducible refine c_region ?_
      refine stepD rfl F rfl (o_move (F.ev rfl) ?_); clear F; clear a; intro a F
      refine stepD rfl F rfl (o_assign (F.ev rfl) ?_); clear F; clear a; intro a F
      with_reducible refine l_nil ?_
      with_reducible refine q_then ?_
      with_reducible refine c_ret ?_
      with_reducible refine q_inBR ?_
      with_reducible refine q_thenR ?_
      with_reducible refine q_thenR ?_
      with_reducible refine q_inBR ?_
      with_reducible refine q_thenR ?_
      refine p_ret F rfl (.cons (.tmp (F.ev rfl)) .nil) ?_
      exact ⟨by rw [findI_at hlt hp fun j hj => hno j hj (by omega)]; rfl, M.ext⟩
  · obtain rfl : i = ls.length := by omega
    with_reducible refine c_seq ?_
    with_reducible refine c_region ?_
    refine stepD rfl F rfl (o_lssF (F.ev rfl) (F.ev rfl) (by omega) ?_); clear F; clear a; intro a F
    with_reducible refine l_nil ?_
    with_reducible refine q_then ?_
    with_reducible refine c_seq ?_
    refine c_false F rfl rfl ?_
    with_reducible refine c_exit ?_
    with_reducible refine q_thenX ?_
    with_reducible refine q_thenX ?_
    with_reducible refine q_inBX ?_
    with_reducible refine q_then ?_
    with_reducible refine c_seq ?_
    with_reducible refine c_region ?_
    refine stepD rfl F rfl (o_assign (F.ev rfl) ?_); clear F; clear a; intro a F
    with_reducible refine l_nil ?_
    with_reducible refine q_then ?_
    with_reducible refine c_ret ?_
    refine p_ret F rfl (.cons (.tmp (F.ev rfl)) .nil) ?_
    exact ⟨by rw [findI_none fun j hj => hno j hj hj]; rfl, M.ext⟩
theorem con1_c (c : CInf) (hc : IsCi c) (id : Int) {b1 : Nat} {t1 : TypeId} {z1 : Nat × Nat} (W : World) (h1 : W.heap[b1]? = some (.cells [Value.int .i64 id].toArray t1 z1)) :
    Cal Try.prog 97 [.agg (ciC c).toArray, .pointer (some ⟨b1, 0, none⟩)].toArray W fun x w' => x = .bool (c.id == id) ∧ Ext [] W w' := by
  have e1 := ci_id hc
  refine fn_ofM (n := 8) [] Try.func97 rfl rfl rfl ?_
  intro a w F M hwW
  refine c_seq ?_
  refine c_region ?_
  (refine stepD rfl F rfl (o_box M (F.ev rfl) rfl ?_); clear F; clear M; intro b2 w M a F)
  refine stepD rfl F rfl (o_assign (F.ev rfl) ?_); clear F; clear a; intro a F
  with_reducible refine l_nil ?_
  with_reducible refine q_then ?_
  with_reducible refine c_seq ?_
  with_reducible refine c_region ?_
  refine stepD rfl F rfl (o_fieldAddr (F.ev rfl) ?_); clear F; clear a; intro a F
  refine stepD rfl F rfl (o_load1 M (F.ev rfl) (by repeat (first | exact .here | apply Has.there)) (by first | assumption | rfl) ?_); clear F; clear a; intro a F
  refine stepD rfl F rfl (o_loadW1 M (F.ev rfl) (by assumption) (by first | assumption | rfl) ?_); clear F; clear a; intro a F
  refine stepD rfl F rfl (o_eql (F.ev rfl) (F.ev rfl) ?_); clear F; clear a; intro a F
  refine stepD rfl F rfl (o_assign (F.ev rfl) ?_); clear F; clear a; intro a F
  with_reducible refine l_nil ?_
  with_reducible refine q_then ?_
  with_reducible refine c_ret ?_
  refine p_ret F rfl (.cons (.tmp (F.ev rfl)) .nil) ?_
  exact ⟨rfl, M.ext⟩
end Go.Proofs.Ytainnefmobfcjaa
/-! K7 -/
namespace Go.Proofs.Ytainnefmobfcjaa
set_option linter.unusedVariables false
set_option linter.unusedSimpArgs false
open Go.RowKit
attribute [local irreducible] OpTo wpListIn Code.wpIn MW Cal
theorem ctxs_f {os : List Off} {now : Int} (h : (validL os && isTime now) = false) : ctxsV os now = [] := by unfold ctxsV; rw [h]; rfl
theorem ctxs_t {os : List Off} {now : Int} (h : (validL os && isTime now) = true) : ctxsV os now = ctxUp (curO os now) 16 := by unfold ctxsV; rw [h]; rfl
abbrev mksD (Ds : List Nat) : List (Nat × Obj) := Ds.map fun D => (D, Obj.deferred (some []))
set_option maxHeartbeats 8000000 in
theorem bctx_c (xs : List OV) (hx : ∀ x ∈ xs, IsOff x.o) (v : Value) (now : Int) (W : World) (hS : SlAt W 20 v xs.length (encL ovC xs)) (hA : ∀ x ∈ xs, OffAt W x) :
    Cal Try.prog 73 [v, .int .i64 now].toArray W fun r w' => SlAt w' 20 r (ctxsV (xs.map (·.o)) now).length (cxsC (ctxsV (xs.map (·.o)) now)) ∧ Ext [] W w' := by
  cases hv : validL (xs.map (·.o))
  · rw [ctxs_f (by rw [hv]; rfl)]
    refine fn_ofM (n := 62) [] Try.func73 rfl rfl rfl ?_
    intro a w F M hwW
    with_reducible refine c_seq ?_
    with_reducible refine c_region ?_
    refine stepD rfl F rfl (o_assign (F.ev rfl) ?_); clear F; clear a; intro a F
    with_reducible refine l_nil ?_
    with_reducible refine q_then ?_
    with_reducible refine c_seq ?_
    with_reducible refine c_seq ?_
    with_reducible refine c_region ?_
    refine stepD rfl F rfl (o_move (F.ev rfl) ?_); clear F; clear a; intro a F
    (refine stepD rfl F rfl (o_call (F.ev rfl) (F.evs rfl) (Cal.mono (validL_c xs hx _ _ (hS.later M.ext) (fun z hz => (hA z hz).later M.ext)) ?_)); clear F; clear a; rintro _ w ⟨rfl, hE⟩ a F; replace M := M.later hE; clear hE)
    rw [hv] at F
    refine stepD rfl F rfl (o_not (F.ev rfl) ?_); clear F; clear a; intro a F
    refine stepD rfl F rfl (o_move (F.ev rfl) ?_); clear F; clear a; intro a F
    refine stepOff F rfl rfl rfl rfl ?_; clear F; clear a; intro a F
    refine stepOff F rfl rfl rfl rfl ?_; clear F; clear a; intro a F
    refine stepOff F rfl rfl rfl rfl ?_; clear F; clear a; intro a F
    refine stepD rfl F rfl (o_pickT (F.ev rfl) (F.ev rfl) ?_); clear F; clear a; intro a F
    with_reducible refine l_nil ?_
    with_reducible refine q_then ?_
    refine c_true F rfl rfl ?_
    with_reducible refine c_seq ?_
    with_reducible refine c_region ?_
    refine stepD rfl F rfl (o_assign (F.ev rfl) ?_); clear F; clear a; intro a F
    with_reducible refine l_nil ?_
    with_reducible refine q_then ?_
    with_reducible refine c_ret ?_
    with_reducible refine q_thenR ?_
    refine p_ret F rfl (.cons (.tmp (F.ev rfl)) .nil) ?_
    exact ⟨SlAt.nil _ _, M.ext⟩
  cases htm : isTime now
  · rw [ctxs_f (by rw [hv, htm]; rfl)]
    refine fn_ofM (n := 62) [] Try.func73 rfl rfl rfl ?_
    intro a w F M hwW
    with_reducible refine c_seq ?_
    with_reducible refine c_region ?_
    refine stepD rfl F rfl (o_assign (F.ev rfl) ?_); clear F; clear a; intro a F
    with_reducible refine l_nil ?_
    with_reducible refine q_then ?_
    with_reducible refine c_seq ?_
    with_reducible refine c_seq ?_
    with_reducible refine c_region ?_
    refine stepD rfl F rfl (o_move (F.ev rfl) ?_); clear F; clear a; intro a F
    (refine stepD rfl F rfl (o_call (F.ev rfl) (F.evs rfl) (Cal.mono (validL_c xs hx _ _ (hS.later M.ext) (fun z hz => (hA z hz).later M.ext)) ?_)); clear F; clear a; rintro _ w ⟨rfl, hE⟩ a F; replace M := M.later hE; clear hE)
    rw [hv] at F
    refine stepD rfl F rfl (o_not (F.ev rfl) ?_); clear F; clear a; intro a F
    refine stepD rfl F rfl (o_move (F.ev rfl) ?_); clear F; clear a; intro a F
    refine stepG rfl F rfl rfl rfl (o_move (F.ev rfl) ?_); clear F; clear a; intro a F
    (refine stepG rfl F rfl rfl rfl (o_call (F.ev rfl) (F.evs rfl) (Cal.mono (isTime_c now _) ?_)); clear F; clear a; rintro _ w ⟨rfl, hE⟩ a F; replace M := M.later hE; clear hE)
    rw [htm] at F
    refine stepG rfl F rfl rfl rfl (o_not (F.ev rfl) ?_); clear F; clear a; intro a F
    refine stepD rfl F rfl (o_pickF (F.ev rfl) (F.ev rfl) ?_); clear F; clear a; intro a F
    with_reducible refine l_nil ?_
    with_reducible refine q_then ?_
    refine c_true F rfl rfl ?_
    with_reducible refine c_seq ?_
    with_reducible refine c_region ?_
    refine stepD rfl F rfl (o_assign (F.ev rfl) ?_); clear F; clear a; intro a F
    with_reducible refine l_nil ?_
    with_reducible refine q_then ?_
    with_reducible refine c_ret ?_
    with_reducible refine q_thenR ?_
    refine p_ret F rfl (.cons (.tmp (F.ev rfl)) .nil) ?_
    exact ⟨SlAt.nil _ _, M.ext⟩
  rw [ctxs_t (by rw [hv, htm]; rfl)]
  have hlen := validL_len hv
  rw [List.length_map] at hlen
  have hSs := hS
  obtain ⟨q, cap, rfl, hcap, _, hsl, hm⟩ := hS
  refine fn_ofM (n := 62) [] Try.func73 rfl rfl rfl ?_
  intro a w F M hwW
  with_reducible refine c_seq ?_
  with_reducible refine c_region ?_
  refine stepD rfl F rfl (o_assign (F.ev rfl) ?_); clear F; clear a; intro a F
  with_reducible refine l_nil ?_
  with_reducible refine q_then ?_
  with_reducible refine c_seq ?_
  with_reducible refine c_seq ?_
  with_reducible refine c_region ?_
  refine stepD rfl F rfl (o_move (F.ev rfl) ?_); clear F; clear a; intro a F
  (refine stepD rfl F rfl (o_call (F.ev rfl) (F.evs rfl) (Cal.mono (validL_c xs hx _ _ (hSs.later M.ext) (fun z hz => (hA z hz).later M.ext)) ?_)); clear F; clear a; rintro _ w ⟨rfl, hE⟩ a F; replace M := M.later hE; clear hE)
  rw [hv] at F
  refine stepD rfl F rfl (o_not (F.ev rfl) ?_); clear F; clear a; intro a F
  refine stepD rfl F rfl (o_move (F.ev rfl) ?_); clear F; clear a; intro a F
  refine stepG rfl F rfl rfl rfl (o_move (F.ev rfl) ?_); clear F; clear a; intro a F
  (refine stepG rfl F rfl rfl rfl (o_call (F.ev rfl) (F.evs rfl) (Cal.mono (isTime_c now _) ?_)); clear F; clear a; rintro _ w ⟨rfl, hE⟩ a F; replace M := M.later hE; clear hE)
  rw [htm] at F
  refine stepG rfl F rfl rfl rfl (o_not (F.ev rfl) ?_); clear F; clear a; intro a F
  refine stepD rfl F rfl (o_pickF (F.ev rfl) (F.ev rfl) ?_); clear F; clear a; intro a F
  with_reducible refine l_nil ?_
  with_reducible refine q_then ?_
  refine c_false F rfl rfl ?_
  with_reducible refine c_skip ?_
  with_reducible refine q_then ?_
  with_reducible refine c_seq ?_
  with_reducible refine c_region ?_
  refine stepD rfl F rfl (o_assign (F.ev rfl) ?_); clear F; clear a; intro a F
  with_reducible refine l_nil ?_
  with_reducible refine q_then ?_
  with_reducible refine c_seq ?_
  with_reducible refine c_seq ?_
  with_reducible refine c_region ?_
  refine stepD rfl F rfl (o_move (F.ev rfl) ?_); clear F; clear a; intro a F
  with_reducible refine l_nil ?_
  with_reducible refine q_then ?_
  with_reducible refine c_block ?_
  refine c_loop (fun m a w => ∃ (n : Nat) (sv : Value) (ent : List (Nat × Obj)) (Ds : List Nat), m = 16 - n ∧ n ≤ 16 ∧ OwnS 125 20 sv (ctxUp (curO (xs.map (·.o)) now) n).length (cxsC (ctxUp (curO (xs.map (·.o)) now) n)) ent ∧ Frm a 62 (Ds.map markOf) [(20, .int .i64 (n : Int)), (5, sv), (0, .slice q xs.length cap), (1, .int .i64 now)] ∧ Mem [] W w (mksD Ds ++ ent)) 16 ⟨0, _, [], [], rfl, by omega, OwnS.nil _ _, F.only [20, 5, 0, 1] rfl, M⟩ ?_
  clear F M
  rintro m a w ⟨n, sv, ent, Ds, hm', hn, hO, F, M⟩
  obtain ⟨sp, sc, rfl⟩ := hO.slice
  by_cases hlt : n < 16
  · with_reducible refine c_seq ?_
    with_reducible refine c_region ?_
    refine stepD rfl F rfl (o_lssT (F.ev rfl) (F.ev rfl) (by omega) ?_); clear F; clear a; intro a F
    with_reducible refine l_nil ?_
    with_reducible refine q_then ?_
    with_reducible refine c_seq ?_
    refine c_true F rfl rfl ?_
    with_reducible refine c_skip ?_
    with_reducible refine q_then ?_
    with_reducible refine c_seq ?_
    with_reducible refine c_block ?_
    with_reducible refine c_seq ?_
    with_reducible refine c_region ?_
    refine stepD rfl F rfl (o_move (F.ev rfl) ?_); clear F; clear a; intro a F
    (refine stepD rfl F rfl (o_alloc M ?_); clear F; clear M; intro b6 w M a F)
    (refine stepN rfl F (o_store1 M (F.ev rfl) (F.ev rfl) rfl (by repeat (first | exact .here | apply Has.there)) (by rfl) (by repeat (first | exact .here | apply Upd.there)) ?_); clear F; clear M; intro w M a F)
    with_reducible refine l_nil ?_
    with_reducible refine q_then ?_
    with_reducible refine c_seq ?_
    with_reducible refine c_region ?_
    (refine stepD rfl F rfl (o_alloc M ?_); clear F; clear M; intro b7 w M a F)
    with_reducible refine l_nil ?_
    with_reducible refine q_then ?_
    with_reducible refine c_seq ?_
    with_reducible refine c_region ?_
    (refine stepD rfl F rfl (o_alloc M ?_); clear F; clear M; intro b8 w M a F)
    (refine stepN rfl F (o_store1 M (F.ev rfl) (F.ev rfl) rfl (by repeat (first | exact .here | apply Has.there)) (by rfl) (by repeat (first | exact .here | apply Upd.there)) ?_); clear F; clear M; intro w M a F)
    with_reducible refine l_nil ?_
    with_reducible refine q_then ?_
    with_reducible refine c_seq ?_
    with_reducible refine c_seq ?_
    with_reducible refine c_region ?_
    refine stepD rfl F rfl (o_move (F.ev rfl) ?_); clear F; clear a; intro a F
    refine stepD rfl F rfl (o_move (F.ev rfl) ?_); clear F; clear a; intro a F
    (refine stepD rfl F rfl (o_call (F.ev rfl) (F.evs rfl) (Cal.mono (current_c _ now _ rfl ) ?_)); clear F; clear a; rintro _ w ⟨c2, c3, rfl, N⟩ a F; replace M := M.joins N; clear N)
    with_reducible refine l_nil ?_
    with_reducible refine q_then ?_
    with_reducible refine c_block ?_
    replace F := F.only [25, 20, 8, 7, 6, 5, 0, 1] rfl
    replace M : Mem [] W w (([(b8, .cells [.int .i64 (-1)].toArray 3 (0, 0)), (b7, .cells (cxC ctxZ).toArray 125 (0, 0)), (b6, .cells [.int .i64 (n : Int)].toArray 3 (0, 0))] ++ (mksD Ds ++ ent)) ++ curB (.slice q xs.length cap) now c2 c3) := M.perm List.perm_append_comm
    refine c_rangeAt (α := OV) (ps := [26]) F M rfl (cur_iter W xs hx _ hSs hA (by omega) now c2 c3) (fun _ => rfl) rfl
      (fun pre l => ∃ st, st = ctxF n (pre.map (·.o)) ∧ l = [(b8, .cells [.int .i64 st.1].toArray 3 (0, 0)), (b7, .cells (cxC st.2).toArray 125 (0, 0)), (b6, .cells [.int .i64 (n : Int)].toArray 3 (0, 0))] ++ (mksD Ds ++ ent))
      (fun c pre l => False)
      ⟨_, rfl, rfl⟩ ?round ?done ?stop
    case stop =>
      intro D c pre l' p' W' a' h
      exact h.elim
    case round =>
      clear F M
      rintro L pre y _ w p a hok ⟨st, hst, rfl⟩ M F
      have hym : y ∈ curX xs now := hok.subset (by simp)
      have hyx : y ∈ xs := (List.mem_filter.1 hym).1
      have hyo := hx y hyx
      have hya := hA y hyx
      have hyv := validO_len (validL_each hv (List.mem_map_of_mem hyx))
      have hsx : IsCx st.2 := by
        rw [hst]
        exact ctxF_is fun o ho => by
          obtain ⟨z, h1, rfl⟩ := List.mem_map.1 ho
          have h2 : z ∈ curX xs now := hok.subset (by simp [h1])
          exact hx z (List.mem_filter.1 h2).1
      have hnext : ctxF n ((pre ++ [y]).map (·.o)) = ctxS n st y.o := by rw [List.map_append, List.map_singleton, ctxF_snoc, hst]
      have f2 : (ovC y).length = 20 := ov_len hyo
      have hya2 := hya
      obtain ⟨_, ⟨q1, cap1, hu, hc1, _, hl1, hm1⟩⟩ := hya
      have f4 : nth (ovC y) 19 = some (.slice q1 y.o.cs.length cap1) := by rw [← hu]; exact of_cs hyo.1 _ _
      have f5 : nth (ovC y) 16 = some (.int .i64 y.o.h.ver) := of_ver hyo.1 _ _
      have f6 : nth (ovC y) 17 = some (.int .i64 y.o.h.til) := of_til hyo.1 _ _
      have hSc : SlAt W 20 (.slice q1 y.o.cs.length cap1) y.o.cs.length (cisC y.o.cs) := by rw [← hu]; exact hya2.2
      refine c_region ?_
      (refine stepD rfl F rfl (o_alloc M ?_); clear F; clear M; intro b9 w M a F)
      (refine stepN rfl F (o_storeA M (F.ev rfl) (F.ev rfl) (f2) (ov_one hya2)  (by repeat (first | exact .here | apply Has.there))  (put_all (by rw [f2]; rfl)) (by repeat (first | exact .here | apply Upd.there)) ?_); clear F; clear M; intro w M a F)
      refine l_nil ?_
      refine q_then ?_
      replace M : Mem [] W w (((b9, .cells (ovC y).toArray 58 (0, 0)) :: ([(b8, .cells [.int .i64 st.1].toArray 3 (0, 0)), (b7, .cells (cxC st.2).toArray 125 (0, 0)), (b6, .cells [.int .i64 (n : Int)].toArray 3 (0, 0))] ++ (mksD Ds ++ ent))) ++ p) := M
      refine ⟨_, M, ?_⟩
      clear M
      intro w p M
      replace M := M.perm (l' := (b9, .cells (ovC y).toArray 58 (0, 0)) :: (b8, .cells [.int .i64 st.1].toArray 3 (0, 0)) :: (b7, .cells (cxC st.2).toArray 125 (0, 0)) :: (b6, .cells [.int .i64 (n : Int)].toArray 3 (0, 0)) :: (p ++ (mksD Ds ++ ent))) (by classical exact List.perm_iff_count.2 fun _ => by simp only [List.count_append, List.count_cons, List.count_nil, Nat.add_zero, Nat.zero_add] <;> ac_rfl)
      replace F := F.only [9, 8, 7, 6] rfl
      with_reducible refine c_block ?_
      with_reducible refine c_seq ?_
      with_reducible refine c_region ?_
      refine stepD rfl F rfl (o_fieldAddr (F.ev rfl) ?_); clear F; clear a; intro a F
      refine stepD rfl F rfl (o_load1 M (F.ev rfl) (by repeat (first | exact .here | apply Has.there)) (by first | assumption | rfl) ?_); clear F; clear a; intro a F
      (refine stepD rfl F rfl (o_makeFunc (F.evs (xs := []) rfl) (F.evs (xs := [.tmp 6]) rfl) ?_); clear F; clear a; intro a F)
      have hcl : ∀ w' (l : CInf), Ext [] w w' → l ∈ y.o.cs → Cal Try.prog 97 [.agg (ciC l).toArray, .pointer (some ⟨b6, 0, none⟩)].toArray w' fun v w'' => v = .bool (l.id == (n : Int)) ∧ Ext [] w' w'' := fun w' l E hl =>
        con1_c l (hyo.2.2 l hl) n w' ((M.later E).heap (.there (.there (.there .here))))
      (refine stepD rfl F rfl (o_call (F.ev rfl) (F.evs rfl) (Cal.mono (indexC_c _ (hSc.later M.ext) hyo.2.2 (by omega) 97 [.pointer (some ⟨b6, 0, none⟩)] (fun c => c.id == (n : Int)) hcl) ?_)); clear F; clear a; rintro _ w ⟨rfl, hE⟩ a F; replace M := M.later hE; clear hE hcl)
      have fin : ∀ {w : World} {st' : Int × Ctx} {o1 : List (Nat × Obj)}, ctxF n ((pre ++ [y]).map (·.o)) = st' → Mem [] W w (o1 ++ ((b9, .cells (ovC y).toArray 58 (0, 0)) :: (b8, .cells [.int .i64 st'.1].toArray 3 (0, 0)) :: (b7, .cells (cxC st'.2).toArray 125 (0, 0)) :: (b6, .cells [.int .i64 (n : Int)].toArray 3 (0, 0)) :: (p ++ (mksD Ds ++ ent)))) → ∃ l, (∃ st, st = ctxF n ((pre ++ [y]).map (·.o)) ∧ l = [(b8, .cells [.int .i64 st.1].toArray 3 (0, 0)), (b7, .cells (cxC st.2).toArray 125 (0, 0)), (b6, .cells [.int .i64 (n : Int)].toArray 3 (0, 0))] ++ (mksD Ds ++ ent)) ∧ Mem [] W w (l ++ p) := by
        intro w st' o1 h M
        refine ⟨_, ⟨st', h.symm, rfl⟩, ?_⟩
        refine (M.perm (l' := (([(b8, .cells [.int .i64 st'.1].toArray 3 (0, 0)), (b7, .cells (cxC st'.2).toArray 125 (0, 0)), (b6, .cells [.int .i64 (n : Int)].toArray 3 (0, 0))] ++ (mksD Ds ++ ent)) ++ p) ++ (o1 ++ [(b9, .cells (ovC y).toArray 58 (0, 0))])) (by classical exact List.perm_iff_count.2 fun _ => by simp only [List.count_append, List.count_cons, List.count_nil, Nat.add_zero, Nat.zero_add] <;> ac_rfl)).sub (List.sublist_append_left _ _)
      rcases findI_find (p := fun c : CInf => c.id == (n : Int)) (ls := y.o.cs) with ⟨h1, h2⟩ | ⟨i, hi, h1, h2⟩
      · rw [h1] at F
        have hs : ctxS n st y.o = st := by unfold ctxS; rw [h2]
        refine stepD rfl F rfl (o_assign (F.ev rfl) ?_); clear F; clear a; intro a F
        with_reducible refine l_nil ?_
        with_reducible refine q_then ?_
        with_reducible refine c_seq ?_
        with_reducible refine c_seq ?_
        with_reducible refine c_region ?_
        refine stepD rfl F rfl (o_move (F.ev rfl) ?_); clear F; clear a; intro a F
        refine stepD rfl F rfl (o_lssT (F.ev rfl) (F.ev rfl) (by omega) ?_); clear F; clear a; intro a F
        refine stepD rfl F rfl (o_move (F.ev rfl) ?_); clear F; clear a; intro a F
        refine stepOff F rfl rfl rfl rfl ?_; clear F; clear a; intro a F
        refine stepOff F rfl rfl rfl rfl ?_; clear F; clear a; intro a F
        refine stepOff F rfl rfl rfl rfl ?_; clear F; clear a; intro a F
        refine stepOff F rfl rfl rfl rfl ?_; clear F; clear a; intro a F
        refine stepD rfl F rfl (o_pickT (F.ev rfl) (F.ev rfl) ?_); clear F; clear a; intro a F
        with_reducible refine l_nil ?_
        with_reducible refine q_then ?_
        refine c_true F rfl rfl ?_
        with_reducible refine c_exit ?_
        with_reducible refine q_thenX ?_
        with_reducible refine q_inBX ?_
        exact fin (o1 := []) (hnext.trans hs) M
      · rw [h1] at F
        by_cases hle : y.o.h.ver ≤ st.1
        · have hs : ctxS n st y.o = st := by unfold ctxS; rw [h2]; simp only; rw [if_neg (by omega)]
          refine stepD rfl F rfl (o_assign (F.ev rfl) ?_); clear F; clear a; intro a F
          with_reducible refine l_nil ?_
          with_reducible refine q_then ?_
          with_reducible refine c_seq ?_
          with_reducible refine c_seq ?_
          with_reducible refine c_region ?_
          refine stepD rfl F rfl (o_move (F.ev rfl) ?_); clear F; clear a; intro a F
          refine stepD rfl F rfl (o_lssF (F.ev rfl) (F.ev rfl) (by omega) ?_); clear F; clear a; intro a F
          refine stepD rfl F rfl (o_move (F.ev rfl) ?_); clear F; clear a; intro a F
          refine stepG rfl F rfl rfl rfl (o_fieldAddr (F.ev rfl) ?_); clear F; clear a; intro a F
          refine stepG rfl F rfl rfl rfl (o_load1 M (F.ev rfl) (by repeat (first | exact .here | apply Has.there)) (by first | assumption | rfl) ?_); clear F; clear a; intro a F
          refine stepG rfl F rfl rfl rfl (o_load1 M (F.ev rfl) (by repeat (first | exact .here | apply Has.there)) (by first | assumption | rfl) ?_); clear F; clear a; intro a F
          refine stepG rfl F rfl rfl rfl (o_leqT (F.ev rfl) (F.ev rfl) (by omega) ?_); clear F; clear a; intro a F
          refine stepD rfl F rfl (o_pickF (F.ev rfl) (F.ev rfl) ?_); clear F; clear a; intro a F
          with_reducible refine l_nil ?_
          with_reducible refine q_then ?_
          refine c_true F rfl rfl ?_
          with_reducible refine c_exit ?_
          with_reducible refine q_thenX ?_
          with_reducible refine q_inBX ?_
          exact fin (o1 := []) (hnext.trans hs) M
        · obtain ⟨b', o', cs', t', fz', rfl, hb', hs'⟩ := hm1 (by omega)
          have hcm : y.o.cs[i] ∈ y.o.cs := List.getElem_mem hi
          have f1 : seg cs' (o' + ((i : Nat) : Int).toNat * 20) 20 = some (ciC y.o.cs[i]) := seg_el (cis_len hyo.2.2) hs' hi (by omega)
          generalize y.o.cs[i] = c at *
          have hci : IsCi c := hyo.2.2 c hcm
          have hs : ctxS n st y.o = (y.o.h.ver, ctxOf n c y.o) := by unfold ctxS; rw [h2]; simp only; rw [if_pos (by omega)]
          have hcx : IsCx (ctxOf n c y.o) := hci
          have g1 := ci_pre hci
          have g2 := ci_cmp hci
          refine stepD rfl F rfl (o_assign (F.ev rfl) ?_); clear F; clear a; intro a F
          with_reducible refine l_nil ?_
          with_reducible refine q_then ?_
          with_reducible refine c_seq ?_
          with_reducible refine c_seq ?_
          with_reducible refine c_region ?_
          refine stepD rfl F rfl (o_move (F.ev rfl) ?_); clear F; clear a; intro a F
          refine stepD rfl F rfl (o_lssF (F.ev rfl) (F.ev rfl) (by omega) ?_); clear F; clear a; intro a F
          refine stepD rfl F rfl (o_move (F.ev rfl) ?_); clear F; clear a; intro a F
          refine stepG rfl F rfl rfl rfl (o_fieldAddr (F.ev rfl) ?_); clear F; clear a; intro a F
          refine stepG rfl F rfl rfl rfl (o_load1 M (F.ev rfl) (by repeat (first | exact .here | apply Has.there)) (by first | assumption | rfl) ?_); clear F; clear a; intro a F
          refine stepG rfl F rfl rfl rfl (o_load1 M (F.ev rfl) (by repeat (first | exact .here | apply Has.there)) (by first | assumption | rfl) ?_); clear F; clear a; intro a F
          refine stepG rfl F rfl rfl rfl (o_leqF (F.ev rfl) (F.ev rfl) (by omega) ?_); clear F; clear a; intro a F
          refine stepD rfl F rfl (o_pickF (F.ev rfl) (F.ev rfl) ?_); clear F; clear a; intro a F
          with_reducible refine l_nil ?_
          with_reducible refine q_then ?_
          refine c_false F rfl rfl ?_
          with_reducible refine c_skip ?_
          with_reducible refine q_then ?_
          with_reducible refine c_seq ?_
          with_reducible refine c_region ?_
          refine stepD rfl F rfl (o_fieldAddr (F.ev rfl) ?_); clear F; clear a; intro a F
          refine stepD rfl F rfl (o_load1 M (F.ev rfl) (by repeat (first | exact .here | apply Has.there)) (by first | assumption | rfl) ?_); clear F; clear a; intro a F
          refine stepD rfl F rfl (o_move (F.ev rfl) ?_); clear F; clear a; intro a F
          refine stepD rfl F rfl (o_indexSl (F.ev rfl) (F.ev rfl) (by omega) (by omega) ?_); clear F; clear a; intro a F
          refine stepD rfl F rfl (o_loadWA M (F.ev rfl) (by assumption) (by first | assumption | rfl) ?_); clear F; clear a; intro a F
          (refine stepD rfl F rfl (o_alloc M ?_); clear F; clear M; intro b11 w M a F)
          (refine stepN rfl F (o_storeA M (F.ev rfl) (F.ev rfl) (ci_len hci) (ci_one _)  (by repeat (first | exact .here | apply Has.there))  (put_all (by rw [ci_len hci]; rfl)) (by repeat (first | exact .here | apply Upd.there)) ?_); clear F; clear M; intro w M a F)
          with_reducible refine l_nil ?_
          with_reducible refine q_then ?_
          with_reducible refine c_seq ?_
          with_reducible refine c_region ?_
          refine stepD rfl F rfl (o_fieldAddr (F.ev rfl) ?_); clear F; clear a; intro a F
          refine stepD rfl F rfl (o_load1 M (F.ev rfl) (by repeat (first | exact .here | apply Has.there)) (by first | assumption | rfl) ?_); clear F; clear a; intro a F
          (refine stepN rfl F (o_store1 M (F.ev rfl) (F.ev rfl) rfl (by repeat (first | exact .here | apply Has.there)) (by rfl) (by repeat (first | exact .here | apply Upd.there)) ?_); clear F; clear M; intro w M a F)
          with_reducible refine l_nil ?_
          with_reducible refine q_then ?_
          with_reducible refine c_region ?_
          refine stepD rfl F rfl (o_load1 M (F.ev rfl) (by repeat (first | exact .here | apply Has.there)) (by first | assumption | rfl) ?_); clear F; clear a; intro a F
          refine stepD rfl F rfl (o_fieldAddr (F.ev rfl) ?_); clear F; clear a; intro a F
          refine stepD rfl F rfl (o_loadA M (F.ev rfl) (by repeat (first | exact .here | apply Has.there)) (by first | assumption | rfl) ?_); clear F; clear a; intro a F
          refine stepD rfl F rfl (o_fieldAddr (F.ev rfl) ?_); clear F; clear a; intro a F
          refine stepD rfl F rfl (o_load1 M (F.ev rfl) (by repeat (first | exact .here | apply Has.there)) (by first | assumption | rfl) ?_); clear F; clear a; intro a F
          refine stepD rfl F rfl (o_fieldAddr (F.ev rfl) ?_); clear F; clear a; intro a F
          refine stepD rfl F rfl (o_load1 M (F.ev rfl) (by repeat (first | exact .here | apply Has.there)) (by first | assumption | rfl) ?_); clear F; clear a; intro a F
          (refine stepD rfl F rfl (o_build F rfl (cx_build hcx) ?_); clear F; clear a; intro a F)
          (refine stepN rfl F (o_storeA M (F.ev rfl) (F.ev rfl) (cx_len hcx) (cx_one _)  (by repeat (first | exact .here | apply Has.there))  (put_all (by rw [cx_len hcx, cx_len hsx])) (by repeat (first | exact .here | apply Upd.there)) ?_); clear F; clear M; intro w M a F)
          with_reducible refine l_nil ?_
          with_reducible refine q_inB ?_
          exact fin (o1 := [_]) (hnext.trans hs) M
    case done =>
      clear F M
      rintro D ys _ p w a rfl ⟨st, hst, rfl⟩ M F
      rw [curX_map] at hst
      have hsx : IsCx st.2 := by
        rw [hst]
        exact ctxF_is fun o ho => by
          obtain ⟨z, h1, rfl⟩ := List.mem_map.1 (List.mem_filter.1 ho).1
          exact hx z h1
      have k2 := cx_all hsx
      have hul := ctxUp_len (curO (xs.map (·.o)) now) n
      have hst2 := ctxUp_step (curO (xs.map (·.o)) now) n
      replace M : Mem [] W w ((b8, .cells [.int .i64 st.1].toArray 3 (0, 0)) :: (b7, .cells (cxC st.2).toArray 125 (0, 0)) :: (b6, .cells [.int .i64 (n : Int)].toArray 3 (0, 0)) :: (p ++ (mksD (D :: Ds) ++ ent))) := M.perm (l' := (b8, .cells [.int .i64 st.1].toArray 3 (0, 0)) :: (b7, .cells (cxC st.2).toArray 125 (0, 0)) :: (b6, .cells [.int .i64 (n : Int)].toArray 3 (0, 0)) :: (p ++ ((D, .deferred (some [])) :: (mksD Ds ++ ent)))) (by classical exact List.perm_iff_count.2 fun _ => by simp only [List.count_append, List.count_cons, List.count_nil, Nat.add_zero, Nat.zero_add] <;> ac_rfl)
      by_cases hge : 0 ≤ st.1
      · have hT : ctxT (n : Int) (curO (xs.map (·.o)) now) = [st.2] := by unfold ctxT; rw [← hst, if_pos hge]
        rw [hT] at hst2
        with_reducible refine q_inB ?_
        with_reducible refine q_then ?_
        with_reducible refine c_seq ?_
        with_reducible refine c_region ?_
        refine stepD rfl F rfl (o_load1 M (F.ev rfl) (by repeat (first | exact .here | apply Has.there)) (by first | assumption | rfl) ?_); clear F; clear a; intro a F
        refine stepD rfl F rfl (o_geqT (F.ev rfl) (F.ev rfl) (by omega) ?_); clear F; clear a; intro a F
        with_reducible refine l_nil ?_
        with_reducible refine q_then ?_
        refine c_true F rfl rfl ?_
        with_reducible refine c_region ?_
        refine stepD rfl F rfl (o_move (F.ev rfl) ?_); clear F; clear a; intro a F
        refine stepD rfl F rfl (o_loadA M (F.ev rfl) (by repeat (first | exact .here | apply Has.there)) (by first | assumption | rfl) ?_); clear F; clear a; intro a F
        (refine stepD rfl F rfl (o_buildSlice F M rfl rfl rfl (cx_build1 hsx) ?_); clear F; clear M; intro b70 w M a F)
        (refine stepD rfl F rfl (o_append hO M (.cons (.cons (.cons (.cons (.app (.app .here)))))) (F.ev rfl) (F.ev rfl) (SrcOf.cells' (M.heap .here) (sg_all (by rw [cx_len hsx])) (cx_one _)) (by omega) (by omega) ?_); clear F; clear M; clear hO; intro u2 ent2 w hO M a F)
        refine stepD rfl F rfl (o_assign (F.ev rfl) ?_); clear F; clear a; intro a F
        with_reducible refine l_nil ?_
        with_reducible refine q_inB ?_
        with_reducible refine q_then ?_
        with_reducible refine c_region ?_
        refine stepD rfl F rfl (o_add (F.ev rfl) (F.ev rfl) (w_i64 (by omega) (by omega)) ?_); clear F; clear a; intro a F
        refine stepD rfl F rfl (o_move (F.ev rfl) ?_); clear F; clear a; intro a F
        with_reducible refine l_nil ?_
        with_reducible refine q_then ?_
        exact ⟨_, by omega, n + 1, u2, ent2, D :: Ds, rfl, by omega, by rw [hst2, List.length_append]; show OwnS _ 20 _ _ (encL cxC (_ ++ [st.2])) _; rw [encL_app, encL_one]; exact hO, F.only [20, 5, 0, 1] rfl, (M.sub (.cons _ (.cons _ (.cons _ (.cons _ (List.sublist_append_right _ _))))))⟩
      · have hT : ctxT (n : Int) (curO (xs.map (·.o)) now) = [] := by unfold ctxT; rw [← hst, if_neg hge]
        rw [hT, List.append_nil] at hst2
        with_reducible refine q_inB ?_
        with_reducible refine q_then ?_
        with_reducible refine c_seq ?_
        with_reducible refine c_region ?_
        refine stepD rfl F rfl (o_load1 M (F.ev rfl) (by repeat (first | exact .here | apply Has.there)) (by first | assumption | rfl) ?_); clear F; clear a; intro a F
        refine stepD rfl F rfl (o_geqF (F.ev rfl) (F.ev rfl) (by omega) ?_); clear F; clear a; intro a F
        with_reducible refine l_nil ?_
        with_reducible refine q_then ?_
        refine c_false F rfl rfl ?_
        with_reducible refine c_skip ?_
        with_reducible refine q_inB ?_
        with_reducible refine q_then ?_
        with_reducible refine c_region ?_
        refine stepD rfl F rfl (o_add (F.ev rfl) (F.ev rfl) (w_i64 (by omega) (by omega)) ?_); clear F; clear a; intro a F
        refine stepD rfl F rfl (o_move (F.ev rfl) ?_); clear F; clear a; intro a F
        with_reducible refine l_nil ?_
        with_reducible refine q_then ?_
        exact ⟨_, by omega, n + 1, _, ent, D :: Ds, rfl, by omega, by rw [hst2]; exact hO, F.only [20, 5, 0, 1] rfl, (M.sub (.cons _ (.cons _ (.cons _ (List.sublist_append_right _ _)))))⟩
  · obtain rfl : n = 16 := by omega
    with_reducible refine c_seq ?_
    with_reducible refine c_region ?_
    refine stepD rfl F rfl (o_lssF (F.ev rfl) (F.ev rfl) (by omega) ?_); clear F; clear a; intro a F
    with_reducible refine l_nil ?_
    with_reducible refine q_then ?_
    with_reducible refine c_seq ?_
    refine c_false F rfl rfl ?_
    with_reducible refine c_exit ?_
    with_reducible refine q_thenX ?_
    with_reducible refine q_thenX ?_
    with_reducible refine q_inBX ?_
    with_reducible refine q_then ?_
    with_reducible refine c_seq ?_
    with_reducible refine c_region ?_
    refine stepD rfl F rfl (o_move (F.ev rfl) ?_); clear F; clear a; intro a F
    refine stepD rfl F rfl (o_assign (F.ev rfl) ?_); clear F; clear a; intro a F
    with_reducible refine l_nil ?_
    with_reducible refine q_then ?_
    with_reducible refine c_ret ?_
    exact p_retN Ds F M rfl fun w' M' => ⟨.cons (.tmp (F.ev rfl)) .nil, hO.slAt M' fun p hp => hp, M'.ext⟩
end Go.Proofs.Ytainnefmobfcjaa
/-! K8 -/
namespace Go.Proofs.Ytainnefmobfcjaa
set_option linter.unusedVariables false
set_option linter.unusedSimpArgs false
open Go.RowKit
attribute [local irreducible] OpTo wpListIn Code.wpIn MW Cal
/-- what the j first contexts of an offer make of the state -/
def partS (n now : Int) (st : Int × Ctx) (o : Off) (j : Nat) : Int × Ctx := if now < o.h.til then (match (o.cs.take j).find? (fun c => c.id == n) with
  | none => st
  | some c => if st.1 < o.h.ver then (o.h.ver, ctxOf n c o) else st) else st
theorem partS_zero (n now : Int) (st : Int × Ctx) (o : Off) : partS n now st o 0 = st := by unfold partS; simp
theorem partS_all (n now : Int) (st : Int × Ctx) (o : Off) : partS n now st o o.cs.length = if now < o.h.til then ctxS n st o else st := by
  simp only [partS, ctxS, List.take_length] <;> (by_cases h : now < o.h.til <;> simp only [h, if_true, if_false] <;> (cases o.cs.find? (fun c => c.id == n) <;> rfl))
theorem partS_old {n now : Int} {st : Int × Ctx} {o : Off} (h : o.h.til ≤ now) (j : Nat) : partS n now st o j = st := by unfold partS; rw [if_neg (by omega)]
theorem find_take {n : Int} {cs : List CInf} {j : Nat} (hj : j < cs.length) : (cs.take (j + 1)).find? (fun c => c.id == n) = ((cs.take j).find? fun c => c.id == n).or (if cs[j].id = n then some cs[j] else none) := by
  rw [List.take_add_one, List.getElem?_eq_getElem hj, List.find?_append]
  congr 1
  by_cases h : cs[j].id = n
  · simp [h]
  · simp [h]
theorem partS_skip {n now : Int} {st : Int × Ctx} {o : Off} {j : Nat} (hj : j < o.cs.length) (h : ¬ o.cs[j].id = n) : partS n now st o (j + 1) = partS n now st o j := by
  have e := find_take (n := n) hj
  rw [if_neg h, Option.or_none] at e
  unfold partS
  rw [e]
theorem partS_keep {n now : Int} {st : Int × Ctx} {o : Off} {j : Nat} (hj : j < o.cs.length) (ht : now < o.h.til) (h : o.h.ver ≤ (partS n now st o j).1) : partS n now st o (j + 1) = partS n now st o j := by
  have e := find_take (n := n) hj
  simp only [partS, if_pos ht] at h ⊢
  rw [e]
  cases hf : (o.cs.take j).find? fun c => c.id == n with
  | some c => simp
  | none =>
    rw [hf] at h
    simp only at h
    rw [Option.none_or]
    by_cases hc : o.cs[j].id = n
    · rw [if_pos hc]
      simp only
      rw [if_neg (by omega)]
    · rw [if_neg hc]
theorem partS_new {n now : Int} {st : Int × Ctx} {o : Off} {j : Nat} (hj : j < o.cs.length) (ht : now < o.h.til) (hid : o.cs[j].id = n) (h : (partS n now st o j).1 < o.h.ver) : partS n now st o (j + 1) = (o.h.ver, ctxOf n o.cs[j] o) := by
  have e := find_take (n := n) hj
  rw [if_pos hid] at e
  simp only [partS, if_pos ht] at h ⊢
  rw [e]
  cases hf : (o.cs.take j).find? fun c => c.id == n with
  | some c =>
    rw [hf] at h
    simp only at h
    split at h
    · simp at h
    · omega
  | none =>
    rw [hf] at h
    simp only at h
    rw [Option.none_or]
    simp only
    rw [if_pos h]
theorem partS_is {n now : Int} {st : Int × Ctx} {o : Off} (h : IsCx st.2) (ho : IsOff o) (j : Nat) : IsCx (partS n now st o j).2 := by
  unfold partS
  split
  · split
    · exact h
    · rename_i c hc
      split
      · exact ho.2.2 c (List.mem_of_mem_take (List.mem_of_find?_eq_some hc))
      · exact h
  · exact h
set_option maxHeartbeats 8000000 in
theorem rctx_c (xs : List OV) (hx : ∀ x ∈ xs, IsOff x.o) (v : Value) (now : Int) (W : World) (hS : SlAt W 20 v xs.length (encL ovC xs)) (hA : ∀ x ∈ xs, OffAt W x) :
    Cal Try.prog 74 [v, .int .i64 now].toArray W fun r w' => SlAt w' 20 r (ctxsV (xs.map (·.o)) now).length (cxsC (ctxsV (xs.map (·.o)) now)) ∧ Ext [] W w' := by
  cases hv : validL (xs.map (·.o))
  · rw [ctxs_f (by rw [hv]; rfl)]
    refine fn_ofM (n := 73) [] Try.func74 rfl rfl rfl ?_
    intro a w F M hwW
    with_reducible refine c_seq ?_
    with_reducible refine c_region ?_
    refine stepD rfl F rfl (o_assign (F.ev rfl) ?_); clear F; clear a; intro a F
    with_reducible refine l_nil ?_
    with_reducible refine q_then ?_
    with_reducible refine c_seq ?_
    with_reducible refine c_seq ?_
    with_reducible refine c_region ?_
    refine stepD rfl F rfl (o_move (F.ev rfl) ?_); clear F; clear a; intro a F
    (refine stepD rfl F rfl (o_call (F.ev rfl) (F.evs rfl) (Cal.mono (rvalidL_c xs hx _ _ (hS.later M.ext) (fun z hz => (hA z hz).later M.ext)) ?_)); clear F; clear a; rintro _ w ⟨rfl, hE⟩ a F; replace M := M.later hE; clear hE)
    rw [hv] at F
    refine stepD rfl F rfl (o_not (F.ev rfl) ?_); clear F; clear a; intro a F
    refine stepD rfl F rfl (o_move (F.ev rfl) ?_); clear F; clear a; intro a F
    refine stepOff F rfl rfl rfl rfl ?_; clear F; clear a; intro a F
    refine stepOff F rfl rfl rfl rfl ?_; clear F; clear a; intro a F
    refine stepOff F rfl rfl rfl rfl ?_; clear F; clear a; intro a F
    refine stepD rfl F rfl (o_pickT (F.ev rfl) (F.ev rfl) ?_); clear F; clear a; intro a F
    with_reducible refine l_nil ?_
    with_reducible refine q_then ?_
    refine c_true F rfl rfl ?_
    with_reducible refine c_seq ?_
    with_reducible refine c_region ?_
    refine stepD rfl F rfl (o_assign (F.ev rfl) ?_); clear F; clear a; intro a F
    with_reducible refine l_nil ?_
    with_reducible refine q_then ?_
    with_reducible refine c_ret ?_
    with_reducible refine q_thenR ?_
    refine p_ret F rfl (.cons (.tmp (F.ev rfl)) .nil) ?_
    exact ⟨SlAt.nil _ _, M.ext⟩
  cases htm : isTime now
  · rw [ctxs_f (by rw [hv, htm]; rfl)]
    refine fn_ofM (n := 73) [] Try.func74 rfl rfl rfl ?_
    intro a w F M hwW
    with_reducible refine c_seq ?_
    with_reducible refine c_region ?_
    refine stepD rfl F rfl (o_assign (F.ev rfl) ?_); clear F; clear a; intro a F
    with_reducible refine l_nil ?_
    with_reducible refine q_then ?_
    with_reducible refine c_seq ?_
    with_reducible refine c_seq ?_
    with_reducible refine c_region ?_
    refine stepD rfl F rfl (o_move (F.ev rfl) ?_); clear F; clear a; intro a F
    (refine stepD rfl F rfl (o_call (F.ev rfl) (F.evs rfl) (Cal.mono (rvalidL_c xs hx _ _ (hS.later M.ext) (fun z hz => (hA z hz).later M.ext)) ?_)); clear F; clear a; rintro _ w ⟨rfl, hE⟩ a F; replace M := M.later hE; clear hE)
    rw [hv] at F
    refine stepD rfl F rfl (o_not (F.ev rfl) ?_); clear F; clear a; intro a F
    refine stepD rfl F rfl (o_move (F.ev rfl) ?_); clear F; clear a; intro a F
    refine stepG rfl F rfl rfl rfl (o_move (F.ev rfl) ?_); clear F; clear a; intro a F
    (refine stepG rfl F rfl rfl rfl (o_call (F.ev rfl) (F.evs rfl) (Cal.mono (risTime_c now _) ?_)); clear F; clear a; rintro _ w ⟨rfl, hE⟩ a F; replace M := M.later hE; clear hE)
    rw [htm] at F
    refine stepG rfl F rfl rfl rfl (o_not (F.ev rfl) ?_); clear F; clear a; intro a F
    refine stepD rfl F rfl (o_pickF (F.ev rfl) (F.ev rfl) ?_); clear F; clear a; intro a F
    with_reducible refine l_nil ?_
    with_reducible refine q_then ?_
    refine c_true F rfl rfl ?_
    with_reducible refine c_seq ?_
    with_reducible refine c_region ?_
    refine stepD rfl F rfl (o_assign (F.ev rfl) ?_); clear F; clear a; intro a F
    with_reducible refine l_nil ?_
    with_reducible refine q_then ?_
    with_reducible refine c_ret ?_
    with_reducible refine q_thenR ?_
    refine p_ret F rfl (.cons (.tmp (F.ev rfl)) .nil) ?_
    exact ⟨SlAt.nil _ _, M.ext⟩
  rw [ctxs_t (by rw [hv, htm]; rfl)]
  have hlen := validL_len hv
  rw [List.length_map] at hlen
  have hle : ∀ x ∈ xs, (ovC x).length = 20 := fun x h => ov_len (hx x h)
  obtain ⟨q, cap, rfl, hcap, _, hsl, hm⟩ := id hS
  refine fn_ofM (n := 73) [] Try.func74 rfl rfl rfl ?_
  intro a w F M hwW
  with_reducible refine c_seq ?_
  with_reducible refine c_region ?_
  refine stepD rfl F rfl (o_assign (F.ev rfl) ?_); clear F; clear a; intro a F
  with_reducible refine l_nil ?_
  with_reducible refine q_then ?_
  with_reducible refine c_seq ?_
  with_reducible refine c_seq ?_
  with_reducible refine c_region ?_
  refine stepD rfl F rfl (o_move (F.ev rfl) ?_); clear F; clear a; intro a F
  (refine stepD rfl F rfl (o_call (F.ev rfl) (F.evs rfl) (Cal.mono (rvalidL_c xs hx _ _ (hS.later M.ext) (fun z hz => (hA z hz).later M.ext)) ?_)); clear F; clear a; rintro _ w ⟨rfl, hE⟩ a F; replace M := M.later hE; clear hE)
  rw [hv] at F
  refine stepD rfl F rfl (o_not (F.ev rfl) ?_); clear F; clear a; intro a F
  refine stepD rfl F rfl (o_move (F.ev rfl) ?_); clear F; clear a; intro a F
  refine stepG rfl F rfl rfl rfl (o_move (F.ev rfl) ?_); clear F; clear a; intro a F
  (refine stepG rfl F rfl rfl rfl (o_call (F.ev rfl) (F.evs rfl) (Cal.mono (risTime_c now _) ?_)); clear F; clear a; rintro _ w ⟨rfl, hE⟩ a F; replace M := M.later hE; clear hE)
  rw [htm] at F
  refine stepG rfl F rfl rfl rfl (o_not (F.ev rfl) ?_); clear F; clear a; intro a F
  refine stepD rfl F rfl (o_pickF (F.ev rfl) (F.ev rfl) ?_); clear F; clear a; intro a F
  with_reducible refine l_nil ?_
  with_reducible refine q_then ?_
  refine c_false F rfl rfl ?_
  with_reducible refine c_skip ?_
  with_reducible refine q_then ?_
  with_reducible refine c_seq ?_
  with_reducible refine c_region ?_
  refine stepD rfl F rfl (o_assign (F.ev rfl) ?_); clear F; clear a; intro a F
  with_reducible refine l_nil ?_
  with_reducible refine q_then ?_
  with_reducible refine c_seq ?_
  with_reducible refine c_seq ?_
  with_reducible refine c_region ?_
  refine stepD rfl F rfl (o_assign (F.ev rfl) ?_); clear F; clear a; intro a F
  with_reducible refine l_nil ?_
  with_reducible refine q_then ?_
  with_reducible refine c_block ?_
  refine c_loop (fun m a w => ∃ (n : Nat) (sv : Value) (ent : List (Nat × Obj)), m = 16 - n ∧ n ≤ 16 ∧ OwnS 125 20 sv (ctxUp (curO (xs.map (·.o)) now) n).length (cxsC (ctxUp (curO (xs.map (·.o)) now) n)) ent ∧ Frm a 73 [] [(6, .int .i64 (n : Int)), (5, sv), (0, .slice q xs.length cap), (1, .int .i64 now)] ∧ Mem [] W w ent) 16 ⟨0, _, [], rfl, by omega, OwnS.nil _ _, F.only [6, 5, 0, 1] rfl, M⟩ ?_
  clear F M
  rintro m a w ⟨n, sv, ent, hm', hn, hO, F, M⟩
  obtain ⟨sp, sc, rfl⟩ := hO.slice
  have hul := ctxUp_len (curO (xs.map (·.o)) now) n
  generalize hcn : (ctxUp (curO (xs.map (·.o)) now) n).length = cn at *
  by_cases hlt : n < 16
  · with_reducible refine c_seq ?_
    with_reducible refine c_seq ?_
    with_reducible refine c_region ?_
    refine stepD rfl F rfl (o_move (F.ev rfl) ?_); clear F; clear a; intro a F
    refine stepD rfl F rfl (o_lssT (F.ev rfl) (F.ev rfl) (by omega) ?_); clear F; clear a; intro a F
    with_reducible refine l_nil ?_
    with_reducible refine q_then ?_
    refine c_true F rfl rfl ?_
    with_reducible refine c_skip ?_
    with_reducible refine q_then ?_
    with_reducible refine c_seq ?_
    with_reducible refine c_block ?_
    with_reducible refine c_seq ?_
    with_reducible refine c_region ?_
    refine stepD rfl F rfl (o_assign (F.ev rfl) ?_); clear F; clear a; intro a F
    with_reducible refine l_nil ?_
    with_reducible refine q_then ?_
    with_reducible refine c_seq ?_
    with_reducible refine c_region ?_
    (refine stepD rfl F rfl (o_alloc M ?_); clear F; clear M; intro b8 w M a F)
    with_reducible refine l_nil ?_
    with_reducible refine q_then ?_
    with_reducible refine c_seq ?_
    with_reducible refine c_seq ?_
    with_reducible refine c_region ?_
    refine stepD rfl F rfl (o_move (F.ev rfl) ?_); clear F; clear a; intro a F
    refine stepD rfl F rfl (o_lenSl (F.ev rfl) ?_); clear F; clear a; intro a F
    refine stepD rfl F rfl (o_move (F.ev rfl) ?_); clear F; clear a; intro a F
    with_reducible refine l_nil ?_
    with_reducible refine q_then ?_
    with_reducible refine c_block ?_
    refine c_loop (fun m a w => ∃ (i : Nat) (st : Int × Ctx), m = xs.length - i ∧ i ≤ xs.length ∧ st = ctxF n (curO ((xs.take i).map (·.o)) now) ∧ IsCx st.2 ∧ Frm a 73 [] [(27, .int .i64 (i : Int)), (26, .int .i64 xs.length), (25, .slice q xs.length cap), (7, .int .i64 st.1), (8, .pointer (some ⟨b8, 0, none⟩)), (6, .int .i64 (n : Int)), (5, .slice sp cn sc), (0, .slice q xs.length cap), (1, .int .i64 now)] ∧ Mem [] W w ((b8, .cells (cxC st.2).toArray 125 (0, 0)) :: ent)) xs.length ⟨0, (-1, ctxZ), rfl, by omega, rfl, ctxZ_is, F.only [27, 26, 25, 7, 8, 6, 5, 0, 1] rfl, M⟩ ?_
    clear F M
    rintro m1 a w ⟨i, st, hm1', hi, hst, hsx, F, M⟩
    by_cases hlt1 : i < xs.length
    · obtain ⟨b, o, cs, t, fz, rfl, hb, hs⟩ := hm (by omega)
      obtain ⟨y, hy0⟩ : ∃ y, y = xs[i] := ⟨_, rfl⟩
      have hym : y ∈ xs := by rw [hy0]; exact List.getElem_mem hlt1
      have hyo := hx y hym
      have hya := hA y hym
      have hyl := validO_len (validL_each hv (List.mem_map_of_mem hym))
      have f1 : seg cs (o + (i : Int).toNat * 20) 20 = some (ovC y) := by rw [hy0]; exact seg_el hle hs hlt1 (by omega)
      have f2 : (ovC y).length = 20 := ov_len hyo
      have hnext : ctxF n (curO ((xs.take (i + 1)).map (·.o)) now) = partS n now st y.o y.o.cs.length := by
        rw [List.take_add_one, List.getElem?_eq_getElem hlt1, ← hy0, List.map_append, curO_app, partS_all]
        simp only [Option.toList, List.map_cons, List.map_nil]
        by_cases h : now < y.o.h.til
        · rw [show curO [y.o] now = [y.o] by simp [curO, h], ctxF_snoc, ← hst, if_pos h]
        · rw [show curO [y.o] now = [] by simp [curO, h], List.append_nil, ← hst, if_neg h]
      clear hy0
      have hya2 := hya
      obtain ⟨_, ⟨q1, cap1, hu, hc1, _, hl1, hm1⟩⟩ := hya
      have f4 : nth (ovC y) 19 = some (.slice q1 y.o.cs.length cap1) := by rw [← hu]; exact of_cs hyo.1 _ _
      have f5 : nth (ovC y) 16 = some (.int .i64 y.o.h.ver) := of_ver hyo.1 _ _
      have f6 : nth (ovC y) 17 = some (.int .i64 y.o.h.til) := of_til hyo.1 _ _
      with_reducible refine c_seq ?_
      with_reducible refine c_region ?_
      refine stepD rfl F rfl (o_lssT (F.ev rfl) (F.ev rfl) (by omega) ?_); clear F; clear a; intro a F
      with_reducible refine l_nil ?_
      with_reducible refine q_then ?_
      with_reducible refine c_seq ?_
      refine c_true F rfl rfl ?_
      with_reducible refine c_skip ?_
      with_reducible refine q_then ?_
      with_reducible refine c_seq ?_
      with_reducible refine c_block ?_
      with_reducible refine c_seq ?_
      with_reducible refine c_region ?_
      refine stepD rfl F rfl (o_indexSl (F.ev rfl) (F.ev rfl) (by omega) (by omega) ?_); clear F; clear a; intro a F
      refine stepD rfl F rfl (o_loadWA M (F.ev rfl) (by assumption) (by first | assumption | rfl) ?_); clear F; clear a; intro a F
      (refine stepD rfl F rfl (o_alloc M ?_); clear F; clear M; intro b10 w M a F)
      (refine stepN rfl F (o_storeA M (F.ev rfl) (F.ev rfl) (f2) (ov_one hya2)  (by repeat (first | exact .here | apply Has.there))  (put_all (by rw [f2]; rfl)) (by repeat (first | exact .here | apply Upd.there)) ?_); clear F; clear M; intro w M a F)
      with_reducible refine l_nil ?_
      with_reducible refine q_then ?_
      with_reducible refine c_seq ?_
      with_reducible refine c_region ?_
      refine stepD rfl F rfl (o_fieldAddr (F.ev rfl) ?_); clear F; clear a; intro a F
      refine stepD rfl F rfl (o_load1 M (F.ev rfl) (by repeat (first | exact .here | apply Has.there)) (by first | assumption | rfl) ?_); clear F; clear a; intro a F
      refine stepD rfl F rfl (o_lenSl (F.ev rfl) ?_); clear F; clear a; intro a F
      refine stepD rfl F rfl (o_move (F.ev rfl) ?_); clear F; clear a; intro a F
      with_reducible refine l_nil ?_
      with_reducible refine q_then ?_
      with_reducible refine c_block ?_
      refine c_loop (fun m a w => ∃ j : Nat, m = y.o.cs.length - j ∧ j ≤ y.o.cs.length ∧ Frm a 73 [] [(34, .int .i64 (j : Int)), (33, .int .i64 y.o.cs.length), (32, .slice q1 y.o.cs.length cap1), (10, .pointer (some ⟨b10, 0, none⟩)), (27, .int .i64 (i : Int)), (26, .int .i64 xs.length), (25, .slice (some ⟨b, o, none⟩) xs.length cap), (7, .int .i64 (partS n now st y.o j).1), (8, .pointer (some ⟨b8, 0, none⟩)), (6, .int .i64 (n : Int)), (5, .slice sp cn sc), (0, .slice (some ⟨b, o, none⟩) xs.length cap), (1, .int .i64 now)] ∧ Mem [] W w ((b10, .cells (ovC y).toArray 58 (0, 0)) :: (b8, .cells (cxC (partS n now st y.o j).2).toArray 125 (0, 0)) :: ent)) y.o.cs.length ⟨0, rfl, by omega, by rw [partS_zero]; exact F.only [34, 33, 32, 10, 27, 26, 25, 7, 8, 6, 5, 0, 1] rfl, by rw [partS_zero]; exact M⟩ ?_
      clear F M
      rintro m2 a w ⟨j, hm2', hj, F, M⟩
      have hpx := partS_is (n := n) (now := now) hsx hyo j
      by_cases hlt2 : j < y.o.cs.length
      · obtain ⟨b', o', cs', t', fz', rfl, hb', hs'⟩ := hm1 (by omega)
        have hcm : y.o.cs[j] ∈ y.o.cs := List.getElem_mem hlt2
        have g0 : seg cs' (o' + (j : Int).toNat * 20) 20 = some (ciC y.o.cs[j]) := seg_el (cis_len hyo.2.2) hs' hlt2 (by omega)
        have p1 := partS_skip (n := n) (now := now) (st := st) hlt2
        have p2 := partS_keep (n := n) (now := now) (st := st) hlt2
        have p3 := partS_new (n := n) (now := now) (st := st) hlt2
        have p5 : y.o.h.til ≤ now → partS n now st y.o (j + 1) = partS n now st y.o j := fun h => by rw [partS_old h, partS_old h]
        generalize partS n now st y.o j = sj at *
        generalize y.o.cs[j] = c at *
        have hci : IsCi c := hyo.2.2 c hcm
        have g1 := ci_pre hci
        have g2 := ci_cmp hci
        have g3 := ci_id hci
        with_reducible refine c_seq ?_
        with_reducible refine c_region ?_
        refine stepD rfl F rfl (o_lssT (F.ev rfl) (F.ev rfl) (by omega) ?_); clear F; clear a; intro a F
        with_reducible refine l_nil ?_
        with_reducible refine q_then ?_
        with_reducible refine c_seq ?_
        refine c_true F rfl rfl ?_
        with_reducible refine c_skip ?_
        with_reducible refine q_then ?_
        with_reducible refine c_seq ?_
        with_reducible refine c_block ?_
        with_reducible refine c_seq ?_
        with_reducible refine c_region ?_
        refine stepD rfl F rfl (o_indexSl (F.ev rfl) (F.ev rfl) (by omega) (by omega) ?_); clear F; clear a; intro a F
        refine stepD rfl F rfl (o_loadWA M (F.ev rfl) (by assumption) (by first | assumption | rfl) ?_); clear F; clear a; intro a F
        (refine stepD rfl F rfl (o_alloc M ?_); clear F; clear M; intro b12 w M a F)
        (refine stepN rfl F (o_storeA M (F.ev rfl) (F.ev rfl) (ci_len hci) (ci_one _)  (by repeat (first | exact .here | apply Has.there))  (put_all (by rw [ci_len hci]; rfl)) (by repeat (first | exact .here | apply Upd.there)) ?_); clear F; clear M; intro w M a F)
        have fin : ∀ {a : Act} {w : World} {s2 : Int × Ctx}, partS n now st y.o (j + 1) = s2 → Frm a 73 [] [(34, .int .i64 ((j + 1 : Nat) : Int)), (33, .int .i64 y.o.cs.length), (32, .slice (some ⟨b', o', none⟩) y.o.cs.length cap1), (10, .pointer (some ⟨b10, 0, none⟩)), (27, .int .i64 (i : Int)), (26, .int .i64 xs.length), (25, .slice (some ⟨b, o, none⟩) xs.length cap), (7, .int .i64 s2.1), (8, .pointer (some ⟨b8, 0, none⟩)), (6, .int .i64 (n : Int)), (5, .slice sp cn sc), (0, .slice (some ⟨b, o, none⟩) xs.length cap), (1, .int .i64 now)] → Mem [] W w ((b12, .cells (ciC c).toArray 116 (0, 0)) :: (b10, .cells (ovC y).toArray 58 (0, 0)) :: (b8, .cells (cxC s2.2).toArray 125 (0, 0)) :: ent) → ∃ k', k' < m2 ∧ ∃ j : Nat, k' = y.o.cs.length - j ∧ j ≤ y.o.cs.length ∧ Frm a 73 [] [(34, .int .i64 (j : Int)), (33, .int .i64 y.o.cs.length), (32, .slice (some ⟨b', o', none⟩) y.o.cs.length cap1), (10, .pointer (some ⟨b10, 0, none⟩)), (27, .int .i64 (i : Int)), (26, .int .i64 xs.length), (25, .slice (some ⟨b, o, none⟩) xs.length cap), (7, .int .i64 (partS n now st y.o j).1), (8, .pointer (some ⟨b8, 0, none⟩)), (6, .int .i64 (n : Int)), (5, .slice sp cn sc), (0, .slice (some ⟨b, o, none⟩) xs.length cap), (1, .int .i64 now)] ∧ Mem [] W w ((b10, .cells (ovC y).toArray 58 (0, 0)) :: (b8, .cells (cxC (partS n now st y.o j).2).toArray 125 (0, 0)) :: ent) :=
          fun h F M => ⟨_, by omega, j + 1, rfl, by omega, by rw [h]; exact F, by rw [h]; exact M.sub (.cons _ (.refl _))⟩
        by_cases c1 : y.o.h.til ≤ now
        · with_reducible refine l_nil ?_
          with_reducible refine q_then ?_
          with_reducible refine c_seq ?_
          with_reducible refine c_region ?_
          refine stepD rfl F rfl (o_fieldAddr (F.ev rfl) ?_); clear F; clear a; intro a F
          refine stepD rfl F rfl (o_load1 M (F.ev rfl) (by repeat (first | exact .here | apply Has.there)) (by first | assumption | rfl) ?_); clear F; clear a; intro a F
          refine stepD rfl F rfl (o_move (F.ev rfl) ?_); clear F; clear a; intro a F
          refine stepD rfl F rfl (o_gtrF (F.ev rfl) (F.ev rfl) (by omega) ?_); clear F; clear a; intro a F
          refine stepD rfl F rfl (o_move (F.ev rfl) ?_); clear F; clear a; intro a F
          refine stepOff F rfl rfl rfl rfl ?_; clear F; clear a; intro a F
          refine stepOff F rfl rfl rfl rfl ?_; clear F; clear a; intro a F
          refine stepOff F rfl rfl rfl rfl ?_; clear F; clear a; intro a F
          refine stepOff F rfl rfl rfl rfl ?_; clear F; clear a; intro a F
          refine stepD rfl F rfl (o_pickF (F.ev rfl) (F.ev rfl) ?_); clear F; clear a; intro a F
          refine stepD rfl F rfl (o_move (F.ev rfl) ?_); clear F; clear a; intro a F
          refine stepOff F rfl rfl rfl rfl ?_; clear F; clear a; intro a F
          refine stepOff F rfl rfl rfl rfl ?_; clear F; clear a; intro a F
          refine stepOff F rfl rfl rfl rfl ?_; clear F; clear a; intro a F
          refine stepOff F rfl rfl rfl rfl ?_; clear F; clear a; intro a F
          refine stepD rfl F rfl (o_pickF (F.ev rfl) (F.ev rfl) ?_); clear F; clear a; intro a F
          with_reducible refine l_nil ?_
          with_reducible refine q_then ?_
          refine c_false F rfl rfl ?_
          with_reducible refine c_skip ?_
          with_reducible refine q_inB ?_
          with_reducible refine q_then ?_
          with_reducible refine c_region ?_
          refine stepD rfl F rfl (o_add (F.ev rfl) (F.ev rfl) (w_i64 (by omega) (by omega)) ?_); clear F; clear a; intro a F
          refine stepD rfl F rfl (o_move (F.ev rfl) ?_); clear F; clear a; intro a F
          with_reducible refine l_nil ?_
          with_reducible refine q_then ?_
          exact fin (p5 c1) (F.only [34, 33, 32, 10, 27, 26, 25, 7, 8, 6, 5, 0, 1] rfl) M
        replace c1 : now < y.o.h.til := by omega
        by_cases c2 : ¬ c.id = n
        · with_reducible refine l_nil ?_
          with_reducible refine q_then ?_
          with_reducible refine c_seq ?_
          with_reducible refine c_region ?_
          refine stepD rfl F rfl (o_fieldAddr (F.ev rfl) ?_); clear F; clear a; intro a F
          refine stepD rfl F rfl (o_load1 M (F.ev rfl) (by repeat (first | exact .here | apply Has.there)) (by first | assumption | rfl) ?_); clear F; clear a; intro a F
          refine stepD rfl F rfl (o_move (F.ev rfl) ?_); clear F; clear a; intro a F
          refine stepD rfl F rfl (o_gtrT (F.ev rfl) (F.ev rfl) (by omega) ?_); clear F; clear a; intro a F
          refine stepD rfl F rfl (o_move (F.ev rfl) ?_); clear F; clear a; intro a F
          refine stepG rfl F rfl rfl rfl (o_fieldAddr (F.ev rfl) ?_); clear F; clear a; intro a F
          refine stepG rfl F rfl rfl rfl (o_load1 M (F.ev rfl) (by repeat (first | exact .here | apply Has.there)) (by first | assumption | rfl) ?_); clear F; clear a; intro a F
          refine stepG rfl F rfl rfl rfl (o_move (F.ev rfl) ?_); clear F; clear a; intro a F
          refine stepG rfl F rfl rfl rfl (o_eqlF (F.ev rfl) (F.ev rfl) (by omega) ?_); clear F; clear a; intro a F
          refine stepD rfl F rfl (o_pickT (F.ev rfl) (F.ev rfl) ?_); clear F; clear a; intro a F
          refine stepD rfl F rfl (o_move (F.ev rfl) ?_); clear F; clear a; intro a F
          refine stepOff F rfl rfl rfl rfl ?_; clear F; clear a; intro a F
          refine stepOff F rfl rfl rfl rfl ?_; clear F; clear a; intro a F
          refine stepOff F rfl rfl rfl rfl ?_; clear F; clear a; intro a F
          refine stepOff F rfl rfl rfl rfl ?_; clear F; clear a; intro a F
          refine stepD rfl F rfl (o_pickF (F.ev rfl) (F.ev rfl) ?_); clear F; clear a; intro a F
          with_reducible refine l_nil ?_
          with_reducible refine q_then ?_
          refine c_false F rfl rfl ?_
          with_reducible refine c_skip ?_
          with_reducible refine q_inB ?_
          with_reducible refine q_then ?_
          with_reducible refine c_region ?_
          refine stepD rfl F rfl (o_add (F.ev rfl) (F.ev rfl) (w_i64 (by omega) (by omega)) ?_); clear F; clear a; intro a F
          refine stepD rfl F rfl (o_move (F.ev rfl) ?_); clear F; clear a; intro a F
          with_reducible refine l_nil ?_
          with_reducible refine q_then ?_
          exact fin (p1 c2) (F.only [34, 33, 32, 10, 27, 26, 25, 7, 8, 6, 5, 0, 1] rfl) M
        replace c2 := Decidable.not_not.1 c2
        by_cases c3 : y.o.h.ver ≤ sj.1
        · with_reducible refine l_nil ?_
          with_reducible refine q_then ?_
          with_reducible refine c_seq ?_
          with_reducible refine c_region ?_
          refine stepD rfl F rfl (o_fieldAddr (F.ev rfl) ?_); clear F; clear a; intro a F
          refine stepD rfl F rfl (o_load1 M (F.ev rfl) (by repeat (first | exact .here | apply Has.there)) (by first | assumption | rfl) ?_); clear F; clear a; intro a F
          refine stepD rfl F rfl (o_move (F.ev rfl) ?_); clear F; clear a; intro a F
          refine stepD rfl F rfl (o_gtrT (F.ev rfl) (F.ev rfl) (by omega) ?_); clear F; clear a; intro a F
          refine stepD rfl F rfl (o_move (F.ev rfl) ?_); clear F; clear a; intro a F
          refine stepG rfl F rfl rfl rfl (o_fieldAddr (F.ev rfl) ?_); clear F; clear a; intro a F
          refine stepG rfl F rfl rfl rfl (o_load1 M (F.ev rfl) (by repeat (first | exact .here | apply Has.there)) (by first | assumption | rfl) ?_); clear F; clear a; intro a F
          refine stepG rfl F rfl rfl rfl (o_move (F.ev rfl) ?_); clear F; clear a; intro a F
          refine stepG rfl F rfl rfl rfl (o_eqlT (F.ev rfl) (F.ev rfl) (by omega) ?_); clear F; clear a; intro a F
          refine stepD rfl F rfl (o_pickT (F.ev rfl) (F.ev rfl) ?_); clear F; clear a; intro a F
          refine stepD rfl F rfl (o_move (F.ev rfl) ?_); clear F; clear a; intro a F
          refine stepG rfl F rfl rfl rfl (o_fieldAddr (F.ev rfl) ?_); clear F; clear a; intro a F
          refine stepG rfl F rfl rfl rfl (o_load1 M (F.ev rfl) (by repeat (first | exact .here | apply Has.there)) (by first | assumption | rfl) ?_); clear F; clear a; intro a F
          refine stepG rfl F rfl rfl rfl (o_move (F.ev rfl) ?_); clear F; clear a; intro a F
          refine stepG rfl F rfl rfl rfl (o_gtrF (F.ev rfl) (F.ev rfl) (by omega) ?_); clear F; clear a; intro a F
          refine stepD rfl F rfl (o_pickT (F.ev rfl) (F.ev rfl) ?_); clear F; clear a; intro a F
          with_reducible refine l_nil ?_
          with_reducible refine q_then ?_
          refine c_false F rfl rfl ?_
          with_reducible refine c_skip ?_
          with_reducible refine q_inB ?_
          with_reducible refine q_then ?_
          with_reducible refine c_region ?_
          refine stepD rfl F rfl (o_add (F.ev rfl) (F.ev rfl) (w_i64 (by omega) (by omega)) ?_); clear F; clear a; intro a F
          refine stepD rfl F rfl (o_move (F.ev rfl) ?_); clear F; clear a; intro a F
          with_reducible refine l_nil ?_
          with_reducible refine q_then ?_
          exact fin (p2 c1 c3) (F.only [34, 33, 32, 10, 27, 26, 25, 7, 8, 6, 5, 0, 1] rfl) M
        have hcx : IsCx (ctxOf n c y.o) := hci
        with_reducible refine l_nil ?_
        with_reducible refine q_then ?_
        with_reducible refine c_seq ?_
        with_reducible refine c_region ?_
        refine stepD rfl F rfl (o_fieldAddr (F.ev rfl) ?_); clear F; clear a; intro a F
        refine stepD rfl F rfl (o_load1 M (F.ev rfl) (by repeat (first | exact .here | apply Has.there)) (by first | assumption | rfl) ?_); clear F; clear a; intro a F
        refine stepD rfl F rfl (o_move (F.ev rfl) ?_); clear F; clear a; intro a F
        refine stepD rfl F rfl (o_gtrT (F.ev rfl) (F.ev rfl) (by omega) ?_); clear F; clear a; intro a F
        refine stepD rfl F rfl (o_move (F.ev rfl) ?_); clear F; clear a; intro a F
        refine stepG rfl F rfl rfl rfl (o_fieldAddr (F.ev rfl) ?_); clear F; clear a; intro a F
        refine stepG rfl F rfl rfl rfl (o_load1 M (F.ev rfl) (by repeat (first | exact .here | apply Has.there)) (by first | assumption | rfl) ?_); clear F; clear a; intro a F
        refine stepG rfl F rfl rfl rfl (o_move (F.ev rfl) ?_); clear F; clear a; intro a F
        refine stepG rfl F rfl rfl rfl (o_eqlT (F.ev rfl) (F.ev rfl) (by omega) ?_); clear F; clear a; intro a F
        refine stepD rfl F rfl (o_pickT (F.ev rfl) (F.ev rfl) ?_); clear F; clear a; intro a F
        refine stepD rfl F rfl (o_move (F.ev rfl) ?_); clear F; clear a; intro a F
        refine stepG rfl F rfl rfl rfl (o_fieldAddr (F.ev rfl) ?_); clear F; clear a; intro a F
        refine stepG rfl F rfl rfl rfl (o_load1 M (F.ev rfl) (by repeat (first | exact .here | apply Has.there)) (by first | assumption | rfl) ?_); clear F; clear a; intro a F
        refine stepG rfl F rfl rfl rfl (o_move (F.ev rfl) ?_); clear F; clear a; intro a F
        refine stepG rfl F rfl rfl rfl (o_gtrT (F.ev rfl) (F.ev rfl) (by omega) ?_); clear F; clear a; intro a F
        refine stepD rfl F rfl (o_pickT (F.ev rfl) (F.ev rfl) ?_); clear F; clear a; intro a F
        with_reducible refine l_nil ?_
        with_reducible refine q_then ?_
        refine c_true F rfl rfl ?_
        with_reducible refine c_seq ?_
        with_reducible refine c_region ?_
        refine stepD rfl F rfl (o_fieldAddr (F.ev rfl) ?_); clear F; clear a; intro a F
        refine stepD rfl F rfl (o_load1 M (F.ev rfl) (by repeat (first | exact .here | apply Has.there)) (by first | assumption | rfl) ?_); clear F; clear a; intro a F
        refine stepD rfl F rfl (o_assign (F.ev rfl) ?_); clear F; clear a; intro a F
        with_reducible refine l_nil ?_
        with_reducible refine q_then ?_
        with_reducible refine c_region ?_
        refine stepD rfl F rfl (o_move (F.ev rfl) ?_); clear F; clear a; intro a F
        refine stepD rfl F rfl (o_fieldAddr (F.ev rfl) ?_); clear F; clear a; intro a F
        refine stepD rfl F rfl (o_loadA M (F.ev rfl) (by repeat (first | exact .here | apply Has.there)) (by first | assumption | rfl) ?_); clear F; clear a; intro a F
        refine stepD rfl F rfl (o_fieldAddr (F.ev rfl) ?_); clear F; clear a; intro a F
        refine stepD rfl F rfl (o_load1 M (F.ev rfl) (by repeat (first | exact .here | apply Has.there)) (by first | assumption | rfl) ?_); clear F; clear a; intro a F
        refine stepD rfl F rfl (o_fieldAddr (F.ev rfl) ?_); clear F; clear a; intro a F
        refine stepD rfl F rfl (o_load1 M (F.ev rfl) (by repeat (first | exact .here | apply Has.there)) (by first | assumption | rfl) ?_); clear F; clear a; intro a F
        (refine stepD rfl F rfl (o_build F rfl (cx_build hcx) ?_); clear F; clear a; intro a F)
        (refine stepN rfl F (o_storeA M (F.ev rfl) (F.ev rfl) (cx_len hcx) (cx_one _)  (by repeat (first | exact .here | apply Has.there))  (put_all (by rw [cx_len hcx, cx_len hpx])) (by repeat (first | exact .here | apply Upd.there)) ?_); clear F; clear M; intro w M a F)
        with_reducible refine l_nil ?_
        with_reducible refine q_inB ?_
        with_reducible refine q_then ?_
        with_reducible refine c_region ?_
        refine stepD rfl F rfl (o_add (F.ev rfl) (F.ev rfl) (w_i64 (by omega) (by omega)) ?_); clear F; clear a; intro a F
        refine stepD rfl F rfl (o_move (F.ev rfl) ?_); clear F; clear a; intro a F
        with_reducible refine l_nil ?_
        with_reducible refine q_then ?_
        exact fin (p3 c1 c2 (by omega)) (F.only [34, 33, 32, 10, 27, 26, 25, 7, 8, 6, 5, 0, 1] rfl) M
      · obtain rfl : j = y.o.cs.length := by omega
        with_reducible refine c_seq ?_
        with_reducible refine c_region ?_
        refine stepD rfl F rfl (o_lssF (F.ev rfl) (F.ev rfl) (by omega) ?_); clear F; clear a; intro a F
        with_reducible refine l_nil ?_
        with_reducible refine q_then ?_
        with_reducible refine c_seq ?_
        refine c_false F rfl rfl ?_
        with_reducible refine c_exit ?_
        with_reducible refine q_thenX ?_
        with_reducible refine q_thenX ?_
        with_reducible refine q_inBX ?_
        with_reducible refine q_inB ?_
        with_reducible refine q_then ?_
        with_reducible refine c_region ?_
        refine stepD rfl F rfl (o_add (F.ev rfl) (F.ev rfl) (w_i64 (by omega) (by omega)) ?_); clear F; clear a; intro a F
        refine stepD rfl F rfl (o_move (F.ev rfl) ?_); clear F; clear a; intro a F
        with_reducible refine l_nil ?_
        with_reducible refine q_then ?_
        exact ⟨_, by omega, i + 1, _, rfl, by omega, hnext.symm, hpx, F.only [27, 26, 25, 7, 8, 6, 5, 0, 1] rfl, M.sub (.cons _ (.refl _))⟩
    · obtain rfl : i = xs.length := by omega
      rw [List.take_length] at hst
      have hst2 := ctxUp_step (curO (xs.map (·.o)) now) n
      have k2 := cx_all hsx
      by_cases hge : 0 ≤ st.1
      · have hT : ctxT (n : Int) (curO (xs.map (·.o)) now) = [st.2] := by unfold ctxT; rw [← hst, if_pos hge]
        rw [hT] at hst2
        with_reducible refine c_seq ?_
        with_reducible refine c_region ?_
        refine stepD rfl F rfl (o_lssF (F.ev rfl) (F.ev rfl) (by omega) ?_); clear F; clear a; intro a F
        with_reducible refine l_nil ?_
        with_reducible refine q_then ?_
        with_reducible refine c_seq ?_
        refine c_false F rfl rfl ?_
        with_reducible refine c_exit ?_
        with_reducible refine q_thenX ?_
        with_reducible refine q_thenX ?_
        with_reducible refine q_inBX ?_
        with_reducible refine q_then ?_
        with_reducible refine c_seq ?_
        with_reducible refine c_region ?_
        refine stepD rfl F rfl (o_move (F.ev rfl) ?_); clear F; clear a; intro a F
        refine stepD rfl F rfl (o_geqT (F.ev rfl) (F.ev rfl) (by omega) ?_); clear F; clear a; intro a F
        with_reducible refine l_nil ?_
        with_reducible refine q_then ?_
        refine c_true F rfl rfl ?_
        with_reducible refine c_region ?_
        refine stepD rfl F rfl (o_move (F.ev rfl) ?_); clear F; clear a; intro a F
        refine stepD rfl F rfl (o_loadA M (F.ev rfl) (by repeat (first | exact .here | apply Has.there)) (by first | assumption | rfl) ?_); clear F; clear a; intro a F
        (refine stepD rfl F rfl (o_buildSlice F M rfl rfl rfl (cx_build1 hsx) ?_); clear F; clear M; intro b70 w M a F)
        (refine stepD rfl F rfl (o_append hO M (.cons (.cons .here)) (F.ev rfl) (F.ev rfl) (SrcOf.cells' (M.heap .here) (sg_all (by rw [cx_len hsx])) (cx_one _)) (by omega) (by omega) ?_); clear F; clear M; clear hO; intro u2 ent2 w hO M a F)
        refine stepD rfl F rfl (o_assign (F.ev rfl) ?_); clear F; clear a; intro a F
        with_reducible refine l_nil ?_
        with_reducible refine q_inB ?_
        with_reducible refine q_then ?_
        with_reducible refine c_region ?_
        refine stepD rfl F rfl (o_move (F.ev rfl) ?_); clear F; clear a; intro a F
        refine stepD rfl F rfl (o_add (F.ev rfl) (F.ev rfl) (w_i64 (by omega) (by omega)) ?_); clear F; clear a; intro a F
        refine stepD rfl F rfl (o_assign (F.ev rfl) ?_); clear F; clear a; intro a F
        with_reducible refine l_nil ?_
        with_reducible refine q_then ?_
        exact ⟨_, by omega, n + 1, u2, ent2, rfl, by omega, by rw [hst2, List.length_append, hcn]; show OwnS _ 20 _ _ (encL cxC (_ ++ [st.2])) _; rw [encL_app, encL_one]; exact hO, F.only [6, 5, 0, 1] rfl, (M.sub (.cons _ (.cons _ (.refl _))))⟩
      · have hT : ctxT (n : Int) (curO (xs.map (·.o)) now) = [] := by unfold ctxT; rw [← hst, if_neg hge]
        rw [hT, List.append_nil] at hst2
        with_reducible refine c_seq ?_
        with_reducible refine c_region ?_
        refine stepD rfl F rfl (o_lssF (F.ev rfl) (F.ev rfl) (by omega) ?_); clear F; clear a; intro a F
        with_reducible refine l_nil ?_
        with_reducible refine q_then ?_
        with_reducible refine c_seq ?_
        refine c_false F rfl rfl ?_
        with_reducible refine c_exit ?_
        with_reducible refine q_thenX ?_
        with_reducible refine q_thenX ?_
        with_reducible refine q_inBX ?_
        with_reducible refine q_then ?_
        with_reducible refine c_seq ?_
        with_reducible refine c_region ?_
        refine stepD rfl F rfl (o_move (F.ev rfl) ?_); clear F; clear a; intro a F
        refine stepD rfl F rfl (o_geqF (F.ev rfl) (F.ev rfl) (by omega) ?_); clear F; clear a; intro a F
        with_reducible refine l_nil ?_
        with_reducible refine q_then ?_
        refine c_false F rfl rfl ?_
        with_reducible refine c_skip ?_
        with_reducible refine q_inB ?_
        with_reducible refine q_then ?_
        with_reducible refine c_region ?_
        refine stepD rfl F rfl (o_move (F.ev rfl) ?_); clear F; clear a; intro a F
        refine stepD rfl F rfl (o_add (F.ev rfl) (F.ev rfl) (w_i64 (by omega) (by omega)) ?_); clear F; clear a; intro a F
        refine stepD rfl F rfl (o_assign (F.ev rfl) ?_); clear F; clear a; intro a F
        with_reducible refine l_nil ?_
        with_reducible refine q_then ?_
        exact ⟨_, by omega, n + 1, _, ent, rfl, by omega, by rw [hst2, hcn]; exact hO, F.only [6, 5, 0, 1] rfl, (M.sub (.cons _ (.refl _)))⟩
  · obtain rfl : n = 16 := by omega
    rw [← hcn] at F
    with_reducible refine c_seq ?_
    with_reducible refine c_seq ?_
    with_reducible refine c_region ?_
    refine stepD rfl F rfl (o_move (F.ev rfl) ?_); clear F; clear a; intro a F
    refine stepD rfl F rfl (o_lssF (F.ev rfl) (F.ev rfl) (by omega) ?_); clear F; clear a; intro a F
    with_reducible refine l_nil ?_
    with_reducible refine q_then ?_
    refine c_false F rfl rfl ?_
    with_reducible refine c_exit ?_
    with_reducible refine q_thenX ?_
    with_reducible refine q_thenX ?_
    with_reducible refine q_inBX ?_
    with_reducible refine q_then ?_
    with_reducible refine c_seq ?_
    with_reducible refine c_region ?_
    refine stepD rfl F rfl (o_move (F.ev rfl) ?_); clear F; clear a; intro a F
    refine stepD rfl F rfl (o_assign (F.ev rfl) ?_); clear F; clear a; intro a F
    with_reducible refine l_nil ?_
    with_reducible refine q_then ?_
    with_reducible refine c_ret ?_
    refine p_ret F rfl (.cons (.tmp (F.ev rfl)) .nil) ?_
    rw [← hcn] at hO
    exact ⟨hO.slAt M fun p hp => hp, M.ext⟩
end Go.Proofs.Ytainnefmobfcjaa
/-! K9 -/
namespace Go.Proofs.Ytainnefmobfcjaa
set_option linter.unusedVariables false
set_option linter.unusedSimpArgs false
open Go.RowKit
attribute [local irreducible] OpTo wpListIn Code.wpIn MW Cal
theorem ips_len {ls : List (List Int)} (h : ∀ a ∈ ls, IsIP a) : ∀ a ∈ ls, (ipC a).length = 16 := fun a ha => ipC_len (h a ha).len
set_option maxHeartbeats 2000000 in
theorem equalIp_c (ps : List (List Int)) (hps : ∀ p ∈ ps, IsIP p) (hlen : ps.length ≤ 1000) (u v : Value) (W : World) (hu : SlAt W 16 u ps.length (ipsC ps)) (hv : SlAt W 16 v ps.length (ipsC ps)) :
    Cal Try.prog 70 [u, v].toArray W fun r w' => r = .bool true ∧ Ext [] W w' := by
  obtain ⟨q1, cap1, rfl, hc1, hn1, hl1, hm1⟩ := hu
  obtain ⟨q2, cap2, rfl, hc2, hn2, hl2, hm2⟩ := hv
  refine fn_ofM (n := 26) [] Try.func70 rfl rfl rfl ?_
  intro a w F M hwW
  with_reducible refine c_seq ?_
  with_reducible refine c_region ?_
  refine stepD rfl F rfl (o_assign (F.ev rfl) ?_); clear F; clear a; intro a F
  with_reducible refine l_nil ?_
  with_reducible refine q_then ?_
  with_reducible refine c_seq ?_
  with_reducible refine c_seq ?_
  with_reducible refine c_region ?_
  refine stepD rfl F rfl (o_move (F.ev rfl) ?_); clear F; clear a; intro a F
  refine stepD rfl F rfl (o_lenSl (F.ev rfl) ?_); clear F; clear a; intro a F
  refine stepD rfl F rfl (o_move (F.ev rfl) ?_); clear F; clear a; intro a F
  refine stepD rfl F rfl (o_lenSl (F.ev rfl) ?_); clear F; clear a; intro a F
  refine stepD rfl F rfl (o_neqF (F.ev rfl) (F.ev rfl) (by omega) ?_); clear F; clear a; intro a F
  with_reducible refine l_nil ?_
  with_reducible refine q_then ?_
  refine c_false F rfl rfl ?_
  with_reducible refine c_skip ?_
  with_reducible refine q_then ?_
  with_reducible refine c_seq ?_
  with_reducible refine c_seq ?_
  with_reducible refine c_region ?_
  refine stepD rfl F rfl (o_move (F.ev rfl) ?_); clear F; clear a; intro a F
  refine stepD rfl F rfl (o_lenSl (F.ev rfl) ?_); clear F; clear a; intro a F
  refine stepD rfl F rfl (o_move (F.ev rfl) ?_); clear F; clear a; intro a F
  with_reducible refine l_nil ?_
  with_reducible refine q_then ?_
  with_reducible refine c_block ?_
  refine c_loop (fun m a w => ∃ i : Nat, m = ps.length - i ∧ i ≤ ps.length ∧ Frm a 26 [] [(13, .int .i64 i), (12, .int .i64 ps.length), (0, .slice q1 ps.length cap1), (1, .slice q2 ps.length cap2)] ∧ Mem [] W w []) ps.length ⟨0, rfl, by omega, F.only [13, 12, 0, 1] rfl, M⟩ ?_
  clear F M
  rintro m a w ⟨i, hm', hi, F, M⟩
  by_cases hlt : i < ps.length
  · obtain ⟨b, o, cs, t, fz, rfl, hb, hs⟩ := hm1 (by omega)
    obtain ⟨b', o', cs', t', fz', rfl, hb', hs'⟩ := hm2 (by omega)
    obtain ⟨p, hp0⟩ : ∃ p, p = ps[i] := ⟨_, rfl⟩
    have hpi : IsIP p := by rw [hp0]; exact hps _ (List.getElem_mem hlt)
    have f1 : seg cs (o + (i : Int).toNat * 16) 16 = some (ipC p) := by rw [hp0]; exact seg_el (ips_len hps) hs hlt (by omega)
    have f2 : seg cs' (o' + (i : Int).toNat * 16) 16 = some (ipC p) := by rw [hp0]; exact seg_el (ips_len hps) hs' hlt (by omega)
    have f3 := fits_ip hpi.len
    have f4 : eqVs (ipC p) (ipC p) = true := by rw [eqVs_ip p p rfl]; simp
    with_reducible refine c_seq ?_
    with_reducible refine c_region ?_
    refine stepD rfl F rfl (o_lssT (F.ev rfl) (F.ev rfl) (by omega) ?_); clear F; clear a; intro a F
    with_reducible refine l_nil ?_
    with_reducible refine q_then ?_
    with_reducible refine c_seq ?_
    refine c_true F rfl rfl ?_
    with_reducible refine c_skip ?_
    with_reducible refine q_then ?_
    with_reducible refine c_seq ?_
    with_reducible refine c_block ?_
    with_reducible refine c_seq ?_
    with_reducible refine c_region ?_
    refine stepD rfl F rfl (o_move (F.ev rfl) ?_); clear F; clear a; intro a F
    refine stepD rfl F rfl (o_assign (F.ev rfl) ?_); clear F; clear a; intro a F
    with_reducible refine l_nil ?_
    with_reducible refine q_then ?_
    with_reducible refine c_seq ?_
    replace F := F.only [13, 12, 0, 1, 5] rfl
    refine c_draw 8 F (by kernel_rfl) ?_
    intro w1 hE hok
    have M1 := M.later hE
    refine mK hok rfl rfl (fun a' w' F' E' => o_move (F'.ev rfl) ⟨Ext.refl _ _, rfl⟩) ?_
    refine mK hok rfl rfl (fun a' w' F' E' => o_move (F'.ev rfl) ⟨Ext.refl _ _, rfl⟩) ?_
    refine mK hok rfl rfl (fun a' w' F' E' => o_indexSl (F'.ev rfl) (F'.ev rfl) (by omega) (by omega) ⟨Ext.refl _ _, rfl⟩) ?_
    refine mK hok rfl rfl (fun a' w' F' E' => o_loadWA (M1.later E') (F'.ev rfl) (by assumption) (by first | assumption | rfl) ⟨Ext.refl _ _, rfl⟩) ?_
    refine mK hok rfl rfl (fun a' w' F' E' => o_move (F'.ev rfl) ⟨Ext.refl _ _, rfl⟩) ?_
    refine mK hok rfl rfl (fun a' w' F' E' => o_move (F'.ev rfl) ⟨Ext.refl _ _, rfl⟩) ?_
    refine mK hok rfl rfl (fun a' w' F' E' => o_indexSl (F'.ev rfl) (F'.ev rfl) (by omega) (by omega) ⟨Ext.refl _ _, rfl⟩) ?_
    refine mK hok rfl rfl (fun a' w' F' E' => o_loadWA (M1.later E') (F'.ev rfl) (by assumption) (by first | assumption | rfl) ⟨Ext.refl _ _, rfl⟩) ?_
    (refine mDone rfl rfl ?_; clear F; clear M; intro a w F hE2 hX hTT hDD hPP; have M := M1.later hE2; clear M1; clear hX; clear hE2; clear hok; clear hE; clear hTT; clear hDD; clear hPP; (try dsimp only at F))
    refine stepD rfl F rfl (o_neqAF (F.ev rfl) (F.ev rfl) (by first | assumption | rfl) (by first | assumption | rfl) (by assumption) ?_); clear F; clear a; intro a F
    with_reducible refine l_nil ?_
    with_reducible refine q_then ?_
    refine c_false F rfl rfl ?_
    with_reducible refine c_skip ?_
    with_reducible refine q_inB ?_
    with_reducible refine q_then ?_
    with_reducible refine c_region ?_
    refine stepD rfl F rfl (o_add (F.ev rfl) (F.ev rfl) (w_i64 (by omega) (by omega)) ?_); clear F; clear a; intro a F
    refine stepD rfl F rfl (o_move (F.ev rfl) ?_); clear F; clear a; intro a F
    with_reducible refine l_nil ?_
    with_reducible refine q_then ?_
    exact ⟨_, by omega, i + 1, rfl, by omega, F.only [13, 12, 0, 1] rfl, M⟩
  · obtain rfl : i = ps.length := by omega
    with_reducible refine c_seq ?_
    with_reducible refine c_region ?_
    refine stepD rfl F rfl (o_lssF (F.ev rfl) (F.ev rfl) (by omega) ?_); clear F; clear a; intro a F
    with_reducible refine l_nil ?_
    with_reducible refine q_then ?_
    with_reducible refine c_seq ?_
    refine c_false F rfl rfl ?_
    with_reducible refine c_exit ?_
    with_reducible refine q_thenX ?_
    with_reducible refine q_thenX ?_
    with_reducible refine q_inBX ?_
    with_reducible refine q_then ?_
    with_reducible refine c_seq ?_
    with_reducible refine c_region ?_
    refine stepD rfl F rfl (o_assign (F.ev rfl) ?_); clear F; clear a; intro a F
    with_reducible refine l_nil ?_
    with_reducible refine q_then ?_
    with_reducible refine c_ret ?_
    refine p_ret F rfl (.cons (.tmp (F.ev rfl)) .nil) ?_
    exact ⟨rfl, M.ext⟩
set_option maxHeartbeats 2000000 in
theorem equalCx_c (ps : List Ctx) (hps : ∀ p ∈ ps, IsCx p) (hlen : ps.length ≤ 1000) (u v : Value) (W : World) (hu : SlAt W 20 u ps.length (cxsC ps)) (hv : SlAt W 20 v ps.length (cxsC ps)) :
    Cal Try.prog 72 [u, v].toArray W fun r w' => r = .bool true ∧ Ext [] W w' := by
  obtain ⟨q1, cap1, rfl, hc1, hn1, hl1, hm1⟩ := hu
  obtain ⟨q2, cap2, rfl, hc2, hn2, hl2, hm2⟩ := hv
  refine fn_ofM (n := 26) [] Try.func72 rfl rfl rfl ?_
  intro a w F M hwW
  with_reducible refine c_seq ?_
  with_reducible refine c_region ?_
  refine stepD rfl F rfl (o_assign (F.ev rfl) ?_); clear F; clear a; intro a F
  with_reducible refine l_nil ?_
  with_reducible refine q_then ?_
  with_reducible refine c_seq ?_
  with_reducible refine c_seq ?_
  with_reducible refine c_region ?_
  refine stepD rfl F rfl (o_move (F.ev rfl) ?_); clear F; clear a; intro a F
  refine stepD rfl F rfl (o_lenSl (F.ev rfl) ?_); clear F; clear a; intro a F
  refine stepD rfl F rfl (o_move (F.ev rfl) ?_); clear F; clear a; intro a F
  refine stepD rfl F rfl (o_lenSl (F.ev rfl) ?_); clear F; clear a; intro a F
  refine stepD rfl F rfl (o_neqF (F.ev rfl) (F.ev rfl) (by omega) ?_); clear F; clear a; intro a F
  with_reducible refine l_nil ?_
  with_reducible refine q_then ?_
  refine c_false F rfl rfl ?_
  with_reducible refine c_skip ?_
  with_reducible refine q_then ?_
  with_reducible refine c_seq ?_
  with_reducible refine c_seq ?_
  with_reducible refine c_region ?_
  refine stepD rfl F rfl (o_move (F.ev rfl) ?_); clear F; clear a; intro a F
  refine stepD rfl F rfl (o_lenSl (F.ev rfl) ?_); clear F; clear a; intro a F
  refine stepD rfl F rfl (o_move (F.ev rfl) ?_); clear F; clear a; intro a F
  with_reducible refine l_nil ?_
  with_reducible refine q_then ?_
  with_reducible refine c_block ?_
  refine c_loop (fun m a w => ∃ i : Nat, m = ps.length - i ∧ i ≤ ps.length ∧ Frm a 26 [] [(13, .int .i64 i), (12, .int .i64 ps.length), (0, .slice q1 ps.length cap1), (1, .slice q2 ps.length cap2)] ∧ Mem [] W w []) ps.length ⟨0, rfl, by omega, F.only [13, 12, 0, 1] rfl, M⟩ ?_
  clear F M
  rintro m a w ⟨i, hm', hi, F, M⟩
  by_cases hlt : i < ps.length
  · obtain ⟨b, o, cs, t, fz, rfl, hb, hs⟩ := hm1 (by omega)
    obtain ⟨b', o', cs', t', fz', rfl, hb', hs'⟩ := hm2 (by omega)
    obtain ⟨p, hp0⟩ : ∃ p, p = ps[i] := ⟨_, rfl⟩
    have hpi : IsCx p := by rw [hp0]; exact hps _ (List.getElem_mem hlt)
    have f1 : seg cs (o + (i : Int).toNat * 20) 20 = some (cxC p) := by rw [hp0]; exact seg_el (cxs_len hps) hs hlt (by omega)
    have f2 : seg cs' (o' + (i : Int).toNat * 20) 20 = some (cxC p) := by rw [hp0]; exact seg_el (cxs_len hps) hs' hlt (by omega)
    have f3 := cx_fits hpi
    have f4 : eqVs (cxC p) (cxC p) = true := by rw [cx_eq hpi hpi]; simp
    with_reducible refine c_seq ?_
    with_reducible refine c_region ?_
    refine stepD rfl F rfl (o_lssT (F.ev rfl) (F.ev rfl) (by omega) ?_); clear F; clear a; intro a F
    with_reducible refine l_nil ?_
    with_reducible refine q_then ?_
    with_reducible refine c_seq ?_
    refine c_true F rfl rfl ?_
    with_reducible refine c_skip ?_
    with_reducible refine q_then ?_
    with_reducible refine c_seq ?_
    with_reducible refine c_block ?_
    with_reducible refine c_seq ?_
    with_reducible refine c_region ?_
    refine stepD rfl F rfl (o_move (F.ev rfl) ?_); clear F; clear a; intro a F
    refine stepD rfl F rfl (o_assign (F.ev rfl) ?_); clear F; clear a; intro a F
    with_reducible refine l_nil ?_
    with_reducible refine q_then ?_
    with_reducible refine c_seq ?_
    replace F := F.only [13, 12, 0, 1, 5] rfl
    refine c_draw 8 F (by kernel_rfl) ?_
    intro w1 hE hok
    have M1 := M.later hE
    refine mK hok rfl rfl (fun a' w' F' E' => o_move (F'.ev rfl) ⟨Ext.refl _ _, rfl⟩) ?_
    refine mK hok rfl rfl (fun a' w' F' E' => o_move (F'.ev rfl) ⟨Ext.refl _ _, rfl⟩) ?_
    refine mK hok rfl rfl (fun a' w' F' E' => o_indexSl (F'.ev rfl) (F'.ev rfl) (by omega) (by omega) ⟨Ext.refl _ _, rfl⟩) ?_
    refine mK hok rfl rfl (fun a' w' F' E' => o_loadWA (M1.later E') (F'.ev rfl) (by assumption) (by first | assumption | rfl) ⟨Ext.refl _ _, rfl⟩) ?_
    refine mK hok rfl rfl (fun a' w' F' E' => o_move (F'.ev rfl) ⟨Ext.refl _ _, rfl⟩) ?_
    refine mK hok rfl rfl (fun a' w' F' E' => o_move (F'.ev rfl) ⟨Ext.refl _ _, rfl⟩) ?_
    refine mK hok rfl rfl (fun a' w' F' E' => o_indexSl (F'.ev rfl) (F'.ev rfl) (by omega) (by omega) ⟨Ext.refl _ _, rfl⟩) ?_
    refine mK hok rfl rfl (fun a' w' F' E' => o_loadWA (M1.later E') (F'.ev rfl) (by assumption) (by first | assumption | rfl) ⟨Ext.refl _ _, rfl⟩) ?_
    (refine mDone rfl rfl ?_; clear F; clear M; intro a w F hE2 hX hTT hDD hPP; have M := M1.later hE2; clear M1; clear hX; clear hE2; clear hok; clear hE; clear hTT; clear hDD; clear hPP; (try dsimp only at F))
    refine stepD rfl F rfl (o_neqAF (F.ev rfl) (F.ev rfl) (by first | assumption | rfl) (by first | assumption | rfl) (by assumption) ?_); clear F; clear a; intro a F
    with_reducible refine l_nil ?_
    with_reducible refine q_then ?_
    refine c_false F rfl rfl ?_
    with_reducible refine c_skip ?_
    with_reducible refine q_inB ?_
    with_reducible refine q_then ?_
    with_reducible refine c_region ?_
    refine stepD rfl F rfl (o_add (F.ev rfl) (F.ev rfl) (w_i64 (by omega) (by omega)) ?_); clear F; clear a; intro a F
    refine stepD rfl F rfl (o_move (F.ev rfl) ?_); clear F; clear a; intro a F
    with_reducible refine l_nil ?_
    with_reducible refine q_then ?_
    exact ⟨_, by omega, i + 1, rfl, by omega, F.only [13, 12, 0, 1] rfl, M⟩
  · obtain rfl : i = ps.length := by omega
    with_reducible refine c_seq ?_
    with_reducible refine c_region ?_
    refine stepD rfl F rfl (o_lssF (F.ev rfl) (F.ev rfl) (by omega) ?_); clear F; clear a; intro a F
    with_reducible refine l_nil ?_
    with_reducible refine q_then ?_
    with_reducible refine c_seq ?_
    refine c_false F rfl rfl ?_
    with_reducible refine c_exit ?_
    with_reducible refine q_thenX ?_
    with_reducible refine q_thenX ?_
    with_reducible refine q_inBX ?_
    with_reducible refine q_then ?_
    with_reducible refine c_seq ?_
    with_reducible refine c_region ?_
    refine stepD rfl F rfl (o_assign (F.ev rfl) ?_); clear F; clear a; intro a F
    with_reducible refine l_nil ?_
    with_reducible refine q_then ?_
    with_reducible refine c_ret ?_
    refine p_ret F rfl (.cons (.tmp (F.ev rfl)) .nil) ?_
    exact ⟨rfl, M.ext⟩
theorem addrs_len (os : List Off) (now eui : Int) : (addrsV os now eui).length ≤ 1000 := by
  unfold addrsV
  split
  · rename_i h
    simp only [Bool.and_eq_true] at h
    have h1 := insAll_len (rawL (iidE eui) (curO os now))
    have h2 := rawL_len2 (iid := iidE eui) (now := now) h.1.1
    omega
  · simp
theorem addrs_is {os : List Off} (ho : ∀ o ∈ os, IsOff o) (now eui : Int) : ∀ a ∈ addrsV os now eui, IsIP a := by
  unfold addrsV
  split
  · exact insAll_is (rawL_is (xor64_bd _ _) fun o h => ho o (List.mem_filter.1 h).1)
  · simp
theorem ctxs_len (os : List Off) (now : Int) : (ctxsV os now).length ≤ 1000 := by
  unfold ctxsV
  split
  · have := ctxUp_len (curO os now) 16
    omega
  · simp
theorem ctxUp_is {os : List Off} (ho : ∀ o ∈ os, IsOff o) (n : Nat) : ∀ c ∈ ctxUp os n, IsCx c := by
  intro c hc
  obtain ⟨k, _, h⟩ := List.mem_flatMap.1 hc
  unfold ctxT at h
  split at h
  · simp only [List.mem_singleton] at h
    rw [h]; exact ctxF_is ho
  · cases h
theorem ctxs_is {os : List Off} (ho : ∀ o ∈ os, IsOff o) (now : Int) : ∀ c ∈ ctxsV os now, IsCx c := by
  unfold ctxsV
  split
  · exact ctxUp_is (fun o h => ho o (List.mem_filter.1 h).1) 16
  · simp
set_option maxHeartbeats 4000000 in
theorem validates_c (xs : List OV) (hx : ∀ x ∈ xs, IsOff x.o) (v : Value) (now eui : Int) (he : 0 ≤ eui) (W : World) (hS : SlAt W 20 v xs.length (encL ovC xs)) (hA : ∀ x ∈ xs, OffAt W x) :
    Cal Try.prog 36 [v, .int .i64 now, .int .u64 eui].toArray W fun r w' => r = .bool true ∧ Ext [] W w' := by
  have hos : ∀ o ∈ xs.map (·.o), IsOff o := fun o ho => by
    obtain ⟨x, h1, rfl⟩ := List.mem_map.1 ho
    exact hx x h1
  refine fn_ofM (n := 32) [] Try.func36 rfl rfl rfl ?_
  intro a w F M hwW
  with_reducible refine c_seq ?_
  with_reducible refine c_region ?_
  refine stepD rfl F rfl (o_assign (F.ev rfl) ?_); clear F; clear a; intro a F
  with_reducible refine l_nil ?_
  with_reducible refine q_then ?_
  with_reducible refine c_seq ?_
  with_reducible refine c_region ?_
  refine stepD rfl F rfl (o_move (F.ev rfl) ?_); clear F; clear a; intro a F
  (refine stepD rfl F rfl (o_call (F.ev rfl) (F.evs rfl) (Cal.mono (validL_c xs hx _ _ (hS.later M.ext) (fun z hz => (hA z hz).later M.ext)) ?_)); clear F; clear a; rintro _ w ⟨rfl, hE⟩ a F; replace M := M.later hE; clear hE)
  refine stepD rfl F rfl (o_move (F.ev rfl) ?_); clear F; clear a; intro a F
  (refine stepD rfl F rfl (o_call (F.ev rfl) (F.evs rfl) (Cal.mono (rvalidL_c xs hx _ _ (hS.later M.ext) (fun z hz => (hA z hz).later M.ext)) ?_)); clear F; clear a; rintro _ w ⟨rfl, hE⟩ a F; replace M := M.later hE; clear hE)
  generalize validL (xs.map (·.o)) = vb at *
  have hbb : (vb == vb) = true := by cases vb <;> rfl
  (refine stepD rfl F rfl (o_eqlB (F.ev rfl) (F.ev rfl) ?_); clear F; clear a; intro a F)
  rw [hbb] at F
  refine stepD rfl F rfl (o_move (F.ev rfl) ?_); clear F; clear a; intro a F
  refine stepG rfl F rfl rfl rfl (o_move (F.ev rfl) ?_); clear F; clear a; intro a F
  refine stepG rfl F rfl rfl rfl (o_move (F.ev rfl) ?_); clear F; clear a; intro a F
  refine stepG rfl F rfl rfl rfl (o_move (F.ev rfl) ?_); clear F; clear a; intro a F
  (refine stepG rfl F rfl rfl rfl (o_call (F.ev rfl) (F.evs rfl) (Cal.mono (baddr_c xs hx v now eui he _ (hS.later M.ext) (fun z hz => (hA z hz).later M.ext)) ?_)); clear F; clear a; rintro r1 w ⟨h1, hE⟩ a F; replace M := M.later hE; clear hE)
  refine stepG rfl F rfl rfl rfl (o_move (F.ev rfl) ?_); clear F; clear a; intro a F
  refine stepG rfl F rfl rfl rfl (o_move (F.ev rfl) ?_); clear F; clear a; intro a F
  refine stepG rfl F rfl rfl rfl (o_move (F.ev rfl) ?_); clear F; clear a; intro a F
  (refine stepG rfl F rfl rfl rfl (o_call (F.ev rfl) (F.evs rfl) (Cal.mono (raddr_c xs hx v now eui _ (hS.later M.ext) (fun z hz => (hA z hz).later M.ext)) ?_)); clear F; clear a; rintro r2 w ⟨h2, hE⟩ a F; replace M := M.later hE; replace h1 := h1.later hE; clear hE)
  skip
  (refine stepG rfl F rfl rfl rfl (o_call (F.ev rfl) (F.evs rfl) (Cal.mono (equalIp_c (addrsV (xs.map (·.o)) now eui) (addrs_is hos now eui) (addrs_len _ _ _) _ _ _ h1 h2) ?_)); clear F; clear a; rintro _ w ⟨rfl, hE⟩ a F; replace M := M.later hE; clear hE)
  clear h1 h2
  refine stepD rfl F rfl (o_pickT (F.ev rfl) (F.ev rfl) ?_); clear F; clear a; intro a F
  refine stepD rfl F rfl (o_move (F.ev rfl) ?_); clear F; clear a; intro a F
  refine stepG rfl F rfl rfl rfl (o_move (F.ev rfl) ?_); clear F; clear a; intro a F
  refine stepG rfl F rfl rfl rfl (o_move (F.ev rfl) ?_); clear F; clear a; intro a F
  (refine stepG rfl F rfl rfl rfl (o_call (F.ev rfl) (F.evs rfl) (Cal.mono (bctx_c xs hx v now _ (hS.later M.ext) (fun z hz => (hA z hz).later M.ext)) ?_)); clear F; clear a; rintro r3 w ⟨h1, hE⟩ a F; replace M := M.later hE; clear hE)
  refine stepG rfl F rfl rfl rfl (o_move (F.ev rfl) ?_); clear F; clear a; intro a F
  refine stepG rfl F rfl rfl rfl (o_move (F.ev rfl) ?_); clear F; clear a; intro a F
  (refine stepG rfl F rfl rfl rfl (o_call (F.ev rfl) (F.evs rfl) (Cal.mono (rctx_c xs hx v now _ (hS.later M.ext) (fun z hz => (hA z hz).later M.ext)) ?_)); clear F; clear a; rintro r4 w ⟨h2, hE⟩ a F; replace M := M.later hE; replace h1 := h1.later hE; clear hE)
  skip
  (refine stepG rfl F rfl rfl rfl (o_call (F.ev rfl) (F.evs rfl) (Cal.mono (equalCx_c (ctxsV (xs.map (·.o)) now) (ctxs_is hos now) (ctxs_len _ _) _ _ _ h1 h2) ?_)); clear F; clear a; rintro _ w ⟨rfl, hE⟩ a F; replace M := M.later hE; clear hE)
  refine stepD rfl F rfl (o_pickT (F.ev rfl) (F.ev rfl) ?_); clear F; clear a; intro a F
  refine stepD rfl F rfl (o_assign (F.ev rfl) ?_); clear F; clear a; intro a F
  with_reducible refine l_nil ?_
  with_reducible refine q_then ?_
  with_reducible refine c_ret ?_
  refine p_ret F rfl (.cons (.tmp (F.ev rfl)) .nil) ?_
  exact ⟨rfl, M.ext⟩
end Go.Proofs.Ytainnefmobfcjaa

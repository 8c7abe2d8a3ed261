/-
  The walk of AddressHalves: it answers true.
-/
import Derived.Test.YtadnpidadcgdcaaDoorS2
import Derived.Test.YtadnpidadcgdcaaDoorP9
namespace Go.Proofs.YtadnpidadcgdcaaDoor
set_option linter.unusedVariables false
set_option linter.unusedSimpArgs false
open Go.RowKit
attribute [local irreducible] OpTo wpListIn Code.wpIn MW Cal

theorem eqVs_ipS (a : List Int) : eqVs (ipC a) (ipC a) = true := by rw [eqVs_ip a a rfl]; simp
theorem fits_ipS {a : List Int} (ha : a.length = 16) : fitsK [.i .u8, .i .u8, .i .u8, .i .u8, .i .u8, .i .u8, .i .u8, .i .u8, .i .u8, .i .u8, .i .u8, .i .u8, .i .u8, .i .u8, .i .u8, .i .u8] (ipC a) = true := by
  obtain ⟨x0, x1, x2, x3, x4, x5, x6, x7, x8, x9, x10, x11, x12, x13, x14, x15, rfl⟩ := len16 ha
  rfl
/-- the cells of a row of prefixes -/
def pfsC : List (List Int × Int) → List Value
  | [] => []
  | (a, n) :: r => pfC a n ++ pfsC r
theorem seg_pfs : ∀ (L : List (List Int × Int)) (i : Nat), (∀ x ∈ L, x.1.length = 16) → i < L.length → seg (pfsC L) (i * 17) 17 = some (pfC (L.getD i ([], 0)).1 (L.getD i ([], 0)).2)
  | [], i, _, h => by simp at h
  | (a, n) :: r, 0, hl, _ => by
    have h16 := hl (a, n) (by simp)
    have := seg_of [] (pfC a n) (pfsC r)
    rw [pfC_len h16] at this
    simpa [pfsC] using this
  | (a, n) :: r, i + 1, hl, h => by
    have h16 := hl (a, n) (by simp)
    have ih := seg_pfs r i (fun x hx => hl x (by simp [hx])) (by simpa using h)
    rw [seg_eq] at ih ⊢
    have hlen : (pfsC ((a, n) :: r)).length = 17 + (pfsC r).length := by simp [pfsC, pfC_len h16]
    split at ih
    · rename_i hle
      rw [if_pos (by rw [hlen]; omega)]
      rw [show ((a, n) :: r).getD (i + 1) ([], 0) = r.getD i ([], 0) by simp, ← ih]
      congr 1
      show List.take 17 (List.drop ((i + 1) * 17) (pfC a n ++ pfsC r)) = _
      rw [show (i + 1) * 17 = (pfC a n).length + i * 17 by rw [pfC_len h16]; omega, List.drop_append, List.drop_eq_nil_of_le (by omega), List.nil_append, Nat.add_sub_cancel_left]
    · cases ih

def pfZ : List Value := [.int .u8 0, .int .u8 0, .int .u8 0, .int .u8 0, .int .u8 0, .int .u8 0, .int .u8 0, .int .u8 0, .int .u8 0, .int .u8 0, .int .u8 0, .int .u8 0, .int .u8 0, .int .u8 0, .int .u8 0, .int .u8 0, .int .i64 0]
theorem put2 {r a : List Int} (hr : r.length = 16) (ha : a.length = 16) (rn n : Int) : putAll (placesL 2 17) (zerosL pfZ (2 * 17)) [(0, pfC r rn), (1, pfC a n)] = some (pfsC [(r, rn), (a, n)]) := by
  obtain ⟨x0, x1, x2, x3, x4, x5, x6, x7, x8, x9, x10, x11, x12, x13, x14, x15, rfl⟩ := len16 hr
  obtain ⟨y0, y1, y2, y3, y4, y5, y6, y7, y8, y9, y10, y11, y12, y13, y14, y15, rfl⟩ := len16 ha
  rfl
set_option maxHeartbeats 4000000 in
theorem halves_c (p q : List Int) (hp : IsIP p) (hq : IsIP q) (r : List Int) (rn : Int) (hr : IsIP r) (pt : Option Addr) (cap : Nat) (xs : List Int) (v : Int) (hv0 : 0 ≤ v) (hv1 : v ≤ 18446744073709551615) (W : World) (hI : IntsAt W (.slice pt xs.length cap) xs) (hcap : xs.length ≤ cap) (hM : GM W) (hG : GT W) :
    Cal Tryd.prog 6 [.agg (ipC p).toArray, .agg (ipC q).toArray, .agg (pfC r rn).toArray, .slice pt xs.length cap, .int .u64 v].toArray W fun v w' => v = .bool true ∧ Ext [] W w' := by
  have hmem : 0 < xs.length → ∃ b o cs t fz, pt = some ⟨b, o, none⟩ ∧ W.heap[b]? = some (.cells cs t fz) ∧ seg cs.toList o xs.length = some (i64C xs) := fun hl => by
    obtain ⟨p', cap', h1, _, h3⟩ := hI.ex
    cases h1
    exact h3 hl
  have e1 := seg_all (ipC_len hp.len)
  have e2 := seg_all (ipC_len hq.len)
  have e3 := seg_pf hr.len rn
  refine fn_ofM (n := 100) [] Tryd.func6 rfl rfl rfl ?_
  intro a w F M hwW
  refine c_seq ?_
  refine c_region ?_
  (refine stepD rfl F rfl (o_box M (F.ev rfl) rfl ?_); clear F; clear M; intro b5 w M a F)
  (refine stepD rfl F rfl (o_box M (F.ev rfl) rfl ?_); clear F; clear M; intro b6 w M a F)
  (refine stepD rfl F rfl (o_box M (F.ev rfl) rfl ?_); clear F; clear M; intro b7 w M a F)
  refine stepD rfl F rfl (o_assign (F.ev rfl) ?_); clear F; clear a; intro a F
  with_reducible refine l_nil ?_
  with_reducible refine q_then ?_
  with_reducible refine c_seq ?_
  with_reducible refine c_region ?_
  refine stepD rfl F rfl (o_loadA M (F.ev rfl) (by repeat (first | exact .here | apply Has.there)) (by first | assumption | rfl) ?_); clear F; clear a; intro a F
  (refine stepD rfl F rfl (o_call (F.ev rfl) (F.evs rfl) (Cal.mono (split_c p hp _) ?_)); clear F; clear a; rintro _ w ⟨rfl, hE⟩ a F; replace M := M.later hE; clear hE)
  refine stepD rfl F rfl (o_move (F.ev rfl) ?_); clear F; clear a; intro a F
  refine stepD rfl F rfl (o_extract (F.ev rfl) rfl ?_); clear F; clear a; intro a F
  refine stepD rfl F rfl (o_extract (F.ev rfl) rfl ?_); clear F; clear a; intro a F
  refine stepD rfl F rfl (o_assign (F.ev rfl) ?_); clear F; clear a; intro a F
  refine stepD rfl F rfl (o_assign (F.ev rfl) ?_); clear F; clear a; intro a F
  with_reducible refine l_nil ?_
  with_reducible refine q_then ?_
  with_reducible refine c_seq ?_
  with_reducible refine c_region ?_
  refine stepD rfl F rfl (o_loadA M (F.ev rfl) (by repeat (first | exact .here | apply Has.there)) (by first | assumption | rfl) ?_); clear F; clear a; intro a F
  (refine stepD rfl F rfl (o_call (F.ev rfl) (F.evs rfl) (Cal.mono (rsplit_c p hp _) ?_)); clear F; clear a; rintro _ w ⟨rfl, hE⟩ a F; replace M := M.later hE; clear hE)
  refine stepD rfl F rfl (o_move (F.ev rfl) ?_); clear F; clear a; intro a F
  refine stepD rfl F rfl (o_extract (F.ev rfl) rfl ?_); clear F; clear a; intro a F
  refine stepD rfl F rfl (o_extract (F.ev rfl) rfl ?_); clear F; clear a; intro a F
  refine stepD rfl F rfl (o_assign (F.ev rfl) ?_); clear F; clear a; intro a F
  refine stepD rfl F rfl (o_assign (F.ev rfl) ?_); clear F; clear a; intro a F
  with_reducible refine l_nil ?_
  with_reducible refine q_then ?_
  with_reducible refine c_seq ?_
  replace F := F.only [3, 4, 5, 6, 7, 11, 12, 13, 14] rfl
  refine c_drawK (keepOld w.heap.size) [2, 3] [] noT 4 F (by kernel_rfl) rfl (fun h => absurd rfl h) (fun h => absurd rfl h) (noT.stays _) (fun _ _ => trivial) ?_
  intro w1 hE hsz hok hef
  have M1 := M.later hE
  refine mK hok rfl rfl (fun a' w' F' E' => o_loadA (M1.laterOld E' (Nat.le_of_eq hsz)) (F'.ev rfl) (by repeat (first | exact .here | apply Has.there)) (by first | assumption | rfl) ⟨Ext.refl _ _, rfl⟩) ?_
  refine mK hok rfl rfl (fun a' w' F' E' => o_move (F'.ev rfl) ⟨Ext.refl _ _, rfl⟩) ?_
  have hIw : ∀ w', Old w.heap.size w1 w' → Ext [] W w' := fun w' h => (M1.laterOld h (Nat.le_of_eq hsz)).ext
  refine mEX (V := Any) (T' := fun σ w => ∃ bt, σ 2 = .pointer (some ⟨bt, 0, none⟩) ∧ w.heap[bt]? = some (tobj pt (cut400 xs).length cap 0) ∧ W.heap.size ≤ bt ∧ w1.heap.size ≤ bt) hok rfl rfl (fun _ _ _ _ _ => trivial) (fun σ w w' h k => by
    obtain ⟨bt, h1, h2, h3, h4⟩ := h
    exact ⟨bt, h1, by rw [Ext.block k bt (Array.getElem?_eq_some_iff.1 h2).1 (by simp)]; exact h2, h3, h4⟩) (fun a' w' σ' F' E' D' hσ' T' => o_call (F'.ev rfl) (F'.evs rfl) (Cal.mono (new_c xs w' (hI.later (hIw w' E')) hcap) fun x w'' hh => by
      obtain ⟨bt, rfl, N⟩ := hh
      have hb := (N.own (bt, _) (List.mem_cons_self)).resolve_left (by simp)
      exact ⟨Old.of_ext N.ext, trivial, bt, rfl, N.heap .here, Nat.le_trans (hIw w' E').size hb, Nat.le_trans (Old.size E') hb⟩)) ?_
  refine mEKX (v := .agg (pfC (maskI (preA (cut400 xs) 0) (preN (cut400 xs) 0)) (preN (cut400 xs) 0)).toArray) (T' := noT) hok rfl rfl (noT.stays _) (fun a' w' σ' F' E' D' hσ' T' => by
    obtain ⟨bt, h1, h2, h3, h4⟩ := T'
    have hs := hσ' 2 (by simp) (by decide)
    have hev : a'.eval (.tmp 33) = .pointer (some ⟨bt, 0, none⟩) := hs.symm.trans h1
    have hT : TapeS W bt pt (cut400 xs).length (cut400 xs) := tape_new (Ext.refl [] W) h3 hI.bd hmem
    refine o_call (F'.ev rfl) (vs := #[.pointer (some ⟨bt, 0, none⟩)]) (by simp only [List.map_toArray, List.map_cons, List.map_nil, hev]) (Cal.mono (prefix_c w' (hT.later (hIw w' E').any) h2) fun x w'' hh => ⟨?_, hh.1, trivial⟩)
    exact ⟨hh.2.ext.os, hh.2.ext.tape, hh.2.ext.output, hh.2.ext.size, fun k hk hks => hh.2.ext.block k hks (by simp only [List.mem_singleton]; omega)⟩) ?_
  (refine mDone rfl hef ?_; clear F; clear M; intro a w F hE2 hX hTT hDD hPP; have M := M1.laterOld hE2 (Nat.le_of_eq hsz); clear hIw; clear M1; clear hX; clear hE2; clear hok; clear hE; clear hTT; clear hDD; clear hPP; clear hsz; clear hef; (try dsimp only at F))
  generalize hpn : preN (cut400 xs) 0 = n2 at *
  generalize hpa : maskI (preA (cut400 xs) 0) n2 = a2 at *
  have ha2 : IsIP a2 := by
    rw [← hpa]
    exact mask_isIP (beb_ip (head_bd _).1 (nxV_bd _ _ (by omega)).1) n2
  clear hpn hpa
  (refine stepD rfl F rfl (o_buildSlice F M rfl rfl rfl (put2 hr.len ha2.len rn n2) ?_); clear F; clear M; intro b35 w M a F)
  refine stepD rfl F rfl (o_assign (F.ev rfl) ?_); clear F; clear a; intro a F
  with_reducible refine l_nil ?_
  with_reducible refine q_then ?_
  with_reducible refine c_seq ?_
  with_reducible refine c_seq ?_
  with_reducible refine c_region ?_
  refine stepD rfl F rfl (o_assign (F.ev rfl) ?_); clear F; clear a; intro a F
  with_reducible refine l_nil ?_
  with_reducible refine q_then ?_
  with_reducible refine c_block ?_
  replace F := F.only [16, 15, 4, 5, 6, 11, 12, 13, 14] rfl
  obtain ⟨L, hL⟩ : ∃ L : List (List Int × Int), L = [(r, rn), (a2, n2)] := ⟨_, rfl⟩
  have hLl : L.length = 2 := by rw [hL]; rfl
  have hLa : ∀ x ∈ L, IsIP x.1 := fun x hx => by
    rw [hL] at hx
    simp only [List.mem_cons, List.not_mem_nil, or_false] at hx
    rcases hx with rfl | rfl
    · exact hr
    · exact ha2
  rw [← hL] at M
  clear hL
  replace M : Mem [] W w [(b35, .cells (pfsC L).toArray 35 (0, 0)), (b6, .cells (ipC q).toArray 23 (0, 0)), (b5, .cells (ipC p).toArray 23 (0, 0))] := M.sub (.cons_cons _ (.cons _ (.refl _)))
  refine c_loop (fun k a w => ∃ i : Nat, k = 2 - i ∧ i ≤ 2 ∧ Frm a 100 [] [(16, .int .i64 i), (15, .slice (some ⟨b35, 0, none⟩) 2 2), (4, .int .u64 v), (5, .pointer (some ⟨b5, 0, none⟩)), (6, .pointer (some ⟨b6, 0, none⟩)), (11, .int .u64 (beN (p.take 8))), (12, .int .u64 (beN (p.drop 8))), (13, .int .u64 (beN (p.take 8))), (14, .int .u64 (beN (p.drop 8)))] ∧ Mem [] W w [(b35, .cells (pfsC L).toArray 35 (0, 0)), (b6, .cells (ipC q).toArray 23 (0, 0)), (b5, .cells (ipC p).toArray 23 (0, 0))]) 2 ⟨0, rfl, by omega, F.only [16, 15, 4, 5, 6, 11, 12, 13, 14] rfl, M⟩ ?_
  clear F M
  rintro k a w ⟨i, hk, hi, F, M⟩
  by_cases hlt : i < 2
  · obtain ⟨⟨z, zn⟩, hz⟩ : ∃ x, x = L.getD i ([], 0) := ⟨_, rfl⟩
    have hzi : IsIP z := by
      have := hLa (L.getD i ([], 0)) (by rw [List.getD_eq_getElem?_getD, List.getElem?_eq_getElem (by omega)]; exact List.getElem_mem _)
      rw [← hz] at this
      exact this
    have s1 : seg (pfsC L) (0 + (i : Int).toNat * 17) 17 = some (pfC z zn) := by
      have := seg_pfs L i (fun x hx => (hLa x hx).len) (by omega)
      rw [← hz] at this
      rw [show 0 + (i : Int).toNat * 17 = i * 17 by omega]; exact this
    clear hz
    have l1 : ((joinP z zn v).getD zeroIP).length = 16 := by
      unfold joinP
      split
      · simp [joinI, beB_len, hzi.len]
      · rfl
    have l2 := seg_all (ipC_len l1)
    have l3 := eqVs_ipS ((joinP z zn v).getD zeroIP)
    have l4 := fits_ipS l1
    with_reducible refine c_seq ?_
    with_reducible refine c_seq ?_
    with_reducible refine c_region ?_
    refine stepD rfl F rfl (o_move (F.ev rfl) ?_); clear F; clear a; intro a F
    refine stepD rfl F rfl (o_lssT (F.ev rfl) (F.ev rfl) (by omega) ?_); clear F; clear a; intro a F
    with_reducible refine l_nil ?_
    with_reducible refine q_then ?_
    refine c_true F rfl rfl ?_
    with_reducible refine c_skip ?_
    with_reducible refine q_then ?_
    with_reducible refine c_seq ?_
    with_reducible refine c_block ?_
    with_reducible refine c_seq ?_
    with_reducible refine c_region ?_
    refine stepD rfl F rfl (o_move (F.ev rfl) ?_); clear F; clear a; intro a F
    refine stepD rfl F rfl (o_move (F.ev rfl) ?_); clear F; clear a; intro a F
    refine stepD rfl F rfl (o_indexSl (F.ev rfl) (F.ev rfl) (by omega) (by omega) ?_); clear F; clear a; intro a F
    refine stepD rfl F rfl (o_loadA M (F.ev rfl) (by repeat (first | exact .here | apply Has.there)) (by first | assumption | rfl) ?_); clear F; clear a; intro a F
    refine stepD rfl F rfl (o_move (F.ev rfl) ?_); clear F; clear a; intro a F
    (refine stepD rfl F rfl (o_call (F.ev rfl) (F.evs rfl) (Cal.mono (join_c z hzi.len zn v hv0 _) ?_)); clear F; clear a; rintro _ w ⟨rfl, hE⟩ a F; replace M := M.later hE; clear hE)
    unfold optIP at F
    refine stepD rfl F rfl (o_move (F.ev rfl) ?_); clear F; clear a; intro a F
    refine stepD rfl F rfl (o_extract (F.ev rfl) rfl ?_); clear F; clear a; intro a F
    refine stepD rfl F rfl (o_extract (F.ev rfl) rfl ?_); clear F; clear a; intro a F
    (refine stepD rfl F rfl (o_alloc M ?_); clear F; clear M; intro b17 w M a F)
    (refine stepN rfl F (o_storeA M (F.ev rfl) (F.ev rfl) (ipC_len l1) (one_ip _)  (by repeat (first | exact .here | apply Has.there))  (put_all (by rw [ipC_len l1]; rfl)) (by repeat (first | exact .here | apply Upd.there)) ?_); clear F; clear M; intro w M a F)
    refine stepD rfl F rfl (o_assign (F.ev rfl) ?_); clear F; clear a; intro a F
    with_reducible refine l_nil ?_
    with_reducible refine q_then ?_
    with_reducible refine c_seq ?_
    with_reducible refine c_region ?_
    refine stepD rfl F rfl (o_move (F.ev rfl) ?_); clear F; clear a; intro a F
    refine stepD rfl F rfl (o_move (F.ev rfl) ?_); clear F; clear a; intro a F
    refine stepD rfl F rfl (o_indexSl (F.ev rfl) (F.ev rfl) (by omega) (by omega) ?_); clear F; clear a; intro a F
    refine stepD rfl F rfl (o_loadA M (F.ev rfl) (by repeat (first | exact .here | apply Has.there)) (by first | assumption | rfl) ?_); clear F; clear a; intro a F
    refine stepD rfl F rfl (o_move (F.ev rfl) ?_); clear F; clear a; intro a F
    (refine stepD rfl F rfl (o_call (F.ev rfl) (F.evs rfl) (Cal.mono (rjoin_c z hzi zn v hv0 _) ?_)); clear F; clear a; rintro _ w ⟨rfl, hE⟩ a F; replace M := M.later hE; clear hE)
    unfold optIP at F
    refine stepD rfl F rfl (o_move (F.ev rfl) ?_); clear F; clear a; intro a F
    refine stepD rfl F rfl (o_extract (F.ev rfl) rfl ?_); clear F; clear a; intro a F
    refine stepD rfl F rfl (o_extract (F.ev rfl) rfl ?_); clear F; clear a; intro a F
    (refine stepD rfl F rfl (o_alloc M ?_); clear F; clear M; intro b19 w M a F)
    (refine stepN rfl F (o_storeA M (F.ev rfl) (F.ev rfl) (ipC_len l1) (one_ip _)  (by repeat (first | exact .here | apply Has.there))  (put_all (by rw [ipC_len l1]; rfl)) (by repeat (first | exact .here | apply Upd.there)) ?_); clear F; clear M; intro w M a F)
    refine stepD rfl F rfl (o_assign (F.ev rfl) ?_); clear F; clear a; intro a F
    with_reducible refine l_nil ?_
    with_reducible refine q_then ?_
    with_reducible refine c_seq ?_
    with_reducible refine c_region ?_
    refine stepD rfl F rfl (o_loadA M (F.ev rfl) (by repeat (first | exact .here | apply Has.there)) (by first | assumption | rfl) ?_); clear F; clear a; intro a F
    refine stepD rfl F rfl (o_loadA M (F.ev rfl) (by repeat (first | exact .here | apply Has.there)) (by first | assumption | rfl) ?_); clear F; clear a; intro a F
    refine stepD rfl F rfl (o_neqAF (F.ev rfl) (F.ev rfl) (by first | assumption | rfl) (by first | assumption | rfl) (by assumption) ?_); clear F; clear a; intro a F
    refine stepD rfl F rfl (o_move (F.ev rfl) ?_); clear F; clear a; intro a F
    refine stepG rfl F rfl rfl rfl (o_move (F.ev rfl) ?_); clear F; clear a; intro a F
    refine stepG rfl F rfl rfl rfl (o_move (F.ev rfl) ?_); clear F; clear a; intro a F
    refine stepG rfl F rfl rfl rfl (o_neqBF (F.ev rfl) (F.ev rfl) rfl ?_); clear F; clear a; intro a F
    refine stepD rfl F rfl (o_pickF (F.ev rfl) (F.ev rfl) ?_); clear F; clear a; intro a F
    with_reducible refine l_nil ?_
    with_reducible refine q_then ?_
    refine c_false F rfl rfl ?_
    with_reducible refine c_skip ?_
    with_reducible refine q_inB ?_
    with_reducible refine q_then ?_
    with_reducible refine c_region ?_
    refine stepD rfl F rfl (o_move (F.ev rfl) ?_); clear F; clear a; intro a F
    refine stepD rfl F rfl (o_add (F.ev rfl) (F.ev rfl) (w_i64 (by omega) (by omega)) ?_); clear F; clear a; intro a F
    refine stepD rfl F rfl (o_assign (F.ev rfl) ?_); clear F; clear a; intro a F
    with_reducible refine l_nil ?_
    with_reducible refine q_then ?_
    exact ⟨_, by omega, i + 1, rfl, by omega, F.only [16, 15, 4, 5, 6, 11, 12, 13, 14] rfl, M.sub (.cons _ (.cons _ (.refl _)))⟩
  · obtain rfl : i = 2 := by omega
    have l1 : (solI p).length = 16 := rfl
    have l3 := eqVs_ipS (solI p)
    have l4 := fits_ipS l1
    with_reducible refine c_seq ?_
    with_reducible refine c_seq ?_
    with_reducible refine c_region ?_
    refine stepD rfl F rfl (o_move (F.ev rfl) ?_); clear F; clear a; intro a F
    refine stepD rfl F rfl (o_lssF (F.ev rfl) (F.ev rfl) (by omega) ?_); clear F; clear a; intro a F
    with_reducible refine l_nil ?_
    with_reducible refine q_then ?_
    refine c_false F rfl rfl ?_
    with_reducible refine c_exit ?_
    with_reducible refine q_thenX ?_
    with_reducible refine q_thenX ?_
    with_reducible refine q_inBX ?_
    with_reducible refine q_then ?_
    with_reducible refine c_seq ?_
    replace F := F.only [5, 6, 11, 12, 13, 14] rfl
    refine c_draw 34 F (by kernel_rfl) ?_
    intro w1 hE hok
    have M1 := M.later hE
    (refine mK hok rfl rfl (fun a' w' F' E' => o_call (F'.ev rfl) (F'.evs rfl) (Cal.mono (known_c _ (hM.later (M1.ext.trans E')) (hG.later (M1.ext.trans E'))) fun _ _ hh => ⟨hh.2, hh.1⟩)) ?_)
    refine mK hok rfl rfl (fun a' w' F' E' => o_move (F'.ev rfl) ⟨Ext.refl _ _, rfl⟩) ?_
    refine mKG hok rfl rfl rfl rfl (fun a' w' F' E' => o_move (F'.ev rfl) ⟨Ext.refl _ _, rfl⟩) ?_
    refine mKG hok rfl rfl rfl rfl (fun a' w' F' E' => o_move (F'.ev rfl) ⟨Ext.refl _ _, rfl⟩) ?_
    refine mKG hok rfl rfl rfl rfl (fun a' w' F' E' => o_eqlT (F'.ev rfl) (F'.ev rfl) (by omega) ⟨Ext.refl _ _, rfl⟩) ?_
    refine mK hok rfl rfl (fun a' w' F' E' => o_pickT (F'.ev rfl) (F'.ev rfl) ⟨Ext.refl _ _, rfl⟩) ?_
    refine mK hok rfl rfl (fun a' w' F' E' => o_move (F'.ev rfl) ⟨Ext.refl _ _, rfl⟩) ?_
    refine mKG hok rfl rfl rfl rfl (fun a' w' F' E' => o_move (F'.ev rfl) ⟨Ext.refl _ _, rfl⟩) ?_
    refine mKG hok rfl rfl rfl rfl (fun a' w' F' E' => o_move (F'.ev rfl) ⟨Ext.refl _ _, rfl⟩) ?_
    refine mKG hok rfl rfl rfl rfl (fun a' w' F' E' => o_eqlT (F'.ev rfl) (F'.ev rfl) (by omega) ⟨Ext.refl _ _, rfl⟩) ?_
    refine mK hok rfl rfl (fun a' w' F' E' => o_pickT (F'.ev rfl) (F'.ev rfl) ⟨Ext.refl _ _, rfl⟩) ?_
    refine mK hok rfl rfl (fun a' w' F' E' => o_move (F'.ev rfl) ⟨Ext.refl _ _, rfl⟩) ?_
    refine mKG hok rfl rfl rfl rfl (fun a' w' F' E' => o_loadA (M1.later E') (F'.ev rfl) (by repeat (first | exact .here | apply Has.there)) (by first | assumption | rfl) ⟨Ext.refl _ _, rfl⟩) ?_
    refine mKG hok rfl rfl rfl rfl (fun a' w' F' E' => o_loadA (M1.later E') (F'.ev rfl) (by repeat (first | exact .here | apply Has.there)) (by first | assumption | rfl) ⟨Ext.refl _ _, rfl⟩) ?_
    (refine mKG hok rfl rfl rfl rfl (fun a' w' F' E' => o_call (F'.ev rfl) (F'.evs rfl) (Cal.mono (common_c p q hp hq _) fun _ _ hh => ⟨hh.2, hh.1⟩)) ?_)
    refine mKG hok rfl rfl rfl rfl (fun a' w' F' E' => o_loadA (M1.later E') (F'.ev rfl) (by repeat (first | exact .here | apply Has.there)) (by first | assumption | rfl) ⟨Ext.refl _ _, rfl⟩) ?_
    refine mKG hok rfl rfl rfl rfl (fun a' w' F' E' => o_loadA (M1.later E') (F'.ev rfl) (by repeat (first | exact .here | apply Has.there)) (by first | assumption | rfl) ⟨Ext.refl _ _, rfl⟩) ?_
    (refine mKG hok rfl rfl rfl rfl (fun a' w' F' E' => o_call (F'.ev rfl) (F'.evs rfl) (Cal.mono (rcommon_c p q hp hq _) fun _ _ hh => ⟨hh.2, hh.1⟩)) ?_)
    refine mKG hok rfl rfl rfl rfl (fun a' w' F' E' => o_eqlT (F'.ev rfl) (F'.ev rfl) (by omega) ⟨Ext.refl _ _, rfl⟩) ?_
    refine mK hok rfl rfl (fun a' w' F' E' => o_pickT (F'.ev rfl) (F'.ev rfl) ⟨Ext.refl _ _, rfl⟩) ?_
    refine mK hok rfl rfl (fun a' w' F' E' => o_move (F'.ev rfl) ⟨Ext.refl _ _, rfl⟩) ?_
    refine mKG hok rfl rfl rfl rfl (fun a' w' F' E' => o_loadA (M1.later E') (F'.ev rfl) (by repeat (first | exact .here | apply Has.there)) (by first | assumption | rfl) ⟨Ext.refl _ _, rfl⟩) ?_
    (refine mKG hok rfl rfl rfl rfl (fun a' w' F' E' => o_call (F'.ev rfl) (F'.evs rfl) (Cal.mono (multi_c p hp _) fun _ _ hh => ⟨hh.2, hh.1⟩)) ?_)
    refine mKG hok rfl rfl rfl rfl (fun a' w' F' E' => o_loadA (M1.later E') (F'.ev rfl) (by repeat (first | exact .here | apply Has.there)) (by first | assumption | rfl) ⟨Ext.refl _ _, rfl⟩) ?_
    (refine mKG hok rfl rfl rfl rfl (fun a' w' F' E' => o_call (F'.ev rfl) (F'.evs rfl) (Cal.mono (rmulti_c p hp _) fun _ _ hh => ⟨hh.2, hh.1⟩)) ?_)
    refine mKG hok rfl rfl rfl rfl (fun a' w' F' E' => o_eqlBT (F'.ev rfl) (F'.ev rfl) rfl ⟨Ext.refl _ _, rfl⟩) ?_
    refine mK hok rfl rfl (fun a' w' F' E' => o_pickT (F'.ev rfl) (F'.ev rfl) ⟨Ext.refl _ _, rfl⟩) ?_
    refine mK hok rfl rfl (fun a' w' F' E' => o_move (F'.ev rfl) ⟨Ext.refl _ _, rfl⟩) ?_
    refine mKG hok rfl rfl rfl rfl (fun a' w' F' E' => o_loadA (M1.later E') (F'.ev rfl) (by repeat (first | exact .here | apply Has.there)) (by first | assumption | rfl) ⟨Ext.refl _ _, rfl⟩) ?_
    (refine mKG hok rfl rfl rfl rfl (fun a' w' F' E' => o_call (F'.ev rfl) (F'.evs rfl) (Cal.mono (sol_c p hp _) fun _ _ hh => ⟨hh.2, hh.1⟩)) ?_)
    refine mKG hok rfl rfl rfl rfl (fun a' w' F' E' => o_loadA (M1.later E') (F'.ev rfl) (by repeat (first | exact .here | apply Has.there)) (by first | assumption | rfl) ⟨Ext.refl _ _, rfl⟩) ?_
    (refine mKG hok rfl rfl rfl rfl (fun a' w' F' E' => o_call (F'.ev rfl) (F'.evs rfl) (Cal.mono (rsol_c p hp _) fun _ _ hh => ⟨hh.2, hh.1⟩)) ?_)
    refine mKG hok rfl rfl rfl rfl (fun a' w' F' E' => o_eqlAT (F'.ev rfl) (F'.ev rfl) (by first | assumption | rfl) (by first | assumption | rfl) (by assumption) ⟨Ext.refl _ _, rfl⟩) ?_
    refine mK hok rfl rfl (fun a' w' F' E' => o_pickT (F'.ev rfl) (F'.ev rfl) ⟨Ext.refl _ _, rfl⟩) ?_
    (refine mDone rfl rfl ?_; clear F; clear M; intro a w F hE2 hX hTT hDD hPP; have M := M1.later hE2; clear M1; clear hX; clear hE2; clear hok; clear hE; clear hTT; clear hDD; clear hPP; (try dsimp only at F))
    refine stepD rfl F rfl (o_assign (F.ev rfl) ?_); clear F; clear a; intro a F
    with_reducible refine l_nil ?_
    with_reducible refine q_then ?_
    with_reducible refine c_ret ?_
    refine p_ret F rfl (.cons (.tmp (F.ev rfl)) .nil) ?_
    exact ⟨rfl, M.ext⟩
end Go.Proofs.YtadnpidadcgdcaaDoor

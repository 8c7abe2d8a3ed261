/-
  PROVED: for every input AddressBack answers true, and each argument reads afterwards as it read before (the card: the listed variables are tied to the program's text).
-/
import Derived.Test.YtadnpidadcgdcaaDoorMBack4
/-! U4 -/
/-
  The walk of AddressBack: it answers true.
-/
namespace Go.Proofs.YtadnpidadcgdcaaDoor
set_option linter.unusedVariables false
set_option linter.unusedSimpArgs false
open Go.RowKit
attribute [local irreducible] OpTo wpListIn Code.wpIn MW Cal

theorem eqVs_ipB (a : List Int) : eqVs (ipC a) (ipC a) = true := by rw [eqVs_ip a a rfl]; simp
theorem eqVs_pfB (a : List Int) (n : Int) : eqVs (pfC a n) (pfC a n) = true := by rw [eqVs_pf rfl]; simp
theorem fits_ipB {a : List Int} (ha : a.length = 16) : fitsK [.i .u8, .i .u8, .i .u8, .i .u8, .i .u8, .i .u8, .i .u8, .i .u8, .i .u8, .i .u8, .i .u8, .i .u8, .i .u8, .i .u8, .i .u8, .i .u8] (ipC a) = true := by
  obtain ⟨x0, x1, x2, x3, x4, x5, x6, x7, x8, x9, x10, x11, x12, x13, x14, x15, rfl⟩ := len16 ha
  rfl
/-- the cells of a row of addresses -/
def ipsC : List (List Int) → List Value
  | [] => []
  | a :: r => ipC a ++ ipsC r
theorem seg_ips : ∀ (L : List (List Int)) (i : Nat), (∀ x ∈ L, x.length = 16) → i < L.length → seg (ipsC L) (i * 16) 16 = some (ipC (L.getD i []))
  | [], i, _, h => by simp at h
  | a :: r, 0, hl, _ => by
    have h16 := hl a (by simp)
    have := seg_of [] (ipC a) (ipsC r)
    rw [ipC_len h16] at this
    simpa [ipsC] using this
  | a :: r, i + 1, hl, h => by
    have h16 := hl a (by simp)
    have ih := seg_ips r i (fun x hx => hl x (by simp [hx])) (by simpa using h)
    rw [seg_eq] at ih ⊢
    have hlen : (ipsC (a :: r)).length = 16 + (ipsC r).length := by simp [ipsC, ipC_len h16]
    split at ih
    · rename_i hle
      rw [if_pos (by rw [hlen]; omega)]
      rw [show (a :: r).getD (i + 1) [] = r.getD i [] by simp, ← ih]
      congr 1
      show List.take 16 (List.drop ((i + 1) * 16) (ipC a ++ ipsC r)) = _
      rw [show (i + 1) * 16 = (ipC a).length + i * 16 by rw [ipC_len h16]; omega, List.drop_append, List.drop_eq_nil_of_le (by omega), List.nil_append, Nat.add_sub_cancel_left]
    · cases ih
def ipZ : List Value := [.int .u8 0, .int .u8 0, .int .u8 0, .int .u8 0, .int .u8 0, .int .u8 0, .int .u8 0, .int .u8 0, .int .u8 0, .int .u8 0, .int .u8 0, .int .u8 0, .int .u8 0, .int .u8 0, .int .u8 0, .int .u8 0]
theorem put2i {r a : List Int} (hr : r.length = 16) (ha : a.length = 16) : putAll (placesL 2 16) (zerosL ipZ (2 * 16)) [(0, ipC r), (1, ipC a)] = some (ipsC [r, a]) := by
  obtain ⟨x0, x1, x2, x3, x4, x5, x6, x7, x8, x9, x10, x11, x12, x13, x14, x15, rfl⟩ := len16 hr
  obtain ⟨y0, y1, y2, y3, y4, y5, y6, y7, y8, y9, y10, y11, y12, y13, y14, y15, rfl⟩ := len16 ha
  rfl
/-- an address, whatever it is -/
def AnIP : Pred := fun v _ => ∃ ip, IsIP ip ∧ v = .agg (ipC ip).toArray
set_option maxHeartbeats 4000000 in
theorem back_c (p : List Int) (hp : IsIP p) (pt : Option Addr) (cap : Nat) (xs : List Int) (n0 : Int) (W : World) (hI : IntsAt W (.slice pt xs.length cap) xs) (hcap : xs.length ≤ cap) (hM : GM W) (hG : GT W) (hG2 : GI W) :
    Cal Tryd.prog 7 [.agg (ipC p).toArray, .slice pt xs.length cap, .int .i64 n0].toArray W fun v w' => v = .bool true ∧ Ext [] W w' := by
  have hmem : 0 < xs.length → ∃ b o cs t fz, pt = some ⟨b, o, none⟩ ∧ W.heap[b]? = some (.cells cs t fz) ∧ seg cs.toList o xs.length = some (i64C xs) := fun hl => by
    obtain ⟨p', cap', h1, _, h3⟩ := hI.ex
    cases h1
    exact h3 hl
  have e1 := seg_all (ipC_len hp.len)
  have hn0 := modI_bd n0 (n := 129) (by omega)
  refine fn_ofM (n := 66) [] Tryd.func7 rfl rfl rfl ?_
  intro a w F M hwW
  refine c_seq ?_
  refine c_region ?_
  (refine stepD rfl F rfl (o_box M (F.ev rfl) rfl ?_); clear F; clear M; intro b3 w M a F)
  refine stepD rfl F rfl (o_assign (F.ev rfl) ?_); clear F; clear a; intro a F
  with_reducible refine l_nil ?_
  with_reducible refine q_then ?_
  with_reducible refine c_seq ?_
  refine c_drawK (keepOld w.heap.size) [2, 4] [] noT 5 F (by kernel_rfl) rfl (fun h => absurd rfl h) (fun h => absurd rfl h) (noT.stays _) (fun _ _ => trivial) ?_
  intro w1 hE hsz hok hef
  have M1 := M.later hE
  refine mK hok rfl rfl (fun a' w' F' E' => o_loadA (M1.laterOld E' (Nat.le_of_eq hsz)) (F'.ev rfl) (by repeat (first | exact .here | apply Has.there)) (by first | assumption | rfl) ⟨Ext.refl _ _, rfl⟩) ?_
  refine mK hok rfl rfl (fun a' w' F' E' => o_move (F'.ev rfl) ⟨Ext.refl _ _, rfl⟩) ?_
  have hIw : ∀ w', Old w.heap.size w1 w' → Ext [] W w' := fun w' h => (M1.laterOld h (Nat.le_of_eq hsz)).ext
  refine mEX (V := Any) (T' := fun σ w => ∃ bt, σ 2 = .pointer (some ⟨bt, 0, none⟩) ∧ w.heap[bt]? = some (tobj pt (cut400 xs).length cap 0) ∧ W.heap.size ≤ bt ∧ w1.heap.size ≤ bt) hok rfl rfl (fun _ _ _ _ _ => trivial) (fun σ w w' h k => by
    obtain ⟨bt, h1, h2, h3, h4⟩ := h
    exact ⟨bt, h1, by rw [Ext.block k bt (Array.getElem?_eq_some_iff.1 h2).1 (by simp)]; exact h2, h3, h4⟩) (fun a' w' σ' F' E' D' hσ' T' => o_call (F'.ev rfl) (F'.evs rfl) (Cal.mono (new_c xs w' (hI.later (hIw w' E')) hcap) fun x w'' hh => by
      obtain ⟨bt, rfl, N⟩ := hh
      have hb := (N.own (bt, _) (List.mem_cons_self)).resolve_left (by simp)
      exact ⟨Old.of_ext N.ext, trivial, bt, rfl, N.heap .here, Nat.le_trans (hIw w' E').size hb, Nat.le_trans (Old.size E') hb⟩)) ?_
  refine mK hok rfl rfl (fun a' w' F' E' => o_build F' rfl rfl ⟨Ext.refl _ _, rfl⟩) ?_
  refine mEX (V := AnIP) (T' := noT) hok rfl rfl (fun _ _ _ h _ => h) (noT.stays _) (fun a' w' σ' F' E' D' hσ' T' => by
    obtain ⟨bt, h1, h2, h3, h4⟩ := T'
    have hs := hσ' 2 (by simp) (by decide)
    have hev : a'.eval (.tmp 16) = .pointer (some ⟨bt, 0, none⟩) := hs.symm.trans h1
    have hT : TapeS W bt pt (cut400 xs).length (cut400 xs) := tape_new (Ext.refl [] W) h3 hI.bd hmem
    have hev2 : a'.eval (.tmp 17) = .agg (adC 0 0 0).toArray := F'.ev rfl
    refine o_call (F'.ev rfl) (vs := #[.pointer (some ⟨bt, 0, none⟩), .agg (adC 0 0 0).toArray]) (by simp only [List.map_toArray, List.map_cons, List.map_nil, hev, hev2]) (Cal.mono (tip_c 0 0 0 (by omega) (by omega) (by omega) (by omega) w' (hT.later (hIw w' E').any) h2) fun x w'' hh => ?_)
    obtain ⟨ip, k', hip, hx, N⟩ := hh
    exact ⟨⟨N.ext.os, N.ext.tape, N.ext.output, N.ext.size, fun k hk hks => N.ext.block k hks (by simp only [List.mem_singleton]; omega)⟩, ⟨ip, hip, hx⟩, trivial⟩) ?_
  (refine mDone rfl hef ?_; clear F; clear M; intro a w F hE2 hX hTT hDD hPP; have M := M1.laterOld hE2 (Nat.le_of_eq hsz); obtain ⟨q, hq, e_q⟩ := hX 4 _ rfl; replace F := F.know (d := 18) e_q; clear e_q; clear hIw; clear M1; clear hX; clear hE2; clear hok; clear hE; clear hTT; clear hDD; clear hPP; clear hsz; clear hef; (try dsimp only at F))
  (refine stepD rfl F rfl (o_buildSlice F M rfl rfl rfl (put2i hp.len hq.len) ?_); clear F; clear M; intro b19 w M a F)
  refine stepD rfl F rfl (o_assign (F.ev rfl) ?_); clear F; clear a; intro a F
  with_reducible refine l_nil ?_
  with_reducible refine q_then ?_
  with_reducible refine c_seq ?_
  with_reducible refine c_seq ?_
  with_reducible refine c_region ?_
  refine stepD rfl F rfl (o_assign (F.ev rfl) ?_); clear F; clear a; intro a F
  with_reducible refine l_nil ?_
  with_reducible refine q_then ?_
  with_reducible refine c_block ?_
  replace F := F.only [8, 7, 2] rfl
  obtain ⟨L, hL⟩ : ∃ L : List (List Int), L = [p, q] := ⟨_, rfl⟩
  have hLl : L.length = 2 := by rw [hL]; rfl
  have hLa : ∀ x ∈ L, IsIP x := fun x hx => by
    rw [hL] at hx
    simp only [List.mem_cons, List.not_mem_nil, or_false] at hx
    rcases hx with rfl | rfl
    · exact hp
    · exact hq
  rw [← hL] at M
  clear hL
  replace M : Mem [] W w [(b19, .cells (ipsC L).toArray 23 (0, 0))] := M.sub (.cons_cons _ (List.nil_sublist _))
  refine c_loop (fun k a w => ∃ i : Nat, k = 2 - i ∧ i ≤ 2 ∧ Frm a 66 [] [(8, .int .i64 i), (7, .slice (some ⟨b19, 0, none⟩) 2 2), (2, .int .i64 n0)] ∧ Mem [] W w [(b19, .cells (ipsC L).toArray 23 (0, 0))]) 2 ⟨0, rfl, by omega, F.only [8, 7, 2] rfl, M⟩ ?_
  clear F M
  rintro k a w ⟨i, hk, hi, F, M⟩
  by_cases hlt : i < 2
  · obtain ⟨z, hz⟩ : ∃ x, x = L.getD i [] := ⟨_, rfl⟩
    have hzi : IsIP z := by
      have := hLa (L.getD i []) (by rw [List.getD_eq_getElem?_getD, List.getElem?_eq_getElem (by omega)]; exact List.getElem_mem _)
      rw [← hz] at this
      exact this
    have s1 : seg (ipsC L) (0 + (i : Int).toNat * 16) 16 = some (ipC z) := by
      have := seg_ips L i (fun x hx => (hLa x hx).len) (by omega)
      rw [← hz] at this
      rw [show 0 + (i : Int).toNat * 16 = i * 16 by omega]; exact this
    clear hz
    have hfl := formatI_len z
    have l1 := ipC_len hzi.len
    have l2 := seg_all l1
    have l3 := eqVs_ipB z
    have l4 := fits_ipB hzi.len
    generalize hn : modI n0 129 = n at *
    have hvm := valid_mask hzi hn0.1 (show n ≤ 128 by omega)
    have hmi := mask_isIP hzi n
    have hpf := parseP_format hmi hvm
    have m1 := pfC_len hmi.len n
    have m2 := seg_pf hmi.len n
    have m3 := eqVs_pfB (maskI z n) n
    have m4 := fits_pf hmi.len n
    have hpl : (formatPV (maskI z n) n).length < 4294967281 := by
      have h1 := formatI_len (maskI z n)
      have h2 := Lib.itoa_length_le n (by omega) (by omega)
      unfold formatPV; rw [if_pos hvm]; simp; omega
    with_reducible refine c_seq ?_
    with_reducible refine c_seq ?_
    with_reducible refine c_region ?_
    refine stepD rfl F rfl (o_move (F.ev rfl) ?_); clear F; clear a; intro a F
    refine stepD rfl F rfl (o_lssT (F.ev rfl) (F.ev rfl) (by omega) ?_); clear F; clear a; intro a F
    with_reducible refine l_nil ?_
    with_reducible refine q_then ?_
    refine c_true F rfl rfl ?_
    with_reducible refine c_skip ?_
    with_reducible refine q_then ?_
    with_reducible refine c_seq ?_
    with_reducible refine c_block ?_
    with_reducible refine c_seq ?_
    with_reducible refine c_region ?_
    refine stepD rfl F rfl (o_move (F.ev rfl) ?_); clear F; clear a; intro a F
    refine stepD rfl F rfl (o_move (F.ev rfl) ?_); clear F; clear a; intro a F
    refine stepD rfl F rfl (o_indexSl (F.ev rfl) (F.ev rfl) (by omega) (by omega) ?_); clear F; clear a; intro a F
    refine stepD rfl F rfl (o_loadA M (F.ev rfl) (by repeat (first | exact .here | apply Has.there)) (by first | assumption | rfl) ?_); clear F; clear a; intro a F
    (refine stepD rfl F rfl (o_call (F.ev rfl) (F.evs rfl) (Cal.mono (formatIP_c z hzi _ (hG.later M.ext)) ?_)); clear F; clear a; rintro _ w ⟨rfl, hE⟩ a F; replace M := M.later hE; clear hE)
    skip
    (refine stepD rfl F rfl (o_call (F.ev rfl) (F.evs rfl) (Cal.mono (Cal.to (parseIP_c (txt (formatI z)) (by omega) _ (hM.later M.ext)) (show _ = Value.tuple #[.agg (ipC z).toArray, .bool true] by rw [parse_format hzi]; rfl)) ?_)); clear F; clear a; rintro _ w ⟨rfl, hE⟩ a F; replace M := M.later hE; clear hE)
    refine stepD rfl F rfl (o_move (F.ev rfl) ?_); clear F; clear a; intro a F
    refine stepD rfl F rfl (o_extract (F.ev rfl) rfl ?_); clear F; clear a; intro a F
    refine stepD rfl F rfl (o_extract (F.ev rfl) rfl ?_); clear F; clear a; intro a F
    (refine stepD rfl F rfl (o_alloc M ?_); clear F; clear M; intro b9 w M a F)
    (refine stepN rfl F (o_storeA M (F.ev rfl) (F.ev rfl) (l1) (one_ip _)  (by repeat (first | exact .here | apply Has.there))  (put_all (by rw [l1]; rfl)) (by repeat (first | exact .here | apply Upd.there)) ?_); clear F; clear M; intro w M a F)
    refine stepD rfl F rfl (o_assign (F.ev rfl) ?_); clear F; clear a; intro a F
    with_reducible refine l_nil ?_
    with_reducible refine q_then ?_
    with_reducible refine c_seq ?_
    replace F := F.only [8, 7, 2, 9, 10] rfl
    refine c_draw 8 F (by kernel_rfl) ?_
    intro w1 hE hok
    have M1 := M.later hE
    refine mK hok rfl rfl (fun a' w' F' E' => o_move (F'.ev rfl) ⟨Ext.refl _ _, rfl⟩) ?_
    refine mK hok rfl rfl (fun a' w' F' E' => o_move (F'.ev rfl) ⟨Ext.refl _ _, rfl⟩) ?_
    refine mK hok rfl rfl (fun a' w' F' E' => o_indexSl (F'.ev rfl) (F'.ev rfl) (by omega) (by omega) ⟨Ext.refl _ _, rfl⟩) ?_
    refine mK hok rfl rfl (fun a' w' F' E' => o_loadA (M1.later E') (F'.ev rfl) (by repeat (first | exact .here | apply Has.there)) (by first | assumption | rfl) ⟨Ext.refl _ _, rfl⟩) ?_
    refine mK hok rfl rfl (fun a' w' F' E' => o_move (F'.ev rfl) ⟨Ext.refl _ _, rfl⟩) ?_
    (refine mK hok rfl rfl (fun a' w' F' E' => o_call (F'.ev rfl) (F'.evs rfl) (Cal.mono (Cal.to (mod_c n0 129 (by omega) (by omega) _) (by rw [hn])) fun _ _ hh => ⟨hh.2, hh.1⟩)) ?_)
    (refine mK hok rfl rfl (fun a' w' F' E' => o_call (F'.ev rfl) (F'.evs rfl) (Cal.mono (maskIn_c z hzi.len n hn0.1 (by omega) _) fun _ _ hh => ⟨hh.2, hh.1⟩)) ?_)
    refine mAl hok rfl rfl (Al.stays _ _) (fun w => Ext.alloc w _) (fun a' w' F' E' => run_al) ?_
    (refine mDone rfl rfl ?_; clear F; clear M; intro a w F hE2 hX hTT hDD hPP; have M := M1.later hE2; (try dsimp only at F); obtain ⟨b11, e_b11, g_b11, q_b11⟩ := hX 7 _ rfl; replace F := F.know (d := 11) e_b11; replace M := Mem.al (pre := []) M M1 q_b11 g_b11 (by intro p hp; cases hp); clear M1; clear hX; clear hE2; clear hok; clear hE; clear hTT; clear hDD; clear hPP; clear e_b11; clear g_b11; clear q_b11; (try dsimp only [ptrTo] at F); (try simp only [List.cons_append, List.nil_append] at M))
    (refine stepN rfl F (o_storeA M (F.ev rfl) (F.ev rfl) (m1) (one_pf _ _)  (by repeat (first | exact .here | apply Has.there))  (put_all (by rw [m1]; rfl)) (by repeat (first | exact .here | apply Upd.there)) ?_); clear F; clear M; intro w M a F)
    with_reducible refine l_nil ?_
    with_reducible refine q_then ?_
    with_reducible refine c_seq ?_
    with_reducible refine c_region ?_
    refine stepD rfl F rfl (o_loadA M (F.ev rfl) (by repeat (first | exact .here | apply Has.there)) (by first | assumption | rfl) ?_); clear F; clear a; intro a F
    (refine stepD rfl F rfl (o_call (F.ev rfl) (F.evs rfl) (Cal.mono (formatPrefix_c (maskI z n) n hmi _ (hG.later M.ext) (hG2.later M.ext)) ?_)); clear F; clear a; rintro _ w ⟨rfl, hE⟩ a F; replace M := M.later hE; clear hE)
    skip
    (refine stepD rfl F rfl (o_call (F.ev rfl) (F.evs rfl) (Cal.mono (Cal.to (parsePrefix_c _ hpl _ (hM.later M.ext)) (show _ = Value.tuple #[.agg (pfC (maskI z n) n).toArray, .bool true] by rw [hpf]; rfl)) ?_)); clear F; clear a; rintro _ w ⟨rfl, hE⟩ a F; replace M := M.later hE; clear hE)
    refine stepD rfl F rfl (o_move (F.ev rfl) ?_); clear F; clear a; intro a F
    refine stepD rfl F rfl (o_extract (F.ev rfl) rfl ?_); clear F; clear a; intro a F
    refine stepD rfl F rfl (o_extract (F.ev rfl) rfl ?_); clear F; clear a; intro a F
    (refine stepD rfl F rfl (o_alloc M ?_); clear F; clear M; intro b12 w M a F)
    (refine stepN rfl F (o_storeA M (F.ev rfl) (F.ev rfl) (m1) (one_pf _ _)  (by repeat (first | exact .here | apply Has.there))  (put_all (by rw [m1]; rfl)) (by repeat (first | exact .here | apply Upd.there)) ?_); clear F; clear M; intro w M a F)
    refine stepD rfl F rfl (o_assign (F.ev rfl) ?_); clear F; clear a; intro a F
    with_reducible refine l_nil ?_
    with_reducible refine q_then ?_
    with_reducible refine c_seq ?_
    replace F := F.only [8, 7, 2, 9, 10, 11, 12, 13] rfl
    refine c_draw 19 F (by kernel_rfl) ?_
    intro w1 hE hok
    have M1 := M.later hE
    refine mK hok rfl rfl (fun a' w' F' E' => o_move (F'.ev rfl) ⟨Ext.refl _ _, rfl⟩) ?_
    refine mK hok rfl rfl (fun a' w' F' E' => o_not (F'.ev rfl) ⟨Ext.refl _ _, rfl⟩) ?_
    refine mK hok rfl rfl (fun a' w' F' E' => o_move (F'.ev rfl) ⟨Ext.refl _ _, rfl⟩) ?_
    refine mKG hok rfl rfl rfl rfl (fun a' w' F' E' => o_move (F'.ev rfl) ⟨Ext.refl _ _, rfl⟩) ?_
    refine mKG hok rfl rfl rfl rfl (fun a' w' F' E' => o_not (F'.ev rfl) ⟨Ext.refl _ _, rfl⟩) ?_
    refine mK hok rfl rfl (fun a' w' F' E' => o_pickF (F'.ev rfl) (F'.ev rfl) ⟨Ext.refl _ _, rfl⟩) ?_
    refine mK hok rfl rfl (fun a' w' F' E' => o_move (F'.ev rfl) ⟨Ext.refl _ _, rfl⟩) ?_
    refine mKG hok rfl rfl rfl rfl (fun a' w' F' E' => o_loadA (M1.later E') (F'.ev rfl) (by repeat (first | exact .here | apply Has.there)) (by first | assumption | rfl) ⟨Ext.refl _ _, rfl⟩) ?_
    refine mKG hok rfl rfl rfl rfl (fun a' w' F' E' => o_move (F'.ev rfl) ⟨Ext.refl _ _, rfl⟩) ?_
    refine mKG hok rfl rfl rfl rfl (fun a' w' F' E' => o_move (F'.ev rfl) ⟨Ext.refl _ _, rfl⟩) ?_
    refine mKG hok rfl rfl rfl rfl (fun a' w' F' E' => o_indexSl (F'.ev rfl) (F'.ev rfl) (by omega) (by omega) ⟨Ext.refl _ _, rfl⟩) ?_
    refine mKG hok rfl rfl rfl rfl (fun a' w' F' E' => o_loadA (M1.later E') (F'.ev rfl) (by repeat (first | exact .here | apply Has.there)) (by first | assumption | rfl) ⟨Ext.refl _ _, rfl⟩) ?_
    refine mKG hok rfl rfl rfl rfl (fun a' w' F' E' => o_neqAF (F'.ev rfl) (F'.ev rfl) (by first | assumption | rfl) (by first | assumption | rfl) (by assumption) ⟨Ext.refl _ _, rfl⟩) ?_
    refine mK hok rfl rfl (fun a' w' F' E' => o_pickF (F'.ev rfl) (F'.ev rfl) ⟨Ext.refl _ _, rfl⟩) ?_
    refine mK hok rfl rfl (fun a' w' F' E' => o_move (F'.ev rfl) ⟨Ext.refl _ _, rfl⟩) ?_
    refine mKG hok rfl rfl rfl rfl (fun a' w' F' E' => o_loadA (M1.later E') (F'.ev rfl) (by repeat (first | exact .here | apply Has.there)) (by first | assumption | rfl) ⟨Ext.refl _ _, rfl⟩) ?_
    refine mKG hok rfl rfl rfl rfl (fun a' w' F' E' => o_loadA (M1.later E') (F'.ev rfl) (by repeat (first | exact .here | apply Has.there)) (by first | assumption | rfl) ⟨Ext.refl _ _, rfl⟩) ?_
    refine mKG hok rfl rfl rfl rfl (fun a' w' F' E' => o_neqAF (F'.ev rfl) (F'.ev rfl) (by first | assumption | rfl) (by first | assumption | rfl) (by assumption) ⟨Ext.refl _ _, rfl⟩) ?_
    refine mK hok rfl rfl (fun a' w' F' E' => o_pickF (F'.ev rfl) (F'.ev rfl) ⟨Ext.refl _ _, rfl⟩) ?_
    (refine mDone rfl rfl ?_; clear F; clear M; intro a w F hE2 hX hTT hDD hPP; have M := M1.later hE2; clear M1; clear hX; clear hE2; clear hok; clear hE; clear hTT; clear hDD; clear hPP; (try dsimp only at F))
    with_reducible refine l_nil ?_
    with_reducible refine q_then ?_
    refine c_false F rfl rfl ?_
    with_reducible refine c_skip ?_
    with_reducible refine q_inB ?_
    with_reducible refine q_then ?_
    with_reducible refine c_region ?_
    refine stepD rfl F rfl (o_move (F.ev rfl) ?_); clear F; clear a; intro a F
    refine stepD rfl F rfl (o_add (F.ev rfl) (F.ev rfl) (w_i64 (by omega) (by omega)) ?_); clear F; clear a; intro a F
    refine stepD rfl F rfl (o_assign (F.ev rfl) ?_); clear F; clear a; intro a F
    with_reducible refine l_nil ?_
    with_reducible refine q_then ?_
    exact ⟨_, by omega, i + 1, rfl, by omega, F.only [8, 7, 2] rfl, M.sub (by repeat (first | exact List.Sublist.refl _ | apply List.Sublist.cons))⟩
  · obtain rfl : i = 2 := by omega
    with_reducible refine c_seq ?_
    with_reducible refine c_seq ?_
    with_reducible refine c_region ?_
    refine stepD rfl F rfl (o_move (F.ev rfl) ?_); clear F; clear a; intro a F
    refine stepD rfl F rfl (o_lssF (F.ev rfl) (F.ev rfl) (by omega) ?_); clear F; clear a; intro a F
    with_reducible refine l_nil ?_
    with_reducible refine q_then ?_
    refine c_false F rfl rfl ?_
    with_reducible refine c_exit ?_
    with_reducible refine q_thenX ?_
    with_reducible refine q_thenX ?_
    with_reducible refine q_inBX ?_
    with_reducible refine q_then ?_
    with_reducible refine c_seq ?_
    with_reducible refine c_region ?_
    (refine stepD rfl F rfl (o_call (F.ev rfl) (F.evs rfl) (Cal.mono (known_c _ (hM.later M.ext) (hG.later M.ext)) ?_)); clear F; clear a; rintro _ w ⟨rfl, hE⟩ a F; replace M := M.later hE; clear hE)
    refine stepD rfl F rfl (o_assign (F.ev rfl) ?_); clear F; clear a; intro a F
    with_reducible refine l_nil ?_
    with_reducible refine q_then ?_
    with_reducible refine c_ret ?_
    refine p_ret F rfl (.cons (.tmp (F.ev rfl)) .nil) ?_
    exact ⟨rfl, M.ext⟩
end Go.Proofs.YtadnpidadcgdcaaDoor

namespace Go.Proofs.YtadnpidadcgdcaaDoor
set_option linter.unusedVariables false
set_option linter.unusedSimpArgs false
open Go.ChangeShapes Go.WideShapes Go.ChangeAt Go.RowKit

theorem seat_GI {W : World} (h : laidMetH Tryd.prog seatLaid W) : GI W := by
  have h' : laidMet Tryd.prog seatLaid W := h
  obtain ⟨ps, hl, _, _⟩ := h'
  obtain ⟨q, h2⟩ := laid_tail hl
  obtain ⟨q', h3⟩ := laid_tail h2
  exact tab_of (g := 1) (t := 130) (e := 44) (n := 20) (by kernel_rfl) (by kernel_rfl) Tryd.underlying130 Tryd.underlying44 (by kernel_rfl) (by kernel_rfl) (zs := Lib.pow10Tab) h3

set_option maxRecDepth 100000 in
theorem addressBack_contract (H : Type) (enc : TypeId × Value → H) (W : World) (base : Nat) (args : Array Value) (ds gs : List (DataW H)) (before : List MemPlace)
    (hval : ∀ (j : Nat) t v, Tryd.f7.params[j]? = some t → args[j]? = some v → Value.okWide Tryd.prog W .any base t v)
    (hW : DataW.Whole enc Tryd.prog Tryd.f7.params.toList Rows.addressBackSpec.vars false W args.toList ds gs before) (hL : laidMetH Tryd.prog seatLaid W) (hS : W.ShapedOpen Tryd.prog) :
    Calls Tryd.prog 7 args W fun e W' => ∃ v, e = .returned v ∧ Rows.addressBackSpec.post enc Tryd.prog Tryd.f7 false true false false W args v W' := by
  have hW' := hW
  obtain ⟨p, q, hA0, hV, rfl, hfz, hnd⟩ := hW
  have hA : DataW.TrodAll enc Tryd.prog W 0 (fun _ => true) true Tryd.f7.params.toList args.toList ds p := hA0
  rw [Tryd.params7] at hA hval
  obtain ⟨v0, vs0, d0, ds0, p0, q0, hargs, rfl, rfl, h0, r0⟩ := trodAll_cons hA
  obtain ⟨v1, vs1, d1, ds1, p1, q1, rfl, rfl, rfl, h1, r1⟩ := trodAll_cons r0
  obtain ⟨v2, vs2, d2, ds2, p2, q2, rfl, rfl, rfl, h2, r2⟩ := trodAll_cons r1
  obtain ⟨rfl, rfl, rfl⟩ := trodAll_nil r2
  obtain rfl : args = #[v0, v1, v2] := by cases args; simp_all
  obtain ⟨x0, hx0, rfl⟩ := open_ip (hval 0 _ v0 rfl rfl) h0
  obtain ⟨l1, q1p, cap1, rfl, hc1, hx1⟩ := open_il (hval 1 _ v1 rfl rfl) h1
  obtain ⟨x2, rfl, rfl, rfl, w2⟩ := open_int Tryd.underlying3 (hval 2 _ v2 rfl rfl) h2; have hx2 := int_bd w2
  refine ((back_c x0 hx0 q1p cap1 l1 x2 W hx1 hc1 (seat_GM hS) (seat_GT hL) (seat_GI hL)).calls).mono ?_
  rintro e W' ⟨v, rfl, rfl, hE⟩
  exact ⟨_, rfl, law_post (tb := 4) laidOut (by kernel_rfl) rfl (by kernel_rfl) Tryd.underlying4 (fun xs hx => by rw [Tryd.params7] at hx; match xs, hx with | [_, _, _], _ => rfl) hW' hE⟩

set_option maxRecDepth 100000 in
theorem addressBack_lifted (os : Os) (started : os.Started) (H : Type) (enc : TypeId × Value → H) (F : Stop.Interp) :
    ReturnsInHanded {} Tryd.checked os 7 .any ((OpenSpec.ofChange Rows.addressBackSpec).preRow enc Tryd.prog Tryd.f7 Rows.addressBackRow.domain false Rows.addressBackRow.laid) (((OpenSpec.ofChange Rows.addressBackSpec).at F).post enc Tryd.prog Tryd.f7 false true false false) := by
  have hx : ∃ places ds, DataW.whole enc Tryd.prog ((laidWorld os).forCall (fun _ _ => 0) ⟨#[], #[.agg (ipC (List.replicate 16 0)).toArray, .slice none 0 0, .int .i64 0], []⟩).memory Tryd.f7.params.toList Rows.addressBackSpec.vars false #[Value.agg (ipC (List.replicate 16 0)).toArray, .slice none 0 0, .int .i64 0].toList 8 = some (ds, [], places) ∧ ds = [.agg (List.replicate 16 (.lit (.int .u8 0))), .nil, .lit (.int .i64 0)] := ⟨[], [.agg (List.replicate 16 (.lit (.int .u8 0))), .nil, .lit (.int .i64 0)], by kernel_rfl, rfl⟩
  obtain ⟨places, ds, hx, rfl⟩ := hx
  refine returnsInHanded_of_row (C := Tryd.checked) (s := OpenSpec.ofChange Rows.addressBackSpec) own started (by kernel_rfl) Tryd.func7
    (witness_row_at (enc := enc) (C := Tryd.checked) false (laidWorld os) #[.agg (ipC (List.replicate 16 0)).toArray, .slice none 0 0, .int .i64 0] rfl (by kernel_rfl) (by kernel_rfl) (by kernel_rfl)
      (OpenSpec.preRow_of_cond 8 hx (by kernel_rfl) (fun k hk => by cases hk) (by kernel_rfl) (laid_met os _))) ?_
  intro W base args ds gs before hval hW _ hcond _ hL hS _
  exact addressBack_contract H enc W base args ds gs before hval hW hL hS

theorem addressBack_said : Rows.AddressBackSaid :=
  OpenClaim.holds_of_cond 7 Tryd.f7 rfl rfl rfl rfl rfl rfl rfl ⟨rfl, rfl, rfl, rfl, rfl⟩ rfl rfl rfl rfl rfl (by kernel_rfl) Tryd.func7 (by kernel_rfl)
    (of_decide_eq_true (by kernel_rfl)) (by unfold Func.isWrapper; first | (rw [if_pos (by decide +kernel)]; kernel_rfl) | (rw [if_neg (by decide +kernel)]; exact ⟨rfl, rfl⟩))
    (fun os started H enc _ F => by rw [OpenClaim.pre_eq_preRow]; exact addressBack_lifted os started H enc F)

theorem addressBack_plain (f : FuncId) (fn : Func) (hf : Tryd.pinned.checked.prog.funcNamed "multihop/multihoplaw04.AddressBack" = some f) (hfn : Tryd.pinned.checked.prog.funcs[f]? = some fn) :
    false = Tryd.pinned.checked.prog.looks [] ∧ ∀ (j : Nat) t, fn.params[j]? = some t → Tryd.pinned.checked.prog.wantsStandIn t = false := by
  obtain rfl : f = 7 := Option.some.inj ((show Tryd.prog.funcNamed "multihop/multihoplaw04.AddressBack" = some 7 by kernel_rfl).symm.trans hf) |>.symm
  obtain rfl : fn = Tryd.f7 := (Option.some.inj (Tryd.func7.symm.trans hfn)).symm
  refine ⟨by kernel_rfl, fun j t ht => ?_⟩
  have hall : (Tryd.f7.params.all fun u => !Tryd.prog.wantsStandIn u) = true := by kernel_rfl
  have hm := Array.all_eq_true_iff_forall_mem.1 hall t (Array.mem_of_getElem? ht)
  exact (show Tryd.prog.wantsStandIn t = false by simpa using hm)

/-- THE CARD -/
theorem addressBack_card : Rows.AddressBackCardSaid :=
  Claim7.holds_tied_plain_at .later [] _ _ _ _ addressBack_said (fun _ h => by cases h) (by kernel_rfl) (fun _ h => by cases h) addressBack_row_tie rfl ⟨rfl, rfl⟩ (by kernel_rfl) rfl addressBack_plain (by kernel_rfl)
#print axioms addressBack_card
end Go.Proofs.YtadnpidadcgdcaaDoor

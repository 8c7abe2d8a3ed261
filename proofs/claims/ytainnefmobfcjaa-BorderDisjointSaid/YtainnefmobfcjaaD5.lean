/-
  PROVED: for every input BorderDisjoint answers true, and each argument reads afterwards as it read before.
-/
import Derived.Test.YtainnefmobfcjaaD4
/-! E6 -/
/-
  border.free, walked.
-/
namespace Go.Proofs.Ytainnefmobfcjaa
set_option linter.unusedVariables false
set_option linter.unusedSimpArgs false
open Go.RowKit
attribute [local irreducible] OpTo wpListIn Code.wpIn MW Cal

def pfZ0 : List Value := pfC zeroIP 0
set_option maxHeartbeats 8000000 in
theorem free_c (p : List Int) (n : Nat) (ls : List Lease) (hP : PoolOk p n ls) (v : Value) (W : World) (hS : SlAt W 19 v ls.length (lesC ls)) (bits : Nat) (hnb : n ≤ bits) (hb64 : bits ≤ 64) :
    Cal Try.prog 43 [.agg (poC p n v).toArray, .int .i64 bits].toArray W fun x w' => ((∃ a : Nat, x = .tuple #[.agg (pfC (beB (a : Int) ++ z8) bits).toArray, .bool true] ∧ FreeAt p n ls bits a) ∨ (x = .tuple #[.agg (pfC zeroIP 0).toArray, .bool false] ∧ ∀ c, ln bits ∣ c → netN p ≤ c → c + ln bits ≤ netN p + ln n → Taken ls bits c)) ∧ Ext [] W w' := by
  have hS0 := hS
  obtain ⟨q, cap, rfl, hcap, hsp, hl, hm⟩ := hS
  have hle := hP.le
  have hlen := hP.len
  have hn64 : n ≤ 64 := by omega
  have hN := valid_net hP.ip hn64 hP.pre
  have htop := hN.top
  have hposn := ln_pos n
  have hposb := ln_pos bits
  have e1 := po_pf hP.ip.len n (.slice q ls.length cap)
  have e3 := po_sl hP.ip.len n (.slice q ls.length cap)
  have e4 := poC_len hP.ip.len n (.slice q ls.length cap)
  refine fn_ofM (n := 68) [] Try.func43 rfl rfl rfl ?_
  intro a w F M hwW
  refine c_seq ?_
  refine c_region ?_
  (refine stepD rfl F rfl (o_box M (F.ev rfl) rfl ?_); clear F; clear M; intro b2 w M a F)
  (refine stepD rfl F rfl (o_alloc M ?_); clear F; clear M; intro b4 w M a F)
  refine stepD rfl F rfl (o_assign (F.ev rfl) ?_); clear F; clear a; intro a F
  with_reducible refine l_nil ?_
  with_reducible refine q_then ?_
  with_reducible refine c_seq ?_
  with_reducible refine c_region ?_
  refine stepD rfl F rfl (o_fieldAddr (F.ev rfl) ?_); clear F; clear a; intro a F
  refine stepD rfl F rfl (o_loadA M (F.ev rfl) (by repeat (first | exact .here | apply Has.there)) (by first | assumption | rfl) ?_); clear F; clear a; intro a F
  (refine stepD rfl F rfl (o_call (F.ev rfl) (F.evs rfl) (Cal.mono (blockN_c p n _ hN hn64 _) ?_)); clear F; clear a; rintro _ w ⟨rfl, hE⟩ a F; replace M := M.later hE; clear hE)
  refine stepD rfl F rfl (o_move (F.ev rfl) ?_); clear F; clear a; intro a F
  refine stepD rfl F rfl (o_extract (F.ev rfl) rfl ?_); clear F; clear a; intro a F
  refine stepD rfl F rfl (o_extract (F.ev rfl) rfl ?_); clear F; clear a; intro a F
  refine stepD rfl F rfl (o_assign (F.ev rfl) ?_); clear F; clear a; intro a F
  refine stepD rfl F rfl (o_assign (F.ev rfl) ?_); clear F; clear a; intro a F
  with_reducible refine l_nil ?_
  with_reducible refine q_then ?_
  with_reducible refine c_block ?_
  have hi0 : netN p + ln bits ≤ netN p + ln n := by have := ln_le hnb; omega
  refine c_loop (fun k a w => ∃ x : Nat, k = 18446744073709551616 - x ∧ x < 18446744073709551616 ∧ ln bits ∣ x ∧ netN p ≤ x ∧ x + ln bits ≤ netN p + ln n ∧ (∀ c, ln bits ∣ c → netN p ≤ c → c < x → Taken ls bits c) ∧ Frm a 68 [] [(6, .int .u64 (x : Int)), (7, .int .u64 ((netN p + ln n - 1 : Nat) : Int)), (2, .pointer (some ⟨b2, 0, none⟩)), (4, .pointer (some ⟨b4, 0, none⟩)), (1, .int .i64 bits)] ∧ Mem [] W w [(b4, .cells (pfC zeroIP 0).toArray 28 (0, 0)), (b2, .cells (poC p n (.slice q ls.length cap)).toArray 34 (0, 0))])
    (18446744073709551616 - netN p) ⟨netN p, rfl, hN.lt, Nat.dvd_trans (ln_dvd hnb) hN.dvd, Nat.le_refl _, hi0, fun c _ h1 h2 => by omega, F.only [6, 7, 2, 4, 1] rfl, M⟩ ?_
  clear F M
  rintro k a w ⟨x, hk, hx, hdx, hlo, hhi, hleast, F, M⟩
  have hC := net_of hx hdx
  with_reducible refine c_block ?_
  with_reducible refine c_seq ?_
  with_reducible refine c_region ?_
  (refine stepD rfl F rfl (o_alloc M ?_); clear F; clear M; intro b8 w M a F)
  with_reducible refine l_nil ?_
  with_reducible refine q_then ?_
  with_reducible refine c_seq ?_
  with_reducible refine c_seq ?_
  with_reducible refine c_region ?_
  refine stepD rfl F rfl (o_move (F.ev rfl) ?_); clear F; clear a; intro a F
  with_reducible refine l_nil ?_
  with_reducible refine q_then ?_
  with_reducible refine c_block ?_
  refine c_loop (fun k a w => ∃ i : Nat, k = 8 - i ∧ i ≤ 8 ∧ Frm a 68 [] [(22, .int .i64 i), (6, .int .u64 (x : Int)), (7, .int .u64 ((netN p + ln n - 1 : Nat) : Int)), (8, .pointer (some ⟨b8, 0, none⟩)), (2, .pointer (some ⟨b2, 0, none⟩)), (4, .pointer (some ⟨b4, 0, none⟩)), (1, .int .i64 bits)] ∧ Mem [] W w [(b8, .cells (frow x i).toArray 26 (0, 0)), (b4, .cells (pfC zeroIP 0).toArray 28 (0, 0)), (b2, .cells (poC p n (.slice q ls.length cap)).toArray 34 (0, 0))]) 8 ⟨0, rfl, by omega, F.only [22, 6, 7, 8, 2, 4, 1] rfl, M⟩ ?_
  clear F M
  rintro k' a w ⟨i, hk', hi, F, M⟩
  by_cases hlt : i < 8
  · with_reducible refine c_seq ?_
    with_reducible refine c_region ?_
    refine stepD rfl F rfl (o_lssT (F.ev rfl) (F.ev rfl) (by omega) ?_); clear F; clear a; intro a F
    with_reducible refine l_nil ?_
    with_reducible refine q_then ?_
    with_reducible refine c_seq ?_
    refine c_true F rfl rfl ?_
    with_reducible refine c_skip ?_
    with_reducible refine q_then ?_
    with_reducible refine c_seq ?_
    with_reducible refine c_block ?_
    with_reducible refine c_seq ?_
    with_reducible refine c_region ?_
    refine stepD rfl F rfl (o_move (F.ev rfl) ?_); clear F; clear a; intro a F
    refine stepD rfl F rfl (o_assign (F.ev rfl) ?_); clear F; clear a; intro a F
    with_reducible refine l_nil ?_
    with_reducible refine q_then ?_
    with_reducible refine c_region ?_
    refine stepD rfl F rfl (o_move (F.ev rfl) ?_); clear F; clear a; intro a F
    refine stepD rfl F rfl (o_move (F.ev rfl) ?_); clear F; clear a; intro a F
    refine stepD rfl F rfl (o_move (F.ev rfl) ?_); clear F; clear a; intro a F
    refine stepD rfl F rfl (o_mul (F.ev rfl) (F.ev rfl) (w_i64 (by omega) (by omega)) ?_); clear F; clear a; intro a F
    refine stepD rfl F rfl (o_sub (F.ev rfl) (F.ev rfl) (w_i64 (by omega) (by omega)) ?_); clear F; clear a; intro a F
    refine stepD rfl F rfl (o_shr (F.ev rfl) (F.ev rfl) (by omega) rfl ?_); clear F; clear a; intro a F
    refine stepD rfl F rfl (o_conv (F.ev rfl) rfl ?_); clear F; clear a; intro a F
    refine stepD rfl F rfl (o_indexArr (F.ev rfl) (F.ev rfl) (by omega) (by omega) ?_); clear F; clear a; intro a F
    have e5 : IntKind.u8.wrap (Int.fdiv (x : Int) (2 ^ min (56 - 8 * (i : Int)).toNat IntKind.u64.bits)) = beAt (x : Int) i := by
      unfold beAt
      rw [show (56 - 8 * (i : Int)) = 8 * (8 - 1 - (i : Int)) by omega]
      rfl
    rw [e5] at F
    (refine stepN rfl F (o_store1 M (F.ev rfl) (F.ev rfl) rfl (by repeat (first | exact .here | apply Has.there)) (put_frow hlt (by omega)) (by repeat (first | exact .here | apply Upd.there)) ?_); clear F; clear M; intro w M a F)
    with_reducible refine l_nil ?_
    with_reducible refine q_inB ?_
    with_reducible refine q_then ?_
    with_reducible refine c_region ?_
    refine stepD rfl F rfl (o_add (F.ev rfl) (F.ev rfl) (w_i64 (by omega) (by omega)) ?_); clear F; clear a; intro a F
    refine stepD rfl F rfl (o_move (F.ev rfl) ?_); clear F; clear a; intro a F
    with_reducible refine l_nil ?_
    with_reducible refine q_then ?_
    exact ⟨_, by omega, i + 1, rfl, by omega, F.only [22, 6, 7, 8, 2, 4, 1] rfl, M⟩
  · obtain rfl : i = 8 := by omega
    rw [frow_all] at M
    clear hk'
    obtain ⟨ip, hip⟩ : ∃ ip, ip = beB (x : Int) ++ z8 := ⟨_, rfl⟩
    rw [← hip] at M hC
    have f1 := ipC_len hC.ip.len
    have f2 := seg_all f1
    have f3 := pfC_len hC.ip.len bits
    have f4 := seg_pf hC.ip.len bits
    with_reducible refine c_seq ?_
    with_reducible refine c_region ?_
    refine stepD rfl F rfl (o_lssF (F.ev rfl) (F.ev rfl) (by omega) ?_); clear F; clear a; intro a F
    with_reducible refine l_nil ?_
    with_reducible refine q_then ?_
    with_reducible refine c_seq ?_
    refine c_false F rfl rfl ?_
    with_reducible refine c_exit ?_
    with_reducible refine q_thenX ?_
    with_reducible refine q_thenX ?_
    with_reducible refine q_inBX ?_
    with_reducible refine q_then ?_
    with_reducible refine c_seq ?_
    with_reducible refine c_region ?_
    refine stepD rfl F rfl (o_loadA M (F.ev rfl) (by repeat (first | exact .here | apply Has.there)) (by first | assumption | rfl) ?_); clear F; clear a; intro a F
    refine stepD rfl F rfl (o_move (F.ev rfl) ?_); clear F; clear a; intro a F
    (refine stepD rfl F rfl (o_build F rfl (build_pf hC.ip.len bits) ?_); clear F; clear a; intro a F)
    (refine stepD rfl F rfl (o_alloc M ?_); clear F; clear M; intro b10 w M a F)
    (refine stepN rfl F (o_storeA M (F.ev rfl) (F.ev rfl) (f3) (pf_one _ _)  (by repeat (first | exact .here | apply Has.there))  (put_all (by rw [f3]; rfl)) (by repeat (first | exact .here | apply Upd.there)) ?_); clear F; clear M; intro w M a F)
    with_reducible refine l_nil ?_
    with_reducible refine q_then ?_
    with_reducible refine c_seq ?_
    with_reducible refine c_region ?_
    refine stepD rfl F rfl (o_fieldAddr (F.ev rfl) ?_); clear F; clear a; intro a F
    refine stepD rfl F rfl (o_load1 M (F.ev rfl) (by repeat (first | exact .here | apply Has.there)) (by first | assumption | rfl) ?_); clear F; clear a; intro a F
    (refine stepD rfl F rfl (o_makeFunc (F.evs (xs := []) rfl) (F.evs (xs := [.tmp 10]) rfl) ?_); clear F; clear a; intro a F)
    (refine stepD rfl F rfl (o_call (F.ev rfl) (F.evs rfl) (Cal.mono (index_c w (hS0.later M.ext) hle (by omega) 76 [.pointer (some ⟨b10, 0, none⟩)] (fun l => overlapP l.ip l.bits ip bits) (fun w' l E hlm => free1_c l (hle l hlm) ip bits hC.ip.len w' ((M.later E).heap .here))) ?_)); clear F; clear a; rintro _ w ⟨rfl, hE⟩ a F; replace M := M.later hE; clear hE)
    rcases findI_cases (fun l => overlapP l.ip l.bits ip bits) ls with ⟨hf, hno⟩ | ⟨i, hi, hf, hyes, _⟩
    · rw [hf] at F
      refine stepD rfl F rfl (o_assign (F.ev rfl) ?_); clear F; clear a; intro a F
      with_reducible refine l_nil ?_
      with_reducible refine q_then ?_
      with_reducible refine c_seq ?_
      with_reducible refine c_seq ?_
      with_reducible refine c_region ?_
      refine stepD rfl F rfl (o_move (F.ev rfl) ?_); clear F; clear a; intro a F
      refine stepD rfl F rfl (o_lssT (F.ev rfl) (F.ev rfl) (by omega) ?_); clear F; clear a; intro a F
      with_reducible refine l_nil ?_
      with_reducible refine q_then ?_
      refine c_true F rfl rfl ?_
      with_reducible refine c_seq ?_
      with_reducible refine c_region ?_
      refine stepD rfl F rfl (o_loadA M (F.ev rfl) (by repeat (first | exact .here | apply Has.there)) (by first | assumption | rfl) ?_); clear F; clear a; intro a F
      (refine stepN rfl F (o_storeA M (F.ev rfl) (F.ev rfl) (f3) (pf_one _ _)  (by repeat (first | exact .here | apply Has.there))  (put_all (by rw [f3]; rfl)) (by repeat (first | exact .here | apply Upd.there)) ?_); clear F; clear M; intro w M a F)
      refine stepD rfl F rfl (o_assign (F.ev rfl) ?_); clear F; clear a; intro a F
      with_reducible refine l_nil ?_
      with_reducible refine q_then ?_
      with_reducible refine c_ret ?_
      with_reducible refine q_thenR ?_
      with_reducible refine q_inBR ?_
      with_reducible refine q_thenR ?_
      with_reducible refine q_inBR ?_
      refine p_ret F rfl (.cons (.cell (F.ev rfl) (run_loadVar_agg TAgg.h (M.heap (by repeat (first | exact .here | apply Has.there))) f4)) (.cons (.tmp (F.ev rfl)) .nil)) ⟨.inl ⟨x, by rw [← hip]; rfl, hx, hdx, hlo, hhi, fun l hlm => by rw [← hip]; exact hno l hlm, hleast⟩, M.ext⟩
    · rw [hf] at F
      obtain ⟨b, o, cs, t, fz, rfl, hb, hs⟩ := hm (by omega)
      obtain ⟨l, hl0⟩ : ∃ l, l = ls[i] := ⟨_, rfl⟩
      have hlm : l ∈ ls := by rw [hl0]; exact List.getElem_mem hi
      have hlo' := hP.each l hlm
      obtain ⟨m, hm1, hm2, hm3, hm4⟩ := net_lease hn64 hlo'
      have g1 : seg cs (o + (i : Int).toNat * 19) 19 = some (leC l) := by rw [hl0]; exact seg_el (les_len hle) hs hi (by omega)
      have g2 : seg cs (o + (i : Int).toNat * 19) 17 = some (pfC l.ip m) := by rw [← hm1]; exact sg_seg g1 (le_pf hlo'.ip.len) (by omega)
      have hov : overlapP l.ip l.bits (beB (x : Int) ++ z8) bits = true := by rw [hl0, ← hip]; exact hyes
      clear hyes hl0 g1
      have htl := hm4.top
      have hpm := ln_pos m
      have htc := hC.top
      obtain ⟨last, hlast⟩ : ∃ last, last = max (x + ln bits - 1) (netN l.ip + ln m - 1) := ⟨_, rfl⟩
      obtain ⟨s1, s2⟩ := free_step hN hnb hb64 (by rw [← hip]; exact hC) hlo hhi hleast hlm hm1 hm3 hm4 hov hlast
      refine stepD rfl F rfl (o_assign (F.ev rfl) ?_); clear F; clear a; intro a F
      with_reducible refine l_nil ?_
      with_reducible refine q_then ?_
      with_reducible refine c_seq ?_
      with_reducible refine c_seq ?_
      with_reducible refine c_region ?_
      refine stepD rfl F rfl (o_move (F.ev rfl) ?_); clear F; clear a; intro a F
      refine stepD rfl F rfl (o_lssF (F.ev rfl) (F.ev rfl) (by omega) ?_); clear F; clear a; intro a F
      with_reducible refine l_nil ?_
      with_reducible refine q_then ?_
      refine c_false F rfl rfl ?_
      with_reducible refine c_skip ?_
      with_reducible refine q_then ?_
      with_reducible refine c_seq ?_
      with_reducible refine c_region ?_
      refine stepD rfl F rfl (o_loadA M (F.ev rfl) (by repeat (first | exact .here | apply Has.there)) (by first | assumption | rfl) ?_); clear F; clear a; intro a F
      (refine stepD rfl F rfl (o_call (F.ev rfl) (F.evs rfl) (Cal.mono (blockN_c ip bits x hC hb64 _) ?_)); clear F; clear a; rintro _ w ⟨rfl, hE⟩ a F; replace M := M.later hE; clear hE)
      refine stepD rfl F rfl (o_move (F.ev rfl) ?_); clear F; clear a; intro a F
      refine stepD rfl F rfl (o_extract (F.ev rfl) rfl ?_); clear F; clear a; intro a F
      refine stepD rfl F rfl (o_extract (F.ev rfl) rfl ?_); clear F; clear a; intro a F
      refine stepD rfl F rfl (o_assign (F.ev rfl) ?_); clear F; clear a; intro a F
      refine stepD rfl F rfl (o_assign (F.ev rfl) ?_); clear F; clear a; intro a F
      with_reducible refine l_nil ?_
      with_reducible refine q_then ?_
      with_reducible refine c_seq ?_
      with_reducible refine c_region ?_
      refine stepD rfl F rfl (o_fieldAddr (F.ev rfl) ?_); clear F; clear a; intro a F
      refine stepD rfl F rfl (o_load1 M (F.ev rfl) (by repeat (first | exact .here | apply Has.there)) (by first | assumption | rfl) ?_); clear F; clear a; intro a F
      refine stepD rfl F rfl (o_move (F.ev rfl) ?_); clear F; clear a; intro a F
      refine stepD rfl F rfl (o_indexSl (F.ev rfl) (F.ev rfl) (by omega) (by omega) ?_); clear F; clear a; intro a F
      refine stepD rfl F rfl (o_fieldAddr (F.ev rfl) ?_); clear F; clear a; intro a F
      refine stepD rfl F rfl (o_loadWA M (F.ev rfl) (by assumption) (by first | assumption | rfl) ?_); clear F; clear a; intro a F
      (refine stepD rfl F rfl (o_call (F.ev rfl) (F.evs rfl) (Cal.mono (blockN_c l.ip m _ hm4 hm3 _) ?_)); clear F; clear a; rintro _ w ⟨rfl, hE⟩ a F; replace M := M.later hE; clear hE)
      refine stepD rfl F rfl (o_move (F.ev rfl) ?_); clear F; clear a; intro a F
      refine stepD rfl F rfl (o_extract (F.ev rfl) rfl ?_); clear F; clear a; intro a F
      refine stepD rfl F rfl (o_extract (F.ev rfl) rfl ?_); clear F; clear a; intro a F
      refine stepD rfl F rfl (o_assign (F.ev rfl) ?_); clear F; clear a; intro a F
      refine stepD rfl F rfl (o_assign (F.ev rfl) ?_); clear F; clear a; intro a F
      with_reducible refine l_nil ?_
      with_reducible refine q_then ?_
      with_reducible refine c_seq ?_
      with_reducible refine c_region ?_
      refine stepD rfl F rfl (o_move (F.ev rfl) ?_); clear F; clear a; intro a F
      refine stepD rfl F rfl (o_move (F.ev rfl) ?_); clear F; clear a; intro a F
      refine stepD rfl F rfl (o_max (F.ev rfl) (F.ev rfl) ?_); clear F; clear a; intro a F
      refine stepD rfl F rfl (o_assign (F.ev rfl) ?_); clear F; clear a; intro a F
      with_reducible refine l_nil ?_
      with_reducible refine q_then ?_
      with_reducible refine c_seq ?_
      with_reducible refine c_seq ?_
      with_reducible refine c_region ?_
      refine stepD rfl F rfl (o_move (F.ev rfl) ?_); clear F; clear a; intro a F
      refine stepD rfl F rfl (o_move (F.ev rfl) ?_); clear F; clear a; intro a F
      refine stepD rfl F rfl (o_geq (F.ev rfl) (F.ev rfl) ?_); clear F; clear a; intro a F
      with_reducible refine l_nil ?_
      with_reducible refine q_then ?_
      rw [show (if ((x + ln bits - 1 : Nat) : Int) < ((netN l.ip + ln m - 1 : Nat) : Int) then ((netN l.ip + ln m - 1 : Nat) : Int) else ((x + ln bits - 1 : Nat) : Int)) = (last : Int) by split <;> omega] at F
      by_cases hend : netN p + ln n - 1 ≤ last
      · rw [decide_eq_true (show ((netN p + ln n - 1 : Nat) : Int) ≤ (last : Int) by omega)] at F
        refine c_true F rfl rfl ?_
        with_reducible refine c_seq ?_
        with_reducible refine c_region ?_
        refine stepD rfl F rfl (o_build F rfl rfl ?_); clear F; clear a; intro a F
        (refine stepN rfl F (o_storeA M (F.ev rfl) (F.ev rfl) (by rfl) (by rfl) (by repeat (first | exact .here | apply Has.there)) (by rfl) (by repeat (first | exact .here | apply Upd.there)) ?_); clear F; clear M; intro w M a F)
        refine stepD rfl F rfl (o_assign (F.ev rfl) ?_); clear F; clear a; intro a F
        with_reducible refine l_nil ?_
        with_reducible refine q_then ?_
        with_reducible refine c_ret ?_
        with_reducible refine q_thenR ?_
        with_reducible refine q_inBR ?_
        with_reducible refine q_thenR ?_
        with_reducible refine q_inBR ?_
        refine p_ret F rfl (.cons (.cell (F.ev rfl) (run_loadVar_agg TAgg.h (M.heap (by repeat (first | exact .here | apply Has.there))) rfl)) (.cons (.tmp (F.ev rfl)) .nil)) ⟨.inr ⟨rfl, fun c h1 h2 h3 => s1 c h1 h2 (by omega) h3⟩, M.ext⟩
      · obtain ⟨t1, t2, t3, t4⟩ := s2 (by omega)
        rw [decide_eq_false (show ¬ ((netN p + ln n - 1 : Nat) : Int) ≤ (last : Int) by omega)] at F
        refine c_false F rfl rfl ?_
        with_reducible refine c_skip ?_
        with_reducible refine q_then ?_
        with_reducible refine c_region ?_
        refine stepD rfl F rfl (o_move (F.ev rfl) ?_); clear F; clear a; intro a F
        refine stepD rfl F rfl (o_add (F.ev rfl) (F.ev rfl) (w_u64 (by omega) (by omega)) ?_); clear F; clear a; intro a F
        refine stepD rfl F rfl (o_assign (F.ev rfl) ?_); clear F; clear a; intro a F
        with_reducible refine l_nil ?_
        with_reducible refine q_inB ?_
        with_reducible refine q_then ?_
        refine ⟨_, ?_, last + 1, rfl, t4, t1, t2, t3, fun c h1 h2 h3 => s1 c h1 h2 h3 ?_, F.only [6, 7, 2, 4, 1] rfl, M.sub (.cons _ (.cons _ (.refl _)))⟩
        · omega
        · obtain ⟨y, hy⟩ := h1
          obtain ⟨z, hz⟩ := t1
          have h4 : ln bits * y < ln bits * z := by omega
          have h5 := Nat.mul_le_mul_left (ln bits) (Nat.lt_of_mul_lt_mul_left h4)
          rw [Nat.mul_succ] at h5
          omega
end Go.Proofs.Ytainnefmobfcjaa

/-! E7 -/
/-
  border.Delegate: what it answers.
-/
namespace Go.Proofs.Ytainnefmobfcjaa
set_option linter.unusedVariables false
set_option linter.unusedSimpArgs false
open Go.RowKit
attribute [local irreducible] OpTo wpListIn Code.wpIn MW Cal

/-- the leases that have not expired -/
def cur (ls : List Lease) (now : Int) : List Lease := ls.filter fun l => decide (now < l.til)
theorem PoolOk.filter {p : List Int} {n : Int} {ls : List Lease} (h : PoolOk p n ls) (f : Lease → Bool) : PoolOk p n (ls.filter f) :=
  ⟨h.ip, h.pre, h.bits, Nat.le_trans (List.length_filter_le _ _) h.len, fun l hl => h.each l (List.mem_filter.1 hl).1, h.pw.filter _⟩
theorem cur_take_succ {ls : List Lease} {now : Int} {i : Nat} (hi : i < ls.length) : cur (ls.take (i + 1)) now = cur (ls.take i) now ++ if now < ls[i].til then [ls[i]] else [] := by
  unfold cur
  rw [List.take_add_one, List.getElem?_eq_getElem hi, List.filter_append]
  congr 1
  simp only [Option.toList_some, List.filter_cons, List.filter_nil]
  by_cases h : now < ls[i].til <;> simp [h]
theorem cur_mem {ls : List Lease} {now : Int} {l : Lease} (h : l ∈ cur ls now) : l ∈ ls ∧ now < l.til := by
  unfold cur at h
  simpa using h

def mine (own : Int) (bits : Nat) (l : Lease) : Bool := l.own == own && l.bits == (bits : Int)
/-- where a prefix comes in -/
def place (cs : List Lease) (ip : List Int) : Nat := (let i := findI (fun l : Lease => decide (0 < cmpL l.ip ip)) cs; if i < 0 then cs.length else i.toNat)
inductive DelOk (p : List Int) (n : Nat) (cs : List Lease) (own : Int) (bits : Nat) (til : Int) : List Lease → List Int → Prop
  | old (i : Nat) (hi : i < cs.length) (hm : mine own bits cs[i] = true) : DelOk p n cs own bits til (cs.set i { cs[i] with til := if cs[i].til < til then til else cs[i].til }) cs[i].ip
  | new (a : Nat) (hno : ∀ l ∈ cs, mine own bits l = false) (hlen : cs.length < 64) (hf : FreeAt p n cs bits a) : DelOk p n cs own bits til (cs.take (place cs (beB (a : Int) ++ z8)) ++ (⟨beB (a : Int) ++ z8, bits, own, til⟩ :: cs.drop (place cs (beB (a : Int) ++ z8)))) (beB (a : Int) ++ z8)
def DelFull (p : List Int) (n : Nat) (cs : List Lease) (own : Int) (bits : Nat) : Prop :=
  (∀ l ∈ cs, mine own bits l = false) ∧ (64 ≤ cs.length ∨ ∀ c, ln bits ∣ c → netN p ≤ c → c + ln bits ≤ netN p + ln n → Taken cs bits c)

theorem build_po {p : List Int} (hp : p.length = 16) (n : Int) : putAll [(0, 17), (17, 1)] [.int .u8 0, .int .u8 0, .int .u8 0, .int .u8 0, .int .u8 0, .int .u8 0, .int .u8 0, .int .u8 0, .int .u8 0, .int .u8 0, .int .u8 0, .int .u8 0, .int .u8 0, .int .u8 0, .int .u8 0, .int .u8 0, .int .i64 0, .slice none 0 0] [(0, pfC p n)] = some (poC p n (.slice none 0 0)) := by
  obtain ⟨x0, x1, x2, x3, x4, x5, x6, x7, x8, x9, x10, x11, x12, x13, x14, x15, rfl⟩ := len16 hp
  rfl
theorem po_one (p : List Int) (n : Int) (q : Option Addr) (k c : Nat) : (poC p n (.slice q k c)).all (·.oneCell') = true := by simp [poC, pfC, ipC, Value.oneCell']
def leZ : List Value := [.int .u8 0, .int .u8 0, .int .u8 0, .int .u8 0, .int .u8 0, .int .u8 0, .int .u8 0, .int .u8 0, .int .u8 0, .int .u8 0, .int .u8 0, .int .u8 0, .int .u8 0, .int .u8 0, .int .u8 0, .int .u8 0, .int .i64 0, .int .u64 0, .int .i64 0]
theorem build_le1 {l : Lease} (h : l.ip.length = 16) : putAll (placesL 1 19) (zerosL leZ (1 * 19)) [(0, leC l)] = some (leC l) := by
  obtain ⟨ip, bits, own, til⟩ := l
  obtain ⟨x0, x1, x2, x3, x4, x5, x6, x7, x8, x9, x10, x11, x12, x13, x14, x15, rfl⟩ := len16 h
  rfl
theorem build_le {ip : List Int} (h : ip.length = 16) (bits own til : Int) : putAll [(0, 17), (17, 1), (18, 1)] leZ [(0, pfC ip bits), (1, [.int .u64 own]), (2, [.int .i64 til])] = some (leC ⟨ip, bits, own, til⟩) := by
  obtain ⟨x0, x1, x2, x3, x4, x5, x6, x7, x8, x9, x10, x11, x12, x13, x14, x15, rfl⟩ := len16 h
  rfl
theorem les_all {ls : List Lease} : (lesC ls).all (·.oneCell') = true := encL_all fun l _ => le_one l
theorem les_snoc (ls : List Lease) (l : Lease) : lesC (ls ++ [l]) = lesC ls ++ leC l := by rw [lesC, encL_app, encL_one]

theorem les_put {cs : List Lease} (junk : List Value) {i : Nat} (hi : i < cs.length) (hip : cs[i].ip.length = 16) (hle : ∀ l ∈ cs, IsLe l) (t : Int) {q : Nat} (hq : q = i * 19 + 18) : put (lesC cs ++ junk) q [.int .i64 t] = some (lesC (cs.set i { cs[i] with til := t }) ++ junk) := by
  have e1 : cs = cs.take i ++ cs[i] :: cs.drop (i + 1) := by rw [List.getElem_cons_drop, List.take_append_drop]
  have e2 : cs.set i { cs[i] with til := t } = cs.take i ++ ({ cs[i] with til := t } : Lease) :: cs.drop (i + 1) := by rw [List.set_eq_take_append_cons_drop, if_pos hi]
  have hA : (lesC (cs.take i)).length = i * 19 := by
    have := encL_len (les_len (ls := cs.take i) fun l hl => hle l (List.mem_of_mem_take hl))
    rw [this, List.length_take, Nat.min_eq_left (by omega)]
  have hl : ∀ l : Lease, leC l = (pfC l.ip l.bits ++ [.int .u64 l.own]) ++ [.int .i64 l.til] := fun l => by simp [leC]
  have f1 : lesC cs ++ junk = (lesC (cs.take i) ++ (pfC cs[i].ip cs[i].bits ++ [.int .u64 cs[i].own])) ++ ([.int .i64 cs[i].til] ++ (lesC (cs.drop (i + 1)) ++ junk)) := by
    conv => lhs; rw [e1]
    rw [lesC, encL_app, encL_cons, hl]
    simp only [List.append_assoc]
  have f2 : lesC (cs.set i { cs[i] with til := t }) ++ junk = (lesC (cs.take i) ++ (pfC cs[i].ip cs[i].bits ++ [.int .u64 cs[i].own])) ++ ([.int .i64 t] ++ (lesC (cs.drop (i + 1)) ++ junk)) := by
    rw [e2, lesC, encL_app, encL_cons, hl]
    simp only [List.append_assoc]
  rw [f1, f2]
  exact put_mid (by simp only [List.length_append, hA, pfC_len hip, List.length_cons, List.length_nil]; omega) rfl

set_option maxHeartbeats 8000000 in
theorem delegate_c (p : List Int) (n : Nat) (ls : List Lease) (hP : PoolOk p n ls) (v : Value) (W : World) (hS : SlAt W 19 v ls.length (lesC ls)) (now : Int) (hnow : isTime now = true) (own : Int) (ho0 : 1 ≤ own) (ho1 : own ≤ 18446744073709551615) (bits : Nat) (hnb : n ≤ bits) (hb64 : bits ≤ 64) (life : Int) (hl0 : 1 ≤ life) (hl1 : life ≤ 1099511627776) :
    Cal Try.prog 13 [.agg (poC p n v).toArray, .int .i64 now, .int .u64 own, .int .i64 bits, .int .i64 life].toArray W fun x w' =>
      (∃ ls2 qip v2 ent2, x = .tuple #[.agg (poC p n v2).toArray, .agg (pfC qip bits).toArray, .int .i64 0] ∧ OwnS 44 19 v2 ls2.length (lesC ls2) ent2 ∧ Mem [] W w' ent2 ∧ DelOk p n (cur ls now) own bits (laterV now life) ls2 qip)
      ∨ (x = .tuple #[.agg (poC zeroIP 0 (.slice none 0 0)).toArray, .agg (pfC zeroIP 0).toArray, .int .i64 10] ∧ Ext [] W w' ∧ DelFull p n (cur ls now) own bits) := by
  have hS0 := hS
  obtain ⟨q, cap, rfl, hcap, hsp, hl, hm⟩ := hS
  have hle := hP.le
  have hlen := hP.len
  have hn64 : n ≤ 64 := by omega
  have hnow' : 0 ≤ now ∧ now ≤ 1099511627776 := by unfold isTime at hnow; simpa using hnow
  have e1 := po_pf hP.ip.len n (.slice q ls.length cap)
  have e2 := po_bits hP.ip.len n (.slice q ls.length cap)
  have e3 := po_sl hP.ip.len n (.slice q ls.length cap)
  have e4 := poC_len hP.ip.len n (.slice q ls.length cap)
  have e5 := po_all hP.ip.len n (.slice q ls.length cap)
  have e6 := poC_len hP.ip.len n (.slice none 0 0)
  refine fn_ofM (n := 140) [] Try.func13 rfl rfl rfl ?_
  intro a w F M hwW
  refine c_seq ?_
  refine c_region ?_
  (refine stepD rfl F rfl (o_box M (F.ev rfl) rfl ?_); clear F; clear M; intro b5 w M a F)
  (refine stepD rfl F rfl (o_box M (F.ev rfl) rfl ?_); clear F; clear M; intro b7 w M a F)
  (refine stepD rfl F rfl (o_box M (F.ev rfl) rfl ?_); clear F; clear M; intro b8 w M a F)
  (refine stepD rfl F rfl (o_alloc M ?_); clear F; clear M; intro b10 w M a F)
  (refine stepD rfl F rfl (o_alloc M ?_); clear F; clear M; intro b11 w M a F)
  refine stepD rfl F rfl (o_assign (F.ev rfl) ?_); clear F; clear a; intro a F
  with_reducible refine l_nil ?_
  with_reducible refine q_then ?_
  with_reducible refine c_seq ?_
  with_reducible refine c_seq ?_
  with_reducible refine c_region ?_
  refine stepD rfl F rfl (o_loadA M (F.ev rfl) (by repeat (first | exact .here | apply Has.there)) (by first | assumption | rfl) ?_); clear F; clear a; intro a F
  (refine stepD rfl F rfl (o_call (F.ev rfl) (F.evs rfl) (Cal.mono (validPool_c p n ls hP _ _ (hS0.later M.ext)) ?_)); clear F; clear a; rintro _ w ⟨rfl, hE⟩ a F; replace M := M.later hE; clear hE)
  refine stepD rfl F rfl (o_not (F.ev rfl) ?_); clear F; clear a; intro a F
  refine stepD rfl F rfl (o_move (F.ev rfl) ?_); clear F; clear a; intro a F
  refine stepG rfl F rfl rfl rfl (o_load1 M (F.ev rfl) (by repeat (first | exact .here | apply Has.there)) (by first | assumption | rfl) ?_); clear F; clear a; intro a F
  refine stepG rfl F rfl rfl rfl (o_eqlF (F.ev rfl) (F.ev rfl) (by omega) ?_); clear F; clear a; intro a F
  refine stepD rfl F rfl (o_pickF (F.ev rfl) (F.ev rfl) ?_); clear F; clear a; intro a F
  with_reducible refine l_nil ?_
  with_reducible refine q_then ?_
  refine c_false F rfl rfl ?_
  with_reducible refine c_skip ?_
  with_reducible refine q_then ?_
  with_reducible refine c_seq ?_
  with_reducible refine c_seq ?_
  with_reducible refine c_region ?_
  refine stepD rfl F rfl (o_move (F.ev rfl) ?_); clear F; clear a; intro a F
  (refine stepD rfl F rfl (o_call (F.ev rfl) (F.evs rfl) (Cal.mono (isTime_c now _) ?_)); clear F; clear a; rintro _ w ⟨rfl, hE⟩ a F; replace M := M.later hE; clear hE)
  rw [hnow] at F
  refine stepD rfl F rfl (o_not (F.ev rfl) ?_); clear F; clear a; intro a F
  refine stepD rfl F rfl (o_move (F.ev rfl) ?_); clear F; clear a; intro a F
  refine stepG rfl F rfl rfl rfl (o_load1 M (F.ev rfl) (by repeat (first | exact .here | apply Has.there)) (by first | assumption | rfl) ?_); clear F; clear a; intro a F
  refine stepG rfl F rfl rfl rfl (o_fieldAddr (F.ev rfl) ?_); clear F; clear a; intro a F
  refine stepG rfl F rfl rfl rfl (o_fieldAddr (F.ev rfl) ?_); clear F; clear a; intro a F
  refine stepG rfl F rfl rfl rfl (o_load1 M (F.ev rfl) (by repeat (first | exact .here | apply Has.there)) (by first | assumption | rfl) ?_); clear F; clear a; intro a F
  refine stepG rfl F rfl rfl rfl (o_lssF (F.ev rfl) (F.ev rfl) (by omega) ?_); clear F; clear a; intro a F
  refine stepD rfl F rfl (o_pickF (F.ev rfl) (F.ev rfl) ?_); clear F; clear a; intro a F
  refine stepD rfl F rfl (o_move (F.ev rfl) ?_); clear F; clear a; intro a F
  refine stepG rfl F rfl rfl rfl (o_load1 M (F.ev rfl) (by repeat (first | exact .here | apply Has.there)) (by first | assumption | rfl) ?_); clear F; clear a; intro a F
  refine stepG rfl F rfl rfl rfl (o_gtrF (F.ev rfl) (F.ev rfl) (by omega) ?_); clear F; clear a; intro a F
  refine stepD rfl F rfl (o_pickF (F.ev rfl) (F.ev rfl) ?_); clear F; clear a; intro a F
  refine stepD rfl F rfl (o_move (F.ev rfl) ?_); clear F; clear a; intro a F
  refine stepG rfl F rfl rfl rfl (o_move (F.ev rfl) ?_); clear F; clear a; intro a F
  refine stepG rfl F rfl rfl rfl (o_lssF (F.ev rfl) (F.ev rfl) (by omega) ?_); clear F; clear a; intro a F
  refine stepD rfl F rfl (o_pickF (F.ev rfl) (F.ev rfl) ?_); clear F; clear a; intro a F
  refine stepD rfl F rfl (o_move (F.ev rfl) ?_); clear F; clear a; intro a F
  refine stepG rfl F rfl rfl rfl (o_move (F.ev rfl) ?_); clear F; clear a; intro a F
  refine stepG rfl F rfl rfl rfl (o_gtrF (F.ev rfl) (F.ev rfl) (by omega) ?_); clear F; clear a; intro a F
  refine stepD rfl F rfl (o_pickF (F.ev rfl) (F.ev rfl) ?_); clear F; clear a; intro a F
  with_reducible refine l_nil ?_
  with_reducible refine q_then ?_
  refine c_false F rfl rfl ?_
  with_reducible refine c_skip ?_
  with_reducible refine q_then ?_
  with_reducible refine c_seq ?_
  with_reducible refine c_region ?_
  refine stepD rfl F rfl (o_fieldAddr (F.ev rfl) ?_); clear F; clear a; intro a F
  refine stepD rfl F rfl (o_loadA M (F.ev rfl) (by repeat (first | exact .here | apply Has.there)) (by first | assumption | rfl) ?_); clear F; clear a; intro a F
  (refine stepD rfl F rfl (o_build F rfl (build_po hP.ip.len n) ?_); clear F; clear a; intro a F)
  (refine stepD rfl F rfl (o_alloc M ?_); clear F; clear M; intro b13 w M a F)
  (refine stepN rfl F (o_storeA M (F.ev rfl) (F.ev rfl) (e6) (po_one _ _ _ _ _)  (by repeat (first | exact .here | apply Has.there))  (put_all (by rw [e6]; rfl)) (by repeat (first | exact .here | apply Upd.there)) ?_); clear F; clear M; intro w M a F)
  with_reducible refine l_nil ?_
  with_reducible refine q_then ?_
  with_reducible refine c_seq ?_
  with_reducible refine c_seq ?_
  with_reducible refine c_region ?_
  refine stepD rfl F rfl (o_fieldAddr (F.ev rfl) ?_); clear F; clear a; intro a F
  refine stepD rfl F rfl (o_load1 M (F.ev rfl) (by repeat (first | exact .here | apply Has.there)) (by first | assumption | rfl) ?_); clear F; clear a; intro a F
  refine stepD rfl F rfl (o_lenSl (F.ev rfl) ?_); clear F; clear a; intro a F
  refine stepD rfl F rfl (o_move (F.ev rfl) ?_); clear F; clear a; intro a F
  with_reducible refine l_nil ?_
  with_reducible refine q_then ?_
  with_reducible refine c_block ?_
  refine c_loop (fun k a w => ∃ (i : Nat) (u : Value) (ent : List (Nat × Obj)), k = ls.length - i ∧ i ≤ ls.length ∧ OwnS 44 19 u (cur (ls.take i) now).length (lesC (cur (ls.take i) now)) ent ∧
    Frm a 140 [] [(59, .int .i64 i), (58, .int .i64 ls.length), (57, .slice q ls.length cap), (1, .int .i64 now), (4, .int .i64 life), (5, .pointer (some ⟨b5, 0, none⟩)), (7, .pointer (some ⟨b7, 0, none⟩)), (8, .pointer (some ⟨b8, 0, none⟩)), (10, .pointer (some ⟨b10, 0, none⟩)), (11, .pointer (some ⟨b11, 0, none⟩)), (13, .pointer (some ⟨b13, 0, none⟩))] ∧
    Mem [] W w ((b13, .cells (poC p n u).toArray 34 (0, 0)) :: (b11, .cells (pfC zeroIP 0).toArray 28 (0, 0)) :: (b10, .cells (poC zeroIP 0 (.slice none 0 0)).toArray 34 (0, 0)) :: (b8, .cells [.int .i64 (bits : Int)].toArray 3 (0, 0)) :: (b7, .cells [.int .u64 own].toArray 36 (0, 0)) :: ent))
    ls.length ⟨0, .slice none 0 0, [], rfl, by omega, OwnS.nil _ _, F.only [59, 58, 57, 1, 4, 5, 7, 8, 10, 11, 13] rfl, ?_⟩ ?_
  · exact M.sub (.cons_cons _ (.cons_cons _ (.cons_cons _ (.cons_cons _ (.cons_cons _ (List.nil_sublist _))))))
  clear F M
  rintro k a w ⟨i, u, ent, hk, hi, hO, F, M⟩
  obtain ⟨uq, ucap, rfl⟩ := hO.slice
  have g0 := po_sl hP.ip.len n (.slice uq (cur (ls.take i) now).length ucap)
  have hcl : (cur (ls.take i) now).length ≤ 64 := by
    have h1 : (cur (ls.take i) now).length ≤ (ls.take i).length := List.length_filter_le _ _
    have h2 : (ls.take i).length ≤ ls.length := by simp; omega
    omega
  by_cases hlt : i < ls.length
  · obtain ⟨b, o, cs, t, fz, rfl, hb, hs⟩ := hm (by omega)
    have hct := cur_take_succ (now := now) hlt
    obtain ⟨l, hl0⟩ : ∃ l, l = ls[i] := ⟨_, rfl⟩
    rw [← hl0] at hct
    have hlm : l ∈ ls := by rw [hl0]; exact List.getElem_mem hlt
    have hlo := hP.each l hlm
    have f1 : seg cs (o + (i : Int).toNat * 19) 19 = some (leC l) := by rw [hl0]; exact seg_el (les_len hle) hs hlt (by omega)
    have f2 := leC_len hlo.ip.len
    have f4 := le_til hlo.ip.len
    have f5 := sg_all f2
    clear hl0
    by_cases htil : now < l.til
    · rw [if_pos htil] at hct
      with_reducible refine c_seq ?_
      with_reducible refine c_region ?_
      refine stepD rfl F rfl (o_lssT (F.ev rfl) (F.ev rfl) (by omega) ?_); clear F; clear a; intro a F
      with_reducible refine l_nil ?_
      with_reducible refine q_then ?_
      with_reducible refine c_seq ?_
      refine c_true F rfl rfl ?_
      with_reducible refine c_skip ?_
      with_reducible refine q_then ?_
      with_reducible refine c_seq ?_
      with_reducible refine c_block ?_
      with_reducible refine c_seq ?_
      with_reducible refine c_region ?_
      refine stepD rfl F rfl (o_indexSl (F.ev rfl) (F.ev rfl) (by omega) (by omega) ?_); clear F; clear a; intro a F
      refine stepD rfl F rfl (o_loadWA M (F.ev rfl) (by assumption) (by first | assumption | rfl) ?_); clear F; clear a; intro a F
      (refine stepD rfl F rfl (o_alloc M ?_); clear F; clear M; intro b15 w M a F)
      (refine stepN rfl F (o_storeA M (F.ev rfl) (F.ev rfl) (f2) (le_one _)  (by repeat (first | exact .here | apply Has.there))  (put_all (by rw [f2]; rfl)) (by repeat (first | exact .here | apply Upd.there)) ?_); clear F; clear M; intro w M a F)
      with_reducible refine l_nil ?_
      with_reducible refine q_then ?_
      with_reducible refine c_seq ?_
      with_reducible refine c_region ?_
      refine stepD rfl F rfl (o_fieldAddr (F.ev rfl) ?_); clear F; clear a; intro a F
      refine stepD rfl F rfl (o_load1 M (F.ev rfl) (by repeat (first | exact .here | apply Has.there)) (by first | assumption | rfl) ?_); clear F; clear a; intro a F
      refine stepD rfl F rfl (o_move (F.ev rfl) ?_); clear F; clear a; intro a F
      refine stepD rfl F rfl (o_gtrT (F.ev rfl) (F.ev rfl) (by omega) ?_); clear F; clear a; intro a F
      with_reducible refine l_nil ?_
      with_reducible refine q_then ?_
      refine c_true F rfl rfl ?_
      with_reducible refine c_region ?_
      refine stepD rfl F rfl (o_fieldAddr (F.ev rfl) ?_); clear F; clear a; intro a F
      refine stepD rfl F rfl (o_load1 M (F.ev rfl) (by repeat (first | exact .here | apply Has.there)) (by first | assumption | rfl) ?_); clear F; clear a; intro a F
      refine stepD rfl F rfl (o_loadA M (F.ev rfl) (by repeat (first | exact .here | apply Has.there)) (by first | assumption | rfl) ?_); clear F; clear a; intro a F
      (refine stepD rfl F rfl (o_buildSlice F M rfl rfl rfl (build_le1 hlo.ip.len) ?_); clear F; clear M; intro b70 w M a F)
      (refine stepD rfl F rfl (o_append hO M (.cons (.cons (.cons (.cons (.cons (.cons (.cons .here))))))) (F.ev rfl) (F.ev rfl) (SrcOf.cells' (M.heap .here) (sg_all (by omega)) (le_one _)) (by omega) (by omega) ?_); clear F; clear M; clear hO; intro u2 ent2 w hO M a F)
      obtain ⟨uq2, ucap2, rfl⟩ := hO.slice
      have g1 := po_put hP.ip.len n (.slice uq (cur (ls.take i) now).length ucap) (.slice uq2 ((cur (ls.take i) now).length + 1) ucap2)
      refine stepD rfl F rfl (o_fieldAddr (F.ev rfl) ?_); clear F; clear a; intro a F
      (refine stepN rfl F (o_store1 M (F.ev rfl) (F.ev rfl) rfl (by repeat (first | exact .here | apply Has.there)) (g1) (by repeat (first | exact .here | apply Upd.there)) ?_); clear F; clear M; intro w M a F)
      with_reducible refine l_nil ?_
      with_reducible refine q_inB ?_
      with_reducible refine q_then ?_
      with_reducible refine c_region ?_
      refine stepD rfl F rfl (o_add (F.ev rfl) (F.ev rfl) (w_i64 (by omega) (by omega)) ?_); clear F; clear a; intro a F
      refine stepD rfl F rfl (o_move (F.ev rfl) ?_); clear F; clear a; intro a F
      with_reducible refine l_nil ?_
      with_reducible refine q_then ?_
      rw [← les_snoc] at hO
      refine ⟨_, ?_, i + 1, _, ent2, rfl, by omega, ?_, F.only [59, 58, 57, 1, 4, 5, 7, 8, 10, 11, 13] rfl, M.sub (.cons _ (.cons _ (.refl _)))⟩
      · omega
      · rw [hct]
        have : (cur (ls.take i) now ++ [l]).length = (cur (ls.take i) now).length + 1 := by simp
        rw [this]
        exact hO
    · rw [if_neg htil, List.append_nil] at hct
      with_reducible refine c_seq ?_
      with_reducible refine c_region ?_
      refine stepD rfl F rfl (o_lssT (F.ev rfl) (F.ev rfl) (by omega) ?_); clear F; clear a; intro a F
      with_reducible refine l_nil ?_
      with_reducible refine q_then ?_
      with_reducible refine c_seq ?_
      refine c_true F rfl rfl ?_
      with_reducible refine c_skip ?_
      with_reducible refine q_then ?_
      with_reducible refine c_seq ?_
      with_reducible refine c_block ?_
      with_reducible refine c_seq ?_
      with_reducible refine c_region ?_
      refine stepD rfl F rfl (o_indexSl (F.ev rfl) (F.ev rfl) (by omega) (by omega) ?_); clear F; clear a; intro a F
      refine stepD rfl F rfl (o_loadWA M (F.ev rfl) (by assumption) (by first | assumption | rfl) ?_); clear F; clear a; intro a F
      (refine stepD rfl F rfl (o_alloc M ?_); clear F; clear M; intro b15 w M a F)
      (refine stepN rfl F (o_storeA M (F.ev rfl) (F.ev rfl) (f2) (le_one _)  (by repeat (first | exact .here | apply Has.there))  (put_all (by rw [f2]; rfl)) (by repeat (first | exact .here | apply Upd.there)) ?_); clear F; clear M; intro w M a F)
      with_reducible refine l_nil ?_
      with_reducible refine q_then ?_
      with_reducible refine c_seq ?_
      with_reducible refine c_region ?_
      refine stepD rfl F rfl (o_fieldAddr (F.ev rfl) ?_); clear F; clear a; intro a F
      refine stepD rfl F rfl (o_load1 M (F.ev rfl) (by repeat (first | exact .here | apply Has.there)) (by first | assumption | rfl) ?_); clear F; clear a; intro a F
      refine stepD rfl F rfl (o_move (F.ev rfl) ?_); clear F; clear a; intro a F
      refine stepD rfl F rfl (o_gtrF (F.ev rfl) (F.ev rfl) (by omega) ?_); clear F; clear a; intro a F
      with_reducible refine l_nil ?_
      with_reducible refine q_then ?_
      refine c_false F rfl rfl ?_
      with_reducible refine c_skip ?_
      with_reducible refine q_inB ?_
      with_reducible refine q_then ?_
      with_reducible refine c_region ?_
      refine stepD rfl F rfl (o_add (F.ev rfl) (F.ev rfl) (w_i64 (by omega) (by omega)) ?_); clear F; clear a; intro a F
      refine stepD rfl F rfl (o_move (F.ev rfl) ?_); clear F; clear a; intro a F
      with_reducible refine l_nil ?_
      with_reducible refine q_then ?_
      refine ⟨_, ?_, i + 1, _, ent, rfl, by omega, by rw [hct]; exact hO, F.only [59, 58, 57, 1, 4, 5, 7, 8, 10, 11, 13] rfl, M.sub (.cons _ (.refl _))⟩
      omega
  · obtain rfl : i = ls.length := by omega
    rw [List.take_length] at hO M g0 hcl
    clear hlt hi hk
    generalize hcs : cur ls now = cs at *
    have hPc : PoolOk p n cs := by rw [← hcs]; exact hP.filter _
    with_reducible refine c_seq ?_
    with_reducible refine c_region ?_
    refine stepD rfl F rfl (o_lssF (F.ev rfl) (F.ev rfl) (by omega) ?_); clear F; clear a; intro a F
    with_reducible refine l_nil ?_
    with_reducible refine q_then ?_
    with_reducible refine c_seq ?_
    refine c_false F rfl rfl ?_
    with_reducible refine c_exit ?_
    with_reducible refine q_thenX ?_
    with_reducible refine q_thenX ?_
    with_reducible refine q_inBX ?_
    with_reducible refine q_then ?_
    with_reducible refine c_seq ?_
    with_reducible refine c_region ?_
    refine stepD rfl F rfl (o_move (F.ev rfl) ?_); clear F; clear a; intro a F
    refine stepD rfl F rfl (o_move (F.ev rfl) ?_); clear F; clear a; intro a F
    (refine stepD rfl F rfl (o_call (F.ev rfl) (F.evs rfl) (Cal.mono (later_c now life hnow'.1 hnow'.2 (by omega) (by omega) _) ?_)); clear F; clear a; rintro _ w ⟨rfl, hE⟩ a F; replace M := M.later hE; clear hE)
    refine stepD rfl F rfl (o_assign (F.ev rfl) ?_); clear F; clear a; intro a F
    with_reducible refine l_nil ?_
    with_reducible refine q_then ?_
    with_reducible refine c_seq ?_
    with_reducible refine c_region ?_
    refine stepD rfl F rfl (o_fieldAddr (F.ev rfl) ?_); clear F; clear a; intro a F
    refine stepD rfl F rfl (o_load1 M (F.ev rfl) (by repeat (first | exact .here | apply Has.there)) (by first | assumption | rfl) ?_); clear F; clear a; intro a F
    (refine stepD rfl F rfl (o_makeFunc (F.evs (xs := []) rfl) (F.evs (xs := [.tmp 7, .tmp 8]) rfl) ?_); clear F; clear a; intro a F)
    (refine stepD rfl F rfl (o_call (F.ev rfl) (F.evs rfl) (Cal.mono (index_c w (hO.slAt M (fun x hx => by simp [hx])) hPc.le (by omega) 42 [.pointer (some ⟨b7, 0, none⟩), .pointer (some ⟨b8, 0, none⟩)] (mine own bits) (fun w' l E hlm => del1_c l (hPc.le l hlm) own bits w' ((M.later E).heap (by repeat (first | exact .here | apply Has.there))) ((M.later E).heap (by repeat (first | exact .here | apply Has.there))))) ?_)); clear F; clear a; rintro _ w ⟨rfl, hE⟩ a F; replace M := M.later hE; clear hE)
    rcases findI_cases (mine own bits) cs with ⟨hf, hno⟩ | ⟨i, hi, hf, hyes, _⟩
    · rw [hf] at F
      by_cases h64 : 64 ≤ cs.length
      · refine stepD rfl F rfl (o_assign (F.ev rfl) ?_); clear F; clear a; intro a F
        with_reducible refine l_nil ?_
        with_reducible refine q_then ?_
        with_reducible refine c_seq ?_
        with_reducible refine c_seq ?_
        with_reducible refine c_region ?_
        refine stepD rfl F rfl (o_move (F.ev rfl) ?_); clear F; clear a; intro a F
        refine stepD rfl F rfl (o_geqF (F.ev rfl) (F.ev rfl) (by omega) ?_); clear F; clear a; intro a F
        with_reducible refine l_nil ?_
        with_reducible refine q_then ?_
        refine c_false F rfl rfl ?_
        with_reducible refine c_skip ?_
        with_reducible refine q_then ?_
        with_reducible refine c_seq ?_
        with_reducible refine c_seq ?_
        with_reducible refine c_region ?_
        refine stepD rfl F rfl (o_fieldAddr (F.ev rfl) ?_); clear F; clear a; intro a F
        refine stepD rfl F rfl (o_load1 M (F.ev rfl) (by repeat (first | exact .here | apply Has.there)) (by first | assumption | rfl) ?_); clear F; clear a; intro a F
        refine stepD rfl F rfl (o_lenSl (F.ev rfl) ?_); clear F; clear a; intro a F
        refine stepD rfl F rfl (o_geqT (F.ev rfl) (F.ev rfl) (by omega) ?_); clear F; clear a; intro a F
        with_reducible refine l_nil ?_
        with_reducible refine q_then ?_
        refine c_true F rfl rfl ?_
        with_reducible refine c_seq ?_
        with_reducible refine c_region ?_
        refine stepD rfl F rfl (o_build F rfl rfl ?_); clear F; clear a; intro a F
        refine stepD rfl F rfl (o_build F rfl rfl ?_); clear F; clear a; intro a F
        (refine stepN rfl F (o_storeA M (F.ev rfl) (F.ev rfl) (by rfl) (by rfl) (by repeat (first | exact .here | apply Has.there)) (by rfl) (by repeat (first | exact .here | apply Upd.there)) ?_); clear F; clear M; intro w M a F)
        (refine stepN rfl F (o_storeA M (F.ev rfl) (F.ev rfl) (by rfl) (by rfl) (by repeat (first | exact .here | apply Has.there)) (by rfl) (by repeat (first | exact .here | apply Upd.there)) ?_); clear F; clear M; intro w M a F)
        refine stepD rfl F rfl (o_assign (F.ev rfl) ?_); clear F; clear a; intro a F
        with_reducible refine l_nil ?_
        with_reducible refine q_then ?_
        with_reducible refine c_ret ?_
        with_reducible refine q_thenR ?_
        exact p_ret F rfl (.cons (.cell (F.ev rfl) (run_loadVar_agg TAgg.h (M.heap (by repeat (first | exact .here | apply Has.there))) rfl)) (.cons (.cell (F.ev rfl) (run_loadVar_agg TAgg.h (M.heap (by repeat (first | exact .here | apply Has.there))) rfl)) (.cons (.tmp (F.ev rfl)) .nil))) (.inr ⟨rfl, M.ext, hno, .inl h64⟩)
      · have d1 := po_all hP.ip.len n (.slice uq cs.length ucap)
        refine stepD rfl F rfl (o_assign (F.ev rfl) ?_); clear F; clear a; intro a F
        with_reducible refine l_nil ?_
        with_reducible refine q_then ?_
        with_reducible refine c_seq ?_
        with_reducible refine c_seq ?_
        with_reducible refine c_region ?_
        refine stepD rfl F rfl (o_move (F.ev rfl) ?_); clear F; clear a; intro a F
        refine stepD rfl F rfl (o_geqF (F.ev rfl) (F.ev rfl) (by omega) ?_); clear F; clear a; intro a F
        with_reducible refine l_nil ?_
        with_reducible refine q_then ?_
        refine c_false F rfl rfl ?_
        with_reducible refine c_skip ?_
        with_reducible refine q_then ?_
        with_reducible refine c_seq ?_
        with_reducible refine c_seq ?_
        with_reducible refine c_region ?_
        refine stepD rfl F rfl (o_fieldAddr (F.ev rfl) ?_); clear F; clear a; intro a F
        refine stepD rfl F rfl (o_load1 M (F.ev rfl) (by repeat (first | exact .here | apply Has.there)) (by first | assumption | rfl) ?_); clear F; clear a; intro a F
        refine stepD rfl F rfl (o_lenSl (F.ev rfl) ?_); clear F; clear a; intro a F
        refine stepD rfl F rfl (o_geqF (F.ev rfl) (F.ev rfl) (by omega) ?_); clear F; clear a; intro a F
        with_reducible refine l_nil ?_
        with_reducible refine q_then ?_
        refine c_false F rfl rfl ?_
        with_reducible refine c_skip ?_
        with_reducible refine q_then ?_
        with_reducible refine c_seq ?_
        with_reducible refine c_region ?_
        refine stepD rfl F rfl (o_loadA M (F.ev rfl) (by repeat (first | exact .here | apply Has.there)) (by first | assumption | rfl) ?_); clear F; clear a; intro a F
        refine stepD rfl F rfl (o_load1 M (F.ev rfl) (by repeat (first | exact .here | apply Has.there)) (by first | assumption | rfl) ?_); clear F; clear a; intro a F
        (refine stepD rfl F rfl (o_call (F.ev rfl) (F.evs rfl) (Cal.mono (free_c p n cs hPc _ w (hO.slAt M (fun x hx => by simp [hx])) bits hnb hb64) ?_)); clear F; clear a; rintro _ w ⟨(⟨x, rfl, hfree⟩ | ⟨rfl, hfull⟩), hE⟩ a F <;> replace M := M.later hE <;> clear hE)
        · obtain ⟨ip, hip⟩ : ∃ ip, ip = beB (x : Int) ++ z8 := ⟨_, rfl⟩
          have hC := net_of hfree.lt hfree.dvd
          rw [← hip] at F hC
          have d2 := pfC_len hC.ip.len bits
          have d3 := seg_pf hC.ip.len bits
          refine stepD rfl F rfl (o_move (F.ev rfl) ?_); clear F; clear a; intro a F
          refine stepD rfl F rfl (o_extract (F.ev rfl) rfl ?_); clear F; clear a; intro a F
          refine stepD rfl F rfl (o_extract (F.ev rfl) rfl ?_); clear F; clear a; intro a F
          (refine stepD rfl F rfl (o_alloc M ?_); clear F; clear M; intro b18 w M a F)
          (refine stepN rfl F (o_storeA M (F.ev rfl) (F.ev rfl) (d2) (pf_one _ _)  (by repeat (first | exact .here | apply Has.there))  (put_all (by rw [d2]; rfl)) (by repeat (first | exact .here | apply Upd.there)) ?_); clear F; clear M; intro w M a F)
          refine stepD rfl F rfl (o_assign (F.ev rfl) ?_); clear F; clear a; intro a F
          with_reducible refine l_nil ?_
          with_reducible refine q_then ?_
          with_reducible refine c_seq ?_
          with_reducible refine c_seq ?_
          with_reducible refine c_region ?_
          refine stepD rfl F rfl (o_move (F.ev rfl) ?_); clear F; clear a; intro a F
          refine stepD rfl F rfl (o_not (F.ev rfl) ?_); clear F; clear a; intro a F
          with_reducible refine l_nil ?_
          with_reducible refine q_then ?_
          refine c_false F rfl rfl ?_
          with_reducible refine c_skip ?_
          with_reducible refine q_then ?_
          with_reducible refine c_seq ?_
          with_reducible refine c_region ?_
          refine stepD rfl F rfl (o_fieldAddr (F.ev rfl) ?_); clear F; clear a; intro a F
          refine stepD rfl F rfl (o_load1 M (F.ev rfl) (by repeat (first | exact .here | apply Has.there)) (by first | assumption | rfl) ?_); clear F; clear a; intro a F
          (refine stepD rfl F rfl (o_makeFunc (F.evs (xs := []) rfl) (F.evs (xs := [.tmp 18]) rfl) ?_); clear F; clear a; intro a F)
          (refine stepD rfl F rfl (o_call (F.ev rfl) (F.evs rfl) (Cal.mono (index_c w (hO.slAt M (fun x hx => by simp [hx])) hPc.le (by omega) 44 [.pointer (some ⟨b18, 0, none⟩)] (fun l => decide (0 < cmpL l.ip ip)) (fun w' l E hlm => del2_c l (hPc.le l hlm) ip bits hC.ip w' ((M.later E).heap .here))) ?_)); clear F; clear a; rintro _ w ⟨rfl, hE⟩ a F; replace M := M.later hE; clear hE)
          obtain ⟨at_, hat⟩ : ∃ at_, at_ = place cs ip := ⟨_, rfl⟩
          have hat2 : at_ ≤ cs.length := by
            rw [hat]; unfold place
            rcases findI_cases (fun l : Lease => decide (0 < cmpL l.ip ip)) cs with ⟨hf2, _⟩ | ⟨j, hj, hf2, _⟩ <;> rw [hf2] <;> dsimp only <;> split <;> omega
          refine stepD rfl F rfl (o_assign (F.ev rfl) ?_); clear F; clear a; intro a F
          with_reducible refine l_nil ?_
          with_reducible refine q_then ?_
          with_reducible refine c_seq ?_
          refine c_cut (fun a w => Frm a 140 [] [(17, .int .i64 (at_ : Int)), (16, .int .i64 (laterV now life)), (7, .pointer (some ⟨b7, 0, none⟩)), (10, .pointer (some ⟨b10, 0, none⟩)), (11, .pointer (some ⟨b11, 0, none⟩)), (13, .pointer (some ⟨b13, 0, none⟩)), (18, .pointer (some ⟨b18, 0, none⟩))] ∧ Mem [] W w ((b18, .cells (pfC ip bits).toArray 28 (0, 0)) :: (b13, .cells (poC p n (.slice uq cs.length ucap)).toArray 34 (0, 0)) :: (b11, .cells (pfC zeroIP 0).toArray 28 (0, 0)) :: (b10, .cells (poC zeroIP 0 (.slice none 0 0)).toArray 34 (0, 0)) :: (b8, .cells [.int .i64 (bits : Int)].toArray 3 (0, 0)) :: (b7, .cells [.int .u64 own].toArray 36 (0, 0)) :: ent)) ?_ ?_
          · rcases findI_cases (fun l : Lease => decide (0 < cmpL l.ip ip)) cs with ⟨hf2, _⟩ | ⟨j, hj, hf2, _⟩
            · have : at_ = cs.length := by rw [hat]; unfold place; rw [hf2]; rfl
              rw [hf2] at F
              with_reducible refine c_seq ?_
              with_reducible refine c_region ?_
              refine stepD rfl F rfl (o_move (F.ev rfl) ?_); clear F; clear a; intro a F
              refine stepD rfl F rfl (o_lssT (F.ev rfl) (F.ev rfl) (by omega) ?_); clear F; clear a; intro a F
              with_reducible refine l_nil ?_
              with_reducible refine q_then ?_
              refine c_true F rfl rfl ?_
              with_reducible refine c_region ?_
              refine stepD rfl F rfl (o_fieldAddr (F.ev rfl) ?_); clear F; clear a; intro a F
              refine stepD rfl F rfl (o_load1 M (F.ev rfl) (by repeat (first | exact .here | apply Has.there)) (by first | assumption | rfl) ?_); clear F; clear a; intro a F
              refine stepD rfl F rfl (o_lenSl (F.ev rfl) ?_); clear F; clear a; intro a F
              refine stepD rfl F rfl (o_assign (F.ev rfl) ?_); clear F; clear a; intro a F
              with_reducible refine l_nil ?_
              rw [← this] at F
              exact ⟨F.only [17, 16, 7, 10, 11, 13, 18] rfl, M⟩
            · have : at_ = j := by rw [hat]; unfold place; rw [hf2]; dsimp only; rw [if_neg (by omega)]; omega
              rw [hf2, ← this] at F
              with_reducible refine c_seq ?_
              with_reducible refine c_region ?_
              refine stepD rfl F rfl (o_move (F.ev rfl) ?_); clear F; clear a; intro a F
              refine stepD rfl F rfl (o_lssF (F.ev rfl) (F.ev rfl) (by omega) ?_); clear F; clear a; intro a F
              with_reducible refine l_nil ?_
              with_reducible refine q_then ?_
              refine c_false F rfl rfl ?_
              with_reducible refine c_skip ?_
              exact ⟨F.only [17, 16, 7, 10, 11, 13, 18] rfl, M⟩
          · clear F M a w
            rintro a w ⟨F, M⟩
            have d4 := leC_len (l := ⟨ip, bits, own, laterV now life⟩) hC.ip.len
            with_reducible refine q_then ?_
            with_reducible refine c_seq ?_
            with_reducible refine c_region ?_
            refine stepD rfl F rfl (o_fieldAddr (F.ev rfl) ?_); clear F; clear a; intro a F
            refine stepD rfl F rfl (o_load1 M (F.ev rfl) (by repeat (first | exact .here | apply Has.there)) (by first | assumption | rfl) ?_); clear F; clear a; intro a F
            refine stepD rfl F rfl (o_move (F.ev rfl) ?_); clear F; clear a; intro a F
            refine stepD rfl F rfl (o_loadA M (F.ev rfl) (by repeat (first | exact .here | apply Has.there)) (by first | assumption | rfl) ?_); clear F; clear a; intro a F
            refine stepD rfl F rfl (o_load1 M (F.ev rfl) (by repeat (first | exact .here | apply Has.there)) (by first | assumption | rfl) ?_); clear F; clear a; intro a F
            refine stepD rfl F rfl (o_move (F.ev rfl) ?_); clear F; clear a; intro a F
            (refine stepD rfl F rfl (o_build F rfl (build_le hC.ip.len bits own (laterV now life)) ?_); clear F; clear a; intro a F)
            (refine stepD rfl F rfl (o_buildSlice F M rfl rfl rfl (build_le1 (l := ⟨ip, bits, own, laterV now life⟩) hC.ip.len) ?_); clear F; clear M; intro b135 w M a F)
            have hvb : ∀ x ∈ ent, x.1 ≠ b135 := fun x hx h => by
              have := M.nd
              simp only [List.map_cons, List.nodup_cons] at this
              exact this.1 (by rw [← h]; simp only [List.mem_cons]; exact .inr (.inr (.inr (.inr (.inr (.inr (List.mem_map_of_mem hx)))))))
            (refine stepD rfl F rfl (o_call (F.ev rfl) (F.evs rfl) (Cal.mono (insertLe_c at_ hat2 _ d4 les_all (le_one _) w M hO (.cons (.cons (.cons (.cons (.cons (.cons (.cons .here))))))) .here hvb (by omega)) ?_)); clear F; clear a; clear M; rintro u2 w ⟨ent2, hO2, M⟩ a F)
            rw [encL_take (les_len hPc.le), encL_drop (les_len hPc.le), ← encL_cons, ← encL_app] at hO2
            have hl2 : (cs.take at_ ++ (⟨ip, bits, own, laterV now life⟩ : Lease) :: cs.drop at_).length = cs.length + 1 := by simp; omega
            obtain ⟨uq2, ucap2, rfl⟩ := hO2.slice
            have g1 := po_put hP.ip.len n (.slice uq cs.length ucap) (.slice uq2 (cs.length + 1) ucap2)
            have g2 := po_all hP.ip.len n (.slice uq2 (cs.length + 1) ucap2)
            have g3 := poC_len hP.ip.len n (.slice uq2 (cs.length + 1) ucap2)
            refine stepD rfl F rfl (o_fieldAddr (F.ev rfl) ?_); clear F; clear a; intro a F
            (refine stepN rfl F (o_store1 M (F.ev rfl) (F.ev rfl) rfl (by repeat (first | exact .here | apply Has.there)) (g1) (by repeat (first | exact .here | apply Upd.there)) ?_); clear F; clear M; intro w M a F)
            with_reducible refine l_nil ?_
            with_reducible refine q_then ?_
            with_reducible refine c_seq ?_
            replace M : Mem [] W w ((b10, .cells (poC zeroIP 0 (.slice none 0 0)).toArray 34 (0, 0)) :: (b18, .cells (pfC ip bits).toArray 28 (0, 0)) :: (b13, .cells (poC p n (.slice uq2 (cs.length + 1) ucap2)).toArray 34 (0, 0)) :: (b11, .cells (pfC zeroIP 0).toArray 28 (0, 0)) :: ent2) :=
              (M.sub (.cons _ (.cons_cons _ (.cons_cons _ (.cons_cons _ (.cons_cons _ (.cons _ (.cons _ (.refl _))))))))).perm (List.perm_middle (l₁ := [_, _, _]))
            replace F := F.only [10, 11, 13, 18] rfl
            refine c_drawOne M (.cells (poC p n (.slice uq2 (cs.length + 1) ucap2)).toArray 34 (0, 0)) 3 F (by kernel_rfl) ?_
            intro w1 M1 hok
            refine mK hok rfl rfl (fun a' w' F' E' => o_loadA (keepOne.later M1 E') (F'.ev rfl) (by repeat (first | exact .here | apply Has.there)) (by first | assumption | rfl) ⟨Keep.refl _ _, rfl⟩) ?_
            refine mK hok rfl rfl (fun a' w' F' E' => o_loadA (keepOne.later M1 E') (F'.ev rfl) (by repeat (first | exact .here | apply Has.there)) (by first | assumption | rfl) ⟨Keep.refl _ _, rfl⟩) ?_
            refine mNX hok rfl (keepOne.stays _ _ _ _ _ _) (fun a' w' F' E' => (E'.1.1 M1).elim (fun M2 => o_storeAE M2 (F'.ev rfl) (F'.ev rfl) (g3) (po_one _ _ _ _ _) .here (put_all (by rw [g3]; rfl)) .here fun _ hS M3 => keepOne.put hS.size M3) (fun M2 => o_storeAE M2 (F'.ev rfl) (F'.ev rfl) (g3) (po_one _ _ _ _ _) .here (put_all rfl) .here fun _ hS M3 => keepOne.put hS.size M3)) ?_
            (refine mDone rfl rfl ?_; clear F; clear M; intro a w F hE2 hX hTT hDD hPP; have M := hX 2 _ rfl; clear M1; clear hX; clear hE2; clear hok; clear hTT; clear hDD; clear hPP; (try dsimp only at F); (try dsimp only at M))
            (refine stepN rfl F (o_storeA M (F.ev rfl) (F.ev rfl) (d2) (pf_one _ _)  (by repeat (first | exact .here | apply Has.there))  (put_all (by rw [d2]; rfl)) (by repeat (first | exact .here | apply Upd.there)) ?_); clear F; clear M; intro w M a F)
            refine stepD rfl F rfl (o_assign (F.ev rfl) ?_); clear F; clear a; intro a F
            with_reducible refine l_nil ?_
            with_reducible refine q_then ?_
            with_reducible refine c_ret ?_
            subst hat
            subst hip
            exact p_ret F rfl (.cons (.cell (F.ev rfl) (run_loadVar_agg TAgg.h (M.heap (by repeat (first | exact .here | apply Has.there))) g2)) (.cons (.cell (F.ev rfl) (run_loadVar_agg TAgg.h (M.heap (by repeat (first | exact .here | apply Has.there))) d3)) (.cons (.tmp (F.ev rfl)) .nil))) (.inl ⟨_, _, _, ent2, rfl, by rw [hl2]; exact hO2, M.sub (.cons _ (.cons _ (.cons _ (.cons _ (.refl _))))), DelOk.new x hno (by omega) hfree⟩)
        · refine stepD rfl F rfl (o_move (F.ev rfl) ?_); clear F; clear a; intro a F
          refine stepD rfl F rfl (o_extract (F.ev rfl) rfl ?_); clear F; clear a; intro a F
          refine stepD rfl F rfl (o_extract (F.ev rfl) rfl ?_); clear F; clear a; intro a F
          (refine stepD rfl F rfl (o_alloc M ?_); clear F; clear M; intro b18 w M a F)
          (refine stepN rfl F (o_storeA M (F.ev rfl) (F.ev rfl) (by rfl) (by rfl) (by repeat (first | exact .here | apply Has.there)) (by rfl) (by repeat (first | exact .here | apply Upd.there)) ?_); clear F; clear M; intro w M a F)
          refine stepD rfl F rfl (o_assign (F.ev rfl) ?_); clear F; clear a; intro a F
          with_reducible refine l_nil ?_
          with_reducible refine q_then ?_
          with_reducible refine c_seq ?_
          with_reducible refine c_seq ?_
          with_reducible refine c_region ?_
          refine stepD rfl F rfl (o_move (F.ev rfl) ?_); clear F; clear a; intro a F
          refine stepD rfl F rfl (o_not (F.ev rfl) ?_); clear F; clear a; intro a F
          with_reducible refine l_nil ?_
          with_reducible refine q_then ?_
          refine c_true F rfl rfl ?_
          with_reducible refine c_seq ?_
          with_reducible refine c_region ?_
          refine stepD rfl F rfl (o_build F rfl rfl ?_); clear F; clear a; intro a F
          refine stepD rfl F rfl (o_build F rfl rfl ?_); clear F; clear a; intro a F
          (refine stepN rfl F (o_storeA M (F.ev rfl) (F.ev rfl) (by rfl) (by rfl) (by repeat (first | exact .here | apply Has.there)) (by rfl) (by repeat (first | exact .here | apply Upd.there)) ?_); clear F; clear M; intro w M a F)
          (refine stepN rfl F (o_storeA M (F.ev rfl) (F.ev rfl) (by rfl) (by rfl) (by repeat (first | exact .here | apply Has.there)) (by rfl) (by repeat (first | exact .here | apply Upd.there)) ?_); clear F; clear M; intro w M a F)
          refine stepD rfl F rfl (o_assign (F.ev rfl) ?_); clear F; clear a; intro a F
          with_reducible refine l_nil ?_
          with_reducible refine q_then ?_
          with_reducible refine c_ret ?_
          with_reducible refine q_thenR ?_
          exact p_ret F rfl (.cons (.cell (F.ev rfl) (run_loadVar_agg TAgg.h (M.heap (by repeat (first | exact .here | apply Has.there))) rfl)) (.cons (.cell (F.ev rfl) (run_loadVar_agg TAgg.h (M.heap (by repeat (first | exact .here | apply Has.there))) rfl)) (.cons (.tmp (F.ev rfl)) .nil))) (.inr ⟨rfl, M.ext, hno, .inr hfull⟩)
    · rw [hf] at F
      rcases hO with ⟨_, h0, _, _⟩ | ⟨bL, lcap, junk, hv, rfl, hxl, hjl, hnc⟩
      · omega
      cases hv
      have hsg : seg (lesC cs ++ junk) 0 (cs.length * 19) = some (lesC cs) := by
        have := seg_of [] (lesC cs) junk
        simpa [hxl] using this
      have q1 : seg (lesC cs ++ junk) (0 + (i : Int).toNat * 19) 19 = some (leC cs[i]) := seg_el (les_len hPc.le) hsg hi (by omega)
      have hip := hPc.le _ (List.getElem_mem hi)
      have q2 : nth (lesC cs ++ junk) (0 + (i : Int).toNat * 19 + 18) = some (.int .i64 cs[i].til) := sg_nth q1 (le_til hip.len) rfl
      have q3 := les_put junk hi hip.len hPc.le (if cs[i].til < laterV now life then laterV now life else cs[i].til) (q := 0 + (i : Int).toNat * 19 + 18) (by omega)
      have hbe : cs[i].bits = (bits : Int) := by unfold mine at hyes; simp at hyes; exact hyes.2
      have hls2 : ∀ l ∈ cs.set i { cs[i] with til := if cs[i].til < laterV now life then laterV now life else cs[i].til }, IsLe l := fun l hl => by
        rcases List.mem_or_eq_of_mem_set hl with h | rfl
        · exact hPc.le l h
        · exact hip
      generalize hc2 : cs.set i { cs[i] with til := if cs[i].til < laterV now life then laterV now life else cs[i].til } = cs2 at *
      have hc2l : cs2.length = cs.length := by rw [← hc2]; simp
      have hc2i : (cs2[i]'(by omega)).ip = cs[i].ip ∧ (cs2[i]'(by omega)).bits = cs[i].bits := by subst hc2; simp
      have hsg2 : seg (lesC cs2 ++ junk) 0 (cs2.length * 19) = some (lesC cs2) := by
        have := seg_of [] (lesC cs2) junk
        simpa [encL_len (les_len hls2)] using this
      have r1 : seg (lesC cs2 ++ junk) (0 + (i : Int).toNat * 19) 19 = some (leC (cs2[i]'(by omega))) := seg_el (les_len hls2) hsg2 (by omega) (by omega)
      have r2 : seg (lesC cs2 ++ junk) (0 + (i : Int).toNat * 19) 17 = some (pfC cs[i].ip bits) := by
        have := sg_seg r1 (le_pf (by rw [hc2i.1]; exact hip.len)) (q := 0 + (i : Int).toNat * 19) (by omega)
        rw [hc2i.1, hc2i.2, hbe] at this
        exact this
      have g2 := po_all hP.ip.len n (.slice (some ⟨bL, 0, none⟩) cs.length ucap)
      have g3 := poC_len hP.ip.len n (.slice (some ⟨bL, 0, none⟩) cs.length ucap)
      have d2 := pfC_len hip.len bits
      have d3 := seg_pf hip.len bits
      clear q1 r1 hsg hsg2
      refine stepD rfl F rfl (o_assign (F.ev rfl) ?_); clear F; clear a; intro a F
      with_reducible refine l_nil ?_
      with_reducible refine q_then ?_
      with_reducible refine c_seq ?_
      with_reducible refine c_seq ?_
      with_reducible refine c_region ?_
      refine stepD rfl F rfl (o_move (F.ev rfl) ?_); clear F; clear a; intro a F
      refine stepD rfl F rfl (o_geqT (F.ev rfl) (F.ev rfl) (by omega) ?_); clear F; clear a; intro a F
      with_reducible refine l_nil ?_
      with_reducible refine q_then ?_
      refine c_true F rfl rfl ?_
      with_reducible refine c_seq ?_
      replace F := F.only [10, 11, 13, 16, 17] rfl
      refine c_draw 11 F (by kernel_rfl) ?_
      intro w1 hE hok
      have M1 := M.later hE
      refine mK hok rfl rfl (fun a' w' F' E' => o_fieldAddr (F'.ev rfl) ⟨Ext.refl _ _, rfl⟩) ?_
      refine mK hok rfl rfl (fun a' w' F' E' => o_load1 (M1.later E') (F'.ev rfl) (by repeat (first | exact .here | apply Has.there)) (by first | assumption | rfl) ⟨Ext.refl _ _, rfl⟩) ?_
      refine mK hok rfl rfl (fun a' w' F' E' => o_move (F'.ev rfl) ⟨Ext.refl _ _, rfl⟩) ?_
      refine mK hok rfl rfl (fun a' w' F' E' => o_fieldAddr (F'.ev rfl) ⟨Ext.refl _ _, rfl⟩) ?_
      refine mK hok rfl rfl (fun a' w' F' E' => o_load1 (M1.later E') (F'.ev rfl) (by repeat (first | exact .here | apply Has.there)) (by first | assumption | rfl) ⟨Ext.refl _ _, rfl⟩) ?_
      refine mK hok rfl rfl (fun a' w' F' E' => o_move (F'.ev rfl) ⟨Ext.refl _ _, rfl⟩) ?_
      refine mK hok rfl rfl (fun a' w' F' E' => o_indexSl (F'.ev rfl) (F'.ev rfl) (by omega) (by omega) ⟨Ext.refl _ _, rfl⟩) ?_
      refine mK hok rfl rfl (fun a' w' F' E' => o_fieldAddr (F'.ev rfl) ⟨Ext.refl _ _, rfl⟩) ?_
      refine mK hok rfl rfl (fun a' w' F' E' => o_load1 (M1.later E') (F'.ev rfl) (by repeat (first | exact .here | apply Has.there)) (by first | assumption | rfl) ⟨Ext.refl _ _, rfl⟩) ?_
      refine mK hok rfl rfl (fun a' w' F' E' => o_move (F'.ev rfl) ⟨Ext.refl _ _, rfl⟩) ?_
      refine mK hok rfl rfl (fun a' w' F' E' => o_max (F'.ev rfl) (F'.ev rfl) ⟨Ext.refl _ _, rfl⟩) ?_
      (refine mDone rfl rfl ?_; clear F; clear M; intro a w F hE2 hX hTT hDD hPP; have M := M1.later hE2; clear M1; clear hX; clear hE2; clear hok; clear hE; clear hTT; clear hDD; clear hPP; (try dsimp only at F))
      refine stepD rfl F rfl (o_indexSl (F.ev rfl) (F.ev rfl) (by omega) (by omega) ?_); clear F; clear a; intro a F
      refine stepD rfl F rfl (o_fieldAddr (F.ev rfl) ?_); clear F; clear a; intro a F
      (refine stepN rfl F (o_store1 M (F.ev rfl) (F.ev rfl) rfl (by repeat (first | exact .here | apply Has.there)) (q3) (by repeat (first | exact .here | apply Upd.there)) ?_); clear F; clear M; intro w M a F)
      with_reducible refine l_nil ?_
      with_reducible refine q_then ?_
      with_reducible refine c_seq ?_
      replace M : Mem [] W w [(b10, .cells (poC zeroIP 0 (.slice none 0 0)).toArray 34 (0, 0)), (b13, .cells (poC p n (.slice (some ⟨bL, 0, none⟩) cs.length ucap)).toArray 34 (0, 0)), (b11, .cells (pfC zeroIP 0).toArray 28 (0, 0)), (bL, .cells (lesC cs2 ++ junk).toArray 44 (0, 0))] :=
        (M.sub (.cons_cons _ (.cons_cons _ (.cons_cons _ (.cons _ (.cons _ (.refl _))))))).perm (List.perm_middle (l₁ := [_, _]))
      replace F := F.only [10, 11, 13, 17] rfl
      refine c_drawOne M (.cells (poC p n (.slice (some ⟨bL, 0, none⟩) cs.length ucap)).toArray 34 (0, 0)) 8 F (by kernel_rfl) ?_
      intro w1 M1 hok
      refine mK hok rfl rfl (fun a' w' F' E' => o_loadA (keepOne.later M1 E') (F'.ev rfl) (by repeat (first | exact .here | apply Has.there)) (by first | assumption | rfl) ⟨Keep.refl _ _, rfl⟩) ?_
      refine mK hok rfl rfl (fun a' w' F' E' => o_fieldAddr (F'.ev rfl) ⟨Keep.refl _ _, rfl⟩) ?_
      refine mK hok rfl rfl (fun a' w' F' E' => o_load1 (keepOne.later M1 E') (F'.ev rfl) (by repeat (first | exact .here | apply Has.there)) (by first | assumption | rfl) ⟨Keep.refl _ _, rfl⟩) ?_
      refine mK hok rfl rfl (fun a' w' F' E' => o_move (F'.ev rfl) ⟨Keep.refl _ _, rfl⟩) ?_
      refine mK hok rfl rfl (fun a' w' F' E' => o_indexSl (F'.ev rfl) (F'.ev rfl) (by omega) (by omega) ⟨Keep.refl _ _, rfl⟩) ?_
      refine mK hok rfl rfl (fun a' w' F' E' => o_fieldAddr (F'.ev rfl) ⟨Keep.refl _ _, rfl⟩) ?_
      refine mK hok rfl rfl (fun a' w' F' E' => o_loadA (keepOne.later M1 E') (F'.ev rfl) (by repeat (first | exact .here | apply Has.there)) (by first | assumption | rfl) ⟨Keep.refl _ _, rfl⟩) ?_
      refine mNX hok rfl (keepOne.stays _ _ _ _ _ _) (fun a' w' F' E' => (E'.1.1 M1).elim (fun M2 => o_storeAE M2 (F'.ev rfl) (F'.ev rfl) (g3) (po_one _ _ _ _ _) .here (put_all (by rw [g3]; rfl)) .here fun _ hS M3 => keepOne.put hS.size M3) (fun M2 => o_storeAE M2 (F'.ev rfl) (F'.ev rfl) (g3) (po_one _ _ _ _ _) .here (put_all rfl) .here fun _ hS M3 => keepOne.put hS.size M3)) ?_
      (refine mDone rfl rfl ?_; clear F; clear M; intro a w F hE2 hX hTT hDD hPP; have M := hX 7 _ rfl; clear M1; clear hX; clear hE2; clear hok; clear hTT; clear hDD; clear hPP; (try dsimp only at F); (try dsimp only at M))
      (refine stepN rfl F (o_storeA M (F.ev rfl) (F.ev rfl) (d2) (pf_one _ _)  (by repeat (first | exact .here | apply Has.there))  (put_all (by rw [d2]; rfl)) (by repeat (first | exact .here | apply Upd.there)) ?_); clear F; clear M; intro w M a F)
      refine stepD rfl F rfl (o_assign (F.ev rfl) ?_); clear F; clear a; intro a F
      with_reducible refine l_nil ?_
      with_reducible refine q_then ?_
      with_reducible refine c_ret ?_
      with_reducible refine q_thenR ?_
      refine p_ret F rfl (.cons (.cell (F.ev rfl) (run_loadVar_agg TAgg.h (M.heap (by repeat (first | exact .here | apply Has.there))) g2)) (.cons (.cell (F.ev rfl) (run_loadVar_agg TAgg.h (M.heap (by repeat (first | exact .here | apply Has.there))) d3)) (.cons (.tmp (F.ev rfl)) .nil))) (.inl ⟨cs2, cs[i].ip, _, [(bL, .cells (lesC cs2 ++ junk).toArray 44 (0, 0))], rfl, .inr ⟨bL, ucap, junk, by rw [hc2l], rfl, encL_len (les_len hls2), by rw [hc2l]; exact hjl, by rw [hc2l]; exact hnc⟩, M.sub (.cons _ (.cons _ (.cons _ (.refl _)))), ?_⟩)
      rw [← hc2]
      exact DelOk.old i hi hyes
end Go.Proofs.Ytainnefmobfcjaa

/-! E8 -/
/-
  border.Release of a lease that there is.
-/
namespace Go.Proofs.Ytainnefmobfcjaa
set_option linter.unusedVariables false
set_option linter.unusedSimpArgs false
open Go.RowKit
attribute [local irreducible] OpTo wpListIn Code.wpIn MW Cal

def other (own : Int) (ip : List Int) (bits : Int) (l : Lease) : Bool := !(l.own == own) || !(l.ip == ip && l.bits == bits)
theorem filter_take_succ {α : Type} (f : α → Bool) {ls : List α} {i : Nat} (hi : i < ls.length) : (ls.take (i + 1)).filter f = (ls.take i).filter f ++ if f ls[i] then [ls[i]] else [] := by
  rw [List.take_add_one, List.getElem?_eq_getElem hi, List.filter_append]
  congr 1
  simp only [Option.toList_some, List.filter_cons, List.filter_nil]

set_option maxHeartbeats 8000000 in
theorem release_c (p : List Int) (n : Nat) (ls : List Lease) (hP : PoolOk p n ls) (v : Value) (W : World) (hS : SlAt W 19 v ls.length (lesC ls)) (d : Lease) (hd : d ∈ ls) :
    Cal Try.prog 18 [.agg (poC p n v).toArray, .int .u64 d.own, .agg (pfC d.ip d.bits).toArray].toArray W fun x w' =>
      ∃ v2 ent2, x = .tuple #[.agg (poC p n v2).toArray, .int .i64 0] ∧ OwnS 44 19 v2 (ls.filter (other d.own d.ip d.bits)).length (lesC (ls.filter (other d.own d.ip d.bits))) ent2 ∧ Mem [] W w' ent2 := by
  have hS0 := hS
  obtain ⟨q, cap, rfl, hcap, hsp, hl, hm⟩ := hS
  have hle := hP.le
  have hlen := hP.len
  have hn64 : n ≤ 64 := by have := hP.bits; omega
  have e1 := po_pf hP.ip.len n (.slice q ls.length cap)
  have e3 := po_sl hP.ip.len n (.slice q ls.length cap)
  have e4 := poC_len hP.ip.len n (.slice q ls.length cap)
  have e5 := po_all hP.ip.len n (.slice q ls.length cap)
  have e6 := poC_len hP.ip.len n (.slice none 0 0)
  have hdi := (hP.each d hd).ip
  have e7 := seg_pf hdi.len d.bits
  have e8 := fits_pf hdi.len d.bits
  have hne : (ls.filter (other d.own d.ip d.bits)).length ≠ ls.length := by
    intro h
    have := (List.length_filter_eq_length_iff.1 h) d hd
    simp [other] at this
  refine fn_ofM (n := 51) [] Try.func18 rfl rfl rfl ?_
  intro a w F M hwW
  refine c_seq ?_
  refine c_region ?_
  (refine stepD rfl F rfl (o_box M (F.ev rfl) rfl ?_); clear F; clear M; intro b3 w M a F)
  (refine stepD rfl F rfl (o_box M (F.ev rfl) rfl ?_); clear F; clear M; intro b5 w M a F)
  (refine stepD rfl F rfl (o_alloc M ?_); clear F; clear M; intro b6 w M a F)
  refine stepD rfl F rfl (o_assign (F.ev rfl) ?_); clear F; clear a; intro a F
  with_reducible refine l_nil ?_
  with_reducible refine q_then ?_
  with_reducible refine c_seq ?_
  with_reducible refine c_seq ?_
  with_reducible refine c_region ?_
  refine stepD rfl F rfl (o_loadA M (F.ev rfl) (by repeat (first | exact .here | apply Has.there)) (by first | assumption | rfl) ?_); clear F; clear a; intro a F
  (refine stepD rfl F rfl (o_call (F.ev rfl) (F.evs rfl) (Cal.mono (validPool_c p n ls hP _ _ (hS0.later M.ext)) ?_)); clear F; clear a; rintro _ w ⟨rfl, hE⟩ a F; replace M := M.later hE; clear hE)
  refine stepD rfl F rfl (o_not (F.ev rfl) ?_); clear F; clear a; intro a F
  with_reducible refine l_nil ?_
  with_reducible refine q_then ?_
  refine c_false F rfl rfl ?_
  with_reducible refine c_skip ?_
  with_reducible refine q_then ?_
  with_reducible refine c_seq ?_
  with_reducible refine c_region ?_
  refine stepD rfl F rfl (o_fieldAddr (F.ev rfl) ?_); clear F; clear a; intro a F
  refine stepD rfl F rfl (o_loadA M (F.ev rfl) (by repeat (first | exact .here | apply Has.there)) (by first | assumption | rfl) ?_); clear F; clear a; intro a F
  (refine stepD rfl F rfl (o_build F rfl (build_po hP.ip.len n) ?_); clear F; clear a; intro a F)
  (refine stepD rfl F rfl (o_alloc M ?_); clear F; clear M; intro b8 w M a F)
  (refine stepN rfl F (o_storeA M (F.ev rfl) (F.ev rfl) (e6) (po_one _ _ _ _ _)  (by repeat (first | exact .here | apply Has.there))  (put_all (by rw [e6]; rfl)) (by repeat (first | exact .here | apply Upd.there)) ?_); clear F; clear M; intro w M a F)
  with_reducible refine l_nil ?_
  with_reducible refine q_then ?_
  with_reducible refine c_seq ?_
  with_reducible refine c_seq ?_
  with_reducible refine c_region ?_
  refine stepD rfl F rfl (o_fieldAddr (F.ev rfl) ?_); clear F; clear a; intro a F
  refine stepD rfl F rfl (o_load1 M (F.ev rfl) (by repeat (first | exact .here | apply Has.there)) (by first | assumption | rfl) ?_); clear F; clear a; intro a F
  refine stepD rfl F rfl (o_lenSl (F.ev rfl) ?_); clear F; clear a; intro a F
  refine stepD rfl F rfl (o_move (F.ev rfl) ?_); clear F; clear a; intro a F
  with_reducible refine l_nil ?_
  with_reducible refine q_then ?_
  with_reducible refine c_block ?_
  refine c_loop (fun k a w => ∃ (i : Nat) (u : Value) (ent : List (Nat × Obj)), k = ls.length - i ∧ i ≤ ls.length ∧ OwnS 44 19 u ((ls.take i).filter (other d.own d.ip d.bits)).length (lesC ((ls.take i).filter (other d.own d.ip d.bits))) ent ∧
    Frm a 51 [] [(21, .int .i64 i), (20, .int .i64 ls.length), (19, .slice q ls.length cap), (1, .int .u64 d.own), (3, .pointer (some ⟨b3, 0, none⟩)), (5, .pointer (some ⟨b5, 0, none⟩)), (6, .pointer (some ⟨b6, 0, none⟩)), (8, .pointer (some ⟨b8, 0, none⟩))] ∧
    Mem [] W w ((b8, .cells (poC p n u).toArray 34 (0, 0)) :: (b6, .cells (poC zeroIP 0 (.slice none 0 0)).toArray 34 (0, 0)) :: (b5, .cells (pfC d.ip d.bits).toArray 28 (0, 0)) :: (b3, .cells (poC p n (.slice q ls.length cap)).toArray 34 (0, 0)) :: ent))
    ls.length ⟨0, .slice none 0 0, [], rfl, by omega, OwnS.nil _ _, F.only [21, 20, 19, 1, 3, 5, 6, 8] rfl, M⟩ ?_
  clear F M
  rintro k a w ⟨i, u, ent, hk, hi, hO, F, M⟩
  obtain ⟨uq, ucap, rfl⟩ := hO.slice
  have g0 := po_sl hP.ip.len n (.slice uq ((ls.take i).filter (other d.own d.ip d.bits)).length ucap)
  have hcl : ((ls.take i).filter (other d.own d.ip d.bits)).length ≤ 64 := by
    have h1 : ((ls.take i).filter (other d.own d.ip d.bits)).length ≤ (ls.take i).length := List.length_filter_le _ _
    have h2 : (ls.take i).length ≤ ls.length := by simp; omega
    omega
  by_cases hlt : i < ls.length
  · obtain ⟨b, o, cs, t, fz, rfl, hb, hs⟩ := hm (by omega)
    have hct := filter_take_succ (other d.own d.ip d.bits) hlt
    obtain ⟨l, hl0⟩ : ∃ l, l = ls[i] := ⟨_, rfl⟩
    rw [← hl0] at hct
    have hlm : l ∈ ls := by rw [hl0]; exact List.getElem_mem hlt
    have hlo := hP.each l hlm
    have f1 : seg cs (o + (i : Int).toNat * 19) 19 = some (leC l) := by rw [hl0]; exact seg_el (les_len hle) hs hlt (by omega)
    have f2 := leC_len hlo.ip.len
    have f3 := le_own hlo.ip.len
    have f4 := le_pf hlo.ip.len
    have f5 := sg_all f2
    have f6 := fits_pf hlo.ip.len l.bits
    have f7 := eqVs_pf (a := l.ip) (b := d.ip) (n := l.bits) (m := d.bits) (by rw [hlo.ip.len, hdi.len])
    clear hl0
    by_cases c1 : l.own = d.own
    · cases c2 : (l.ip == d.ip && l.bits == d.bits)
      · have hot : other d.own d.ip d.bits l = true := by simp only [other, c2, Bool.not_false, Bool.or_true]
        rw [hot, if_pos rfl] at hct
        rw [c2] at f7
        with_reducible refine c_seq ?_
        with_reducible refine c_region ?_
        refine stepD rfl F rfl (o_lssT (F.ev rfl) (F.ev rfl) (by omega) ?_); clear F; clear a; intro a F
        with_reducible refine l_nil ?_
        with_reducible refine q_then ?_
        with_reducible refine c_seq ?_
        refine c_true F rfl rfl ?_
        with_reducible refine c_skip ?_
        with_reducible refine q_then ?_
        with_reducible refine c_seq ?_
        with_reducible refine c_block ?_
        with_reducible refine c_seq ?_
        with_reducible refine c_region ?_
        refine stepD rfl F rfl (o_indexSl (F.ev rfl) (F.ev rfl) (by omega) (by omega) ?_); clear F; clear a; intro a F
        refine stepD rfl F rfl (o_loadWA M (F.ev rfl) (by assumption) (by first | assumption | rfl) ?_); clear F; clear a; intro a F
        (refine stepD rfl F rfl (o_alloc M ?_); clear F; clear M; intro b10 w M a F)
        (refine stepN rfl F (o_storeA M (F.ev rfl) (F.ev rfl) (f2) (le_one _)  (by repeat (first | exact .here | apply Has.there))  (put_all (by rw [f2]; rfl)) (by repeat (first | exact .here | apply Upd.there)) ?_); clear F; clear M; intro w M a F)
        with_reducible refine l_nil ?_
        with_reducible refine q_then ?_
        with_reducible refine c_seq ?_
        with_reducible refine c_region ?_
        refine stepD rfl F rfl (o_fieldAddr (F.ev rfl) ?_); clear F; clear a; intro a F
        refine stepD rfl F rfl (o_load1 M (F.ev rfl) (by repeat (first | exact .here | apply Has.there)) (by first | assumption | rfl) ?_); clear F; clear a; intro a F
        refine stepD rfl F rfl (o_move (F.ev rfl) ?_); clear F; clear a; intro a F
        refine stepD rfl F rfl (o_neqF (F.ev rfl) (F.ev rfl) (by omega) ?_); clear F; clear a; intro a F
        refine stepD rfl F rfl (o_move (F.ev rfl) ?_); clear F; clear a; intro a F
        refine stepG rfl F rfl rfl rfl (o_fieldAddr (F.ev rfl) ?_); clear F; clear a; intro a F
        refine stepG rfl F rfl rfl rfl (o_loadA M (F.ev rfl) (by repeat (first | exact .here | apply Has.there)) (by first | assumption | rfl) ?_); clear F; clear a; intro a F
        refine stepG rfl F rfl rfl rfl (o_loadA M (F.ev rfl) (by repeat (first | exact .here | apply Has.there)) (by first | assumption | rfl) ?_); clear F; clear a; intro a F
        refine stepG rfl F rfl rfl rfl (o_neqAT (F.ev rfl) (F.ev rfl) (by first | assumption | rfl) (by first | assumption | rfl) (by assumption) ?_); clear F; clear a; intro a F
        refine stepD rfl F rfl (o_pickF (F.ev rfl) (F.ev rfl) ?_); clear F; clear a; intro a F
        with_reducible refine l_nil ?_
        with_reducible refine q_then ?_
        refine c_true F rfl rfl ?_
        with_reducible refine c_region ?_
        refine stepD rfl F rfl (o_fieldAddr (F.ev rfl) ?_); clear F; clear a; intro a F
        refine stepD rfl F rfl (o_load1 M (F.ev rfl) (by repeat (first | exact .here | apply Has.there)) (by first | assumption | rfl) ?_); clear F; clear a; intro a F
        refine stepD rfl F rfl (o_loadA M (F.ev rfl) (by repeat (first | exact .here | apply Has.there)) (by first | assumption | rfl) ?_); clear F; clear a; intro a F
        (refine stepD rfl F rfl (o_buildSlice F M rfl rfl rfl (build_le1 hlo.ip.len) ?_); clear F; clear M; intro b38 w M a F)
        (refine stepD rfl F rfl (o_append hO M (.cons (.cons (.cons (.cons (.cons (.cons .here)))))) (F.ev rfl) (F.ev rfl) (SrcOf.cells' (M.heap .here) (sg_all (by omega)) (le_one _)) (by omega) (by omega) ?_); clear F; clear M; clear hO; intro u2 ent2 w hO M a F)
        obtain ⟨uq2, ucap2, rfl⟩ := hO.slice
        have g1 := po_put hP.ip.len n (.slice uq ((ls.take i).filter (other d.own d.ip d.bits)).length ucap) (.slice uq2 (((ls.take i).filter (other d.own d.ip d.bits)).length + 1) ucap2)
        refine stepD rfl F rfl (o_fieldAddr (F.ev rfl) ?_); clear F; clear a; intro a F
        (refine stepN rfl F (o_store1 M (F.ev rfl) (F.ev rfl) rfl (by repeat (first | exact .here | apply Has.there)) (g1) (by repeat (first | exact .here | apply Upd.there)) ?_); clear F; clear M; intro w M a F)
        with_reducible refine l_nil ?_
        with_reducible refine q_inB ?_
        with_reducible refine q_then ?_
        with_reducible refine c_region ?_
        refine stepD rfl F rfl (o_add (F.ev rfl) (F.ev rfl) (w_i64 (by omega) (by omega)) ?_); clear F; clear a; intro a F
        refine stepD rfl F rfl (o_move (F.ev rfl) ?_); clear F; clear a; intro a F
        with_reducible refine l_nil ?_
        with_reducible refine q_then ?_
        rw [← les_snoc] at hO
        refine ⟨_, ?_, i + 1, _, ent2, rfl, by omega, ?_, F.only [21, 20, 19, 1, 3, 5, 6, 8] rfl, M.sub (.cons _ (.cons _ (.refl _)))⟩
        · omega
        · rw [hct]
          have : ((ls.take i).filter (other d.own d.ip d.bits) ++ [l]).length = ((ls.take i).filter (other d.own d.ip d.bits)).length + 1 := by simp
          rw [this]
          exact hO
      · have hot : other d.own d.ip d.bits l = false := by simp only [other, c2, beq_iff_eq.2 c1, Bool.not_true, Bool.or_false]
        rw [hot, if_neg (by simp), List.append_nil] at hct
        rw [c2] at f7
        with_reducible refine c_seq ?_
        with_reducible refine c_region ?_
        refine stepD rfl F rfl (o_lssT (F.ev rfl) (F.ev rfl) (by omega) ?_); clear F; clear a; intro a F
        with_reducible refine l_nil ?_
        with_reducible refine q_then ?_
        with_reducible refine c_seq ?_
        refine c_true F rfl rfl ?_
        with_reducible refine c_skip ?_
        with_reducible refine q_then ?_
        with_reducible refine c_seq ?_
        with_reducible refine c_block ?_
        with_reducible refine c_seq ?_
        with_reducible refine c_region ?_
        refine stepD rfl F rfl (o_indexSl (F.ev rfl) (F.ev rfl) (by omega) (by omega) ?_); clear F; clear a; intro a F
        refine stepD rfl F rfl (o_loadWA M (F.ev rfl) (by assumption) (by first | assumption | rfl) ?_); clear F; clear a; intro a F
        (refine stepD rfl F rfl (o_alloc M ?_); clear F; clear M; intro b10 w M a F)
        (refine stepN rfl F (o_storeA M (F.ev rfl) (F.ev rfl) (f2) (le_one _)  (by repeat (first | exact .here | apply Has.there))  (put_all (by rw [f2]; rfl)) (by repeat (first | exact .here | apply Upd.there)) ?_); clear F; clear M; intro w M a F)
        with_reducible refine l_nil ?_
        with_reducible refine q_then ?_
        with_reducible refine c_seq ?_
        with_reducible refine c_region ?_
        refine stepD rfl F rfl (o_fieldAddr (F.ev rfl) ?_); clear F; clear a; intro a F
        refine stepD rfl F rfl (o_load1 M (F.ev rfl) (by repeat (first | exact .here | apply Has.there)) (by first | assumption | rfl) ?_); clear F; clear a; intro a F
        refine stepD rfl F rfl (o_move (F.ev rfl) ?_); clear F; clear a; intro a F
        refine stepD rfl F rfl (o_neqF (F.ev rfl) (F.ev rfl) (by omega) ?_); clear F; clear a; intro a F
        refine stepD rfl F rfl (o_move (F.ev rfl) ?_); clear F; clear a; intro a F
        refine stepG rfl F rfl rfl rfl (o_fieldAddr (F.ev rfl) ?_); clear F; clear a; intro a F
        refine stepG rfl F rfl rfl rfl (o_loadA M (F.ev rfl) (by repeat (first | exact .here | apply Has.there)) (by first | assumption | rfl) ?_); clear F; clear a; intro a F
        refine stepG rfl F rfl rfl rfl (o_loadA M (F.ev rfl) (by repeat (first | exact .here | apply Has.there)) (by first | assumption | rfl) ?_); clear F; clear a; intro a F
        refine stepG rfl F rfl rfl rfl (o_neqAF (F.ev rfl) (F.ev rfl) (by first | assumption | rfl) (by first | assumption | rfl) (by assumption) ?_); clear F; clear a; intro a F
        refine stepD rfl F rfl (o_pickF (F.ev rfl) (F.ev rfl) ?_); clear F; clear a; intro a F
        with_reducible refine l_nil ?_
        with_reducible refine q_then ?_
        refine c_false F rfl rfl ?_
        with_reducible refine c_skip ?_
        with_reducible refine q_inB ?_
        with_reducible refine q_then ?_
        with_reducible refine c_region ?_
        refine stepD rfl F rfl (o_add (F.ev rfl) (F.ev rfl) (w_i64 (by omega) (by omega)) ?_); clear F; clear a; intro a F
        refine stepD rfl F rfl (o_move (F.ev rfl) ?_); clear F; clear a; intro a F
        with_reducible refine l_nil ?_
        with_reducible refine q_then ?_
        refine ⟨_, ?_, i + 1, _, ent, rfl, by omega, by rw [hct]; exact hO, F.only [21, 20, 19, 1, 3, 5, 6, 8] rfl, M.sub (.cons _ (.refl _))⟩
        omega
    · have hot : other d.own d.ip d.bits l = true := by simp only [other, beq_eq_false_iff_ne.2 c1, Bool.not_false, Bool.true_or]
      rw [hot, if_pos rfl] at hct
      with_reducible refine c_seq ?_
      with_reducible refine c_region ?_
      refine stepD rfl F rfl (o_lssT (F.ev rfl) (F.ev rfl) (by omega) ?_); clear F; clear a; intro a F
      with_reducible refine l_nil ?_
      with_reducible refine q_then ?_
      with_reducible refine c_seq ?_
      refine c_true F rfl rfl ?_
      with_reducible refine c_skip ?_
      with_reducible refine q_then ?_
      with_reducible refine c_seq ?_
      with_reducible refine c_block ?_
      with_reducible refine c_seq ?_
      with_reducible refine c_region ?_
      refine stepD rfl F rfl (o_indexSl (F.ev rfl) (F.ev rfl) (by omega) (by omega) ?_); clear F; clear a; intro a F
      refine stepD rfl F rfl (o_loadWA M (F.ev rfl) (by assumption) (by first | assumption | rfl) ?_); clear F; clear a; intro a F
      (refine stepD rfl F rfl (o_alloc M ?_); clear F; clear M; intro b10 w M a F)
      (refine stepN rfl F (o_storeA M (F.ev rfl) (F.ev rfl) (f2) (le_one _)  (by repeat (first | exact .here | apply Has.there))  (put_all (by rw [f2]; rfl)) (by repeat (first | exact .here | apply Upd.there)) ?_); clear F; clear M; intro w M a F)
      with_reducible refine l_nil ?_
      with_reducible refine q_then ?_
      with_reducible refine c_seq ?_
      with_reducible refine c_region ?_
      refine stepD rfl F rfl (o_fieldAddr (F.ev rfl) ?_); clear F; clear a; intro a F
      refine stepD rfl F rfl (o_load1 M (F.ev rfl) (by repeat (first | exact .here | apply Has.there)) (by first | assumption | rfl) ?_); clear F; clear a; intro a F
      refine stepD rfl F rfl (o_move (F.ev rfl) ?_); clear F; clear a; intro a F
      refine stepD rfl F rfl (o_neqT (F.ev rfl) (F.ev rfl) (by omega) ?_); clear F; clear a; intro a F
      refine stepD rfl F rfl (o_move (F.ev rfl) ?_); clear F; clear a; intro a F
      refine stepOff F rfl rfl rfl rfl ?_; clear F; clear a; intro a F
      refine stepOff F rfl rfl rfl rfl ?_; clear F; clear a; intro a F
      refine stepOff F rfl rfl rfl rfl ?_; clear F; clear a; intro a F
      refine stepOff F rfl rfl rfl rfl ?_; clear F; clear a; intro a F
      refine stepD rfl F rfl (o_pickT (F.ev rfl) (F.ev rfl) ?_); clear F; clear a; intro a F
      with_reducible refine l_nil ?_
      with_reducible refine q_then ?_
      refine c_true F rfl rfl ?_
      with_reducible refine c_region ?_
      refine stepD rfl F rfl (o_fieldAddr (F.ev rfl) ?_); clear F; clear a; intro a F
      refine stepD rfl F rfl (o_load1 M (F.ev rfl) (by repeat (first | exact .here | apply Has.there)) (by first | assumption | rfl) ?_); clear F; clear a; intro a F
      refine stepD rfl F rfl (o_loadA M (F.ev rfl) (by repeat (first | exact .here | apply Has.there)) (by first | assumption | rfl) ?_); clear F; clear a; intro a F
      (refine stepD rfl F rfl (o_buildSlice F M rfl rfl rfl (build_le1 hlo.ip.len) ?_); clear F; clear M; intro b38 w M a F)
      (refine stepD rfl F rfl (o_append hO M (.cons (.cons (.cons (.cons (.cons (.cons .here)))))) (F.ev rfl) (F.ev rfl) (SrcOf.cells' (M.heap .here) (sg_all (by omega)) (le_one _)) (by omega) (by omega) ?_); clear F; clear M; clear hO; intro u2 ent2 w hO M a F)
      obtain ⟨uq2, ucap2, rfl⟩ := hO.slice
      have g1 := po_put hP.ip.len n (.slice uq ((ls.take i).filter (other d.own d.ip d.bits)).length ucap) (.slice uq2 (((ls.take i).filter (other d.own d.ip d.bits)).length + 1) ucap2)
      refine stepD rfl F rfl (o_fieldAddr (F.ev rfl) ?_); clear F; clear a; intro a F
      (refine stepN rfl F (o_store1 M (F.ev rfl) (F.ev rfl) rfl (by repeat (first | exact .here | apply Has.there)) (g1) (by repeat (first | exact .here | apply Upd.there)) ?_); clear F; clear M; intro w M a F)
      with_reducible refine l_nil ?_
      with_reducible refine q_inB ?_
      with_reducible refine q_then ?_
      with_reducible refine c_region ?_
      refine stepD rfl F rfl (o_add (F.ev rfl) (F.ev rfl) (w_i64 (by omega) (by omega)) ?_); clear F; clear a; intro a F
      refine stepD rfl F rfl (o_move (F.ev rfl) ?_); clear F; clear a; intro a F
      with_reducible refine l_nil ?_
      with_reducible refine q_then ?_
      rw [← les_snoc] at hO
      refine ⟨_, ?_, i + 1, _, ent2, rfl, by omega, ?_, F.only [21, 20, 19, 1, 3, 5, 6, 8] rfl, M.sub (.cons _ (.cons _ (.refl _)))⟩
      · omega
      · rw [hct]
        have : ((ls.take i).filter (other d.own d.ip d.bits) ++ [l]).length = ((ls.take i).filter (other d.own d.ip d.bits)).length + 1 := by simp
        rw [this]
        exact hO
  · obtain rfl : i = ls.length := by omega
    rw [List.take_length] at hO M g0 hcl
    clear hlt hi hk
    have g2 := po_all hP.ip.len n (.slice uq (ls.filter (other d.own d.ip d.bits)).length ucap)
    have g3 := poC_len hP.ip.len n (.slice uq (ls.filter (other d.own d.ip d.bits)).length ucap)
    with_reducible refine c_seq ?_
    with_reducible refine c_region ?_
    refine stepD rfl F rfl (o_lssF (F.ev rfl) (F.ev rfl) (by omega) ?_); clear F; clear a; intro a F
    with_reducible refine l_nil ?_
    with_reducible refine q_then ?_
    with_reducible refine c_seq ?_
    refine c_false F rfl rfl ?_
    with_reducible refine c_exit ?_
    with_reducible refine q_thenX ?_
    with_reducible refine q_thenX ?_
    with_reducible refine q_inBX ?_
    with_reducible refine q_then ?_
    with_reducible refine c_seq ?_
    with_reducible refine c_seq ?_
    with_reducible refine c_region ?_
    refine stepD rfl F rfl (o_fieldAddr (F.ev rfl) ?_); clear F; clear a; intro a F
    refine stepD rfl F rfl (o_load1 M (F.ev rfl) (by repeat (first | exact .here | apply Has.there)) (by first | assumption | rfl) ?_); clear F; clear a; intro a F
    refine stepD rfl F rfl (o_lenSl (F.ev rfl) ?_); clear F; clear a; intro a F
    refine stepD rfl F rfl (o_fieldAddr (F.ev rfl) ?_); clear F; clear a; intro a F
    refine stepD rfl F rfl (o_load1 M (F.ev rfl) (by repeat (first | exact .here | apply Has.there)) (by first | assumption | rfl) ?_); clear F; clear a; intro a F
    refine stepD rfl F rfl (o_lenSl (F.ev rfl) ?_); clear F; clear a; intro a F
    refine stepD rfl F rfl (o_eqlF (F.ev rfl) (F.ev rfl) (by omega) ?_); clear F; clear a; intro a F
    with_reducible refine l_nil ?_
    with_reducible refine q_then ?_
    refine c_false F rfl rfl ?_
    with_reducible refine c_skip ?_
    with_reducible refine q_then ?_
    with_reducible refine c_seq ?_
    with_reducible refine c_region ?_
    refine stepD rfl F rfl (o_loadA M (F.ev rfl) (by repeat (first | exact .here | apply Has.there)) (by first | assumption | rfl) ?_); clear F; clear a; intro a F
    (refine stepN rfl F (o_storeA M (F.ev rfl) (F.ev rfl) (g3) (po_one _ _ _ _ _)  (by repeat (first | exact .here | apply Has.there))  (put_all (by rw [g3]; rfl)) (by repeat (first | exact .here | apply Upd.there)) ?_); clear F; clear M; intro w M a F)
    refine stepD rfl F rfl (o_assign (F.ev rfl) ?_); clear F; clear a; intro a F
    with_reducible refine l_nil ?_
    with_reducible refine q_then ?_
    with_reducible refine c_ret ?_
    exact p_ret F rfl (.cons (.cell (F.ev rfl) (run_loadVar_agg TAgg.h (M.heap (by repeat (first | exact .here | apply Has.there))) g2)) (.cons (.tmp (F.ev rfl)) .nil)) ⟨_, ent, rfl, hO, M.sub (.cons _ (.cons _ (.cons _ (.cons _ (.refl _)))))⟩
end Go.Proofs.Ytainnefmobfcjaa

/-! LibR -/
/-
  The calculus, part R: regions that draw, in which calls turn a known block and answer with new memory, and whose answers are stored into variables that are made in the region itself.
-/
namespace Go.Proofs.Ytainnefmobfcjaa
set_option linter.unusedVariables false
set_option linter.unusedSimpArgs false
open Go.RowKit

/-- Of what lies below n0 only the blocks B are turned; what lies above keeps its kind and length. -/
structure Sh (n0 : Nat) (B : List Nat) (w w' : World) : Prop where
  os : w'.os = w.os
  tape : w'.tape = w.tape
  output : w'.output = w.output
  size : w.heap.size ≤ w'.heap.size
  old : ∀ k, k < n0 → k < w.heap.size → k ∉ B → w'.heap[k]? = w.heap[k]?
  new : ∀ k cs t, n0 ≤ k → w.heap[k]? = some (.cells cs t (0, 0)) → ∃ cs', w'.heap[k]? = some (.cells cs' t (0, 0)) ∧ cs'.size = cs.size
theorem Sh.of_ext {n0 : Nat} {B : List Nat} {w w' : World} (h : Ext [] w w') : Sh n0 B w w' :=
  ⟨h.os, h.tape, h.output, h.size, fun k _ hk _ => h.block k hk (by simp), fun k cs t _ hb => ⟨cs, by rw [h.block k (Array.getElem?_eq_some_iff.1 hb).1 (by simp)]; exact hb, rfl⟩⟩
theorem Sh.of_extB {n0 : Nat} {B : List Nat} {w w' : World} (h : Ext B w w') (hB : ∀ k ∈ B, k < n0) : Sh n0 B w w' :=
  ⟨h.os, h.tape, h.output, h.size, fun k _ hk hb => h.block k hk hb, fun k cs t hn hb => ⟨cs, by rw [h.block k (Array.getElem?_eq_some_iff.1 hb).1 (fun hm => by have := hB k hm; omega)]; exact hb, rfl⟩⟩
theorem Sh.trans {n0 : Nat} {B : List Nat} {a b c : World} (h : Sh n0 B a b) (k : Sh n0 B b c) : Sh n0 B a c :=
  ⟨k.os.trans h.os, k.tape.trans h.tape, k.output.trans h.output, Nat.le_trans h.size k.size, fun i hi hs hb => (k.old i hi (Nat.lt_of_lt_of_le hs h.size) hb).trans (h.old i hi hs hb), fun i cs t hn hb => by
    obtain ⟨cs1, h1, h2⟩ := h.new i cs t hn hb
    obtain ⟨cs2, h3, h4⟩ := k.new i cs1 t hn h1
    exact ⟨cs2, h3, h4.trans h2⟩⟩
def keepSh (n0 : Nat) (B : List Nat) : Keep := ⟨Ext [], Sh n0 B, fun w => Ext.refl [] w, Sh.of_ext, Sh.trans, fun h => h.size⟩
theorem Sh.ext {B : List Nat} {w w' : World} (h : Sh w.heap.size B w w') : Ext B w w' := ⟨h.os, h.tape, h.output, h.size, fun k hk hb => h.old k hk hk hb⟩
/-- a store into one new block -/
theorem Sh.of_new {n0 b : Nat} {B : List Nat} {w w' : World} {cs cs' : Array Value} {t : TypeId} (h : Ext [b] w w') (hn : n0 ≤ b) (hb : w.heap[b]? = some (.cells cs t (0, 0))) (hb' : w'.heap[b]? = some (.cells cs' t (0, 0))) (hs : cs'.size = cs.size) : Sh n0 B w w' :=
  ⟨h.os, h.tape, h.output, h.size, fun k hk hks _ => h.block k hks (by simp only [List.mem_singleton]; omega), fun k ds t' _ hk => by
    by_cases e : k = b
    · subst e
      rw [hb] at hk
      cases hk
      exact ⟨cs', hb', hs⟩
    · exact ⟨ds, by rw [h.block k (Array.getElem?_eq_some_iff.1 hk).1 (by simpa using e)]; exact hk, rfl⟩⟩

/-- a pointer to a new block of this kind and length -/
def AlS (n0 : Nat) (t : TypeId) (len : Nat) : Pred := fun v w => ∃ b cs, v = ptrTo b ∧ n0 ≤ b ∧ w.heap[b]? = some (.cells cs t (0, 0)) ∧ cs.size = len
theorem AlS.stays (n0 : Nat) (B : List Nat) (t : TypeId) (len : Nat) : Stays (keepSh n0 B) (AlS n0 t len) := fun v w w' ⟨b, cs, h1, h2, h3, h4⟩ h => by
  obtain ⟨cs', h5, h6⟩ := Sh.new h b cs t h2 h3
  exact ⟨b, cs', h1, h2, h5, h6.trans h4⟩

theorem relV_run {P : Program} {ρ : Operand → Value} {w : World} {o : Oper} {u v : Value} (hx : ∀ x, (o.op = .move x ∨ ∃ i, o.op = .extract x i) → ρ x = u) (h : relV o.op u = some v) : (execOp ρ o).run P w = .ok (.value v) w := by
  unfold relV at h
  cases hop : o.op <;> rw [hop] at h <;> simp only at h <;> try cases h
  · rename_i x
    have := hx x (.inl hop)
    simp [execOp, hop, this]
  · rename_i x i
    have := hx x (.inr ⟨i, hop⟩)
    split at h
    · rename_i vs
      simp [execOp, hop, this, Instr.extract, h]
    · cases h

section
variable {c : RC} {fr : List (Nat × Value)} {Vs : List Pred} {T T' : SPred} {rest : List Oper} {d : Nat} {op : Op} {ty : TypeId} {pos : String} {af : Array Edge} {ix : Nat}
def effX (Ef : List Nat) (Rl : List (Nat × Nat)) (Pp : List PairI) (n ix : Nat) (op : Op) : Bool := Nat.blt ix n && Ef.contains ix && !isAl op && Pp.isEmpty && relFree Rl ix
theorem effX_spec {Ef : List Nat} {Rl : List (Nat × Nat)} {Pp : List PairI} {n ix : Nat} {op : Op} (h : effX Ef Rl Pp n ix op = true) : ix < n ∧ ix ∈ Ef ∧ isAl op = false ∧ Pp = [] ∧ relFree Rl ix = true := by
  simp only [effX, Bool.and_eq_true, Bool.not_eq_true'] at h
  exact ⟨Nat.le_of_ble_eq_true h.1.1.1.1, by simpa using h.1.1.1.2, h.1.1.2, List.isEmpty_iff.1 h.1.2, h.2⟩

/-- an effect, its value known -/
theorem xE {v : Value} (hok : regOk c.ops c.n = true) (hlt : effX c.Ef c.Rl c.Pp c.n ix op = true) (hd : Nat.blt d c.nt = true) (hsT : StaysT c.K T') (hXT : XT c (ix + 1) T')
    (h : ∀ a w σ, Frm a c.nt c.df fr → c.K.e c.w1 w → T σ w → OpTo c.P ⟨some d, op, ty, pos, af, none⟩ a.eval w fun x w' => c.K.e w w' ∧ x = v ∧ T' (updS σ ix x) w')
    (k : MW c (ix + 1) rest ((d, v) :: fr) (Vs ++ [Kn v]) T') : MW c ix (⟨some d, op, ty, pos, af, none⟩ :: rest) fr Vs T := by
  obtain ⟨h1, h2, h3, h4, hrf⟩ := effX_spec hlt
  rintro rfl hT0 hPK
  exact mw_gen hok h1 (Kn.stays _ _) hsT hT0.2 (fun hh => absurd h2 hh) hPK (fun hC ho => cov_known rfl hd hC ho) (fun a w σ F he hdp hT hPp hσ hrel => by
    simp only [Region.wanted, if_true]
    exact (h a w σ F he (hT h2)).mono fun x w' ⟨q1, q2, q3⟩ => ⟨q1, q2, fun hh => absurd (h3.symm.trans hh) Bool.false_ne_true, fun hh => absurd h2 hh, fun _ => q3, .none h4, fun q hq e => (relFree_spec hrf q hq e).elim⟩) (k (by simp) ⟨hsT, hXT⟩ hPK)
/-- .. told by a predicate -/
theorem xEX {V : Pred} (hok : regOk c.ops c.n = true) (hlt : effX c.Ef c.Rl c.Pp c.n ix op = true) (hnd : notIn d fr = true) (hst : Stays c.K V) (hsT : StaysT c.K T') (hXT : XT c (ix + 1) T')
    (h : ∀ a w σ, Frm a c.nt c.df fr → c.K.e c.w1 w → T σ w → OpTo c.P ⟨some d, op, ty, pos, af, none⟩ a.eval w fun x w' => c.K.e w w' ∧ V x w' ∧ T' (updS σ ix x) w')
    (k : MW c (ix + 1) rest fr (Vs ++ [V]) T') : MW c ix (⟨some d, op, ty, pos, af, none⟩ :: rest) fr Vs T := by
  obtain ⟨h1, h2, h3, h4, hrf⟩ := effX_spec hlt
  rintro rfl hT0 hPK
  exact mw_gen hok h1 hst hsT hT0.2 (fun hh => absurd h2 hh) hPK (fun hC ho' => cov_same (fun d' hd' => by cases hd'; exact hnd) hC ho') (fun a w σ F he hdp hT hPp hσ hrel => by
    simp only [Region.wanted, if_true]
    exact (h a w σ F he (hT h2)).mono fun x w' ⟨q1, q2, q3⟩ => ⟨q1, q2, fun hh => absurd (h3.symm.trans hh) Bool.false_ne_true, fun hh => absurd h2 hh, fun _ => q3, .none h4, fun q hq e => (relFree_spec hrf q hq e).elim⟩) (k (by simp) ⟨hsT, hXT⟩ hPK)
/-- an effect that answers nothing, with all that is known of what it waits for -/
theorem xEN (hok : regOk c.ops c.n = true) (hlt : effX c.Ef c.Rl c.Pp c.n ix op = true) (hsT : StaysT c.K T') (hXT : XT c (ix + 1) T')
    (h : ∀ a w σ, Frm a c.nt c.df fr → c.K.e c.w1 w → (∀ j' ∈ depsOf ⟨none, op, ty, pos, af, none⟩, ∀ U, Vs[j']? = some U → U (slotV c.ops j' a) w) → (∀ e', e' ∈ c.Ef ∨ e' ∈ c.X → e' ∈ depsOf ⟨none, op, ty, pos, af, none⟩ → σ e' = slotV c.ops e' a) → (∀ q ∈ c.Rl, q.1 ∈ depsOf ⟨none, op, ty, pos, af, none⟩ → q.2 ∈ depsOf ⟨none, op, ty, pos, af, none⟩ → ∃ oq, c.ops[q.1]? = some oq ∧ relV oq.op (slotV c.ops q.2 a) = some (slotV c.ops q.1 a)) → T σ w →
      OpTo c.P ⟨none, op, ty, pos, af, none⟩ a.eval w fun _ w' => c.K.e w w' ∧ T' (updS σ ix undef) w')
    (k : MW c (ix + 1) rest fr (Vs ++ [Kn undef]) T') : MW c ix (⟨none, op, ty, pos, af, none⟩ :: rest) fr Vs T := by
  obtain ⟨h1, h2, h3, h4, hrf⟩ := effX_spec hlt
  rintro rfl hT0 hPK
  exact mw_gen hok h1 (Kn.stays _ undef) hsT hT0.2 (fun hh => absurd h2 hh) hPK (fun hC ho' => cov_same (fun d' hd' => by cases hd') hC ho') (fun a w σ F he hdp hT hPp hσ hrel => by
    simp only [Region.wanted, if_true]
    exact (h a w σ F he hdp hσ hrel (hT h2)).mono fun x w' ⟨q1, q3⟩ => ⟨q1, rfl, fun hh => absurd (h3.symm.trans hh) Bool.false_ne_true, fun hh => absurd h2 hh, fun _ => q3, .none h4, fun q hq e => (relFree_spec hrf q hq e).elim⟩) (k (by simp) ⟨hsT, hXT⟩ hPK)
/-- an alloc that is stored into -/
theorem xAl {t0 : TypeId} {cs0 : List Value} (hok : regOk c.ops c.n = true) (hlt : (Nat.blt ix c.n && !c.Ef.contains ix && (pairFree c.Pp ix && relFree c.Rl ix)) = true) (hnd : notIn d fr = true) (hst : Stays c.K (AlS c.w1.heap.size t0 cs0.length)) (hr : ∀ w, c.K.r w (w.alloc (.cells cs0.toArray t0 (0, 0))))
    (h : ∀ a w, Frm a c.nt c.df fr → c.K.e c.w1 w → (execOp a.eval ⟨some d, op, ty, pos, af, none⟩).run c.P w = .ok (.value (ptrTo w.heap.size)) (w.alloc (.cells cs0.toArray t0 (0, 0))))
    (k : MW c (ix + 1) rest fr (Vs ++ [AlS c.w1.heap.size t0 cs0.length]) T) : MW c ix (⟨some d, op, ty, pos, af, none⟩ :: rest) fr Vs T := by
  simp only [Bool.and_eq_true, Bool.not_eq_true'] at hlt
  have h1 : ix < c.n := Nat.le_of_ble_eq_true hlt.1.1
  have h2 : ix ∉ c.Ef := by simpa using hlt.1.2
  rintro rfl hT0 hPK
  refine mw_gen hok h1 hst hT0.1 hT0.2 (fun _ => rfl) hPK (fun hC ho' => cov_same (fun d' hd' => by cases hd'; exact hnd) hC ho') (fun a w σ F he hdp hT hPp hσ hrel => ?_) (k (by simp) ⟨hT0.1, hT0.2.succ⟩ hPK)
  simp only [Region.wanted, if_true]
  exact OpTo.val (h a w F he) ⟨c.K.re (hr w), ⟨w.heap.size, cs0.toArray, rfl, c.K.size he, heap_alloc_new w _, by simp⟩, fun _ => ⟨rfl, by simp⟩, fun _ _ => hr w, fun hh => absurd hh h2, .flo hlt.2.1 fun _ => Ext.alloc w _, fun q hq e => (relFree_spec hlt.2.2 q hq e).elim⟩
/-- by program: operation ix makes something of what operation k has left -/
def relIs (ops : Array Oper) (Ef : List Nat) (Rl : List (Nat × Nat)) (Pp : List PairI) (n ix k : Nat) (op : Op) (af : Array Edge) : Bool :=
  Nat.blt ix n && !Ef.contains ix && !isAl op && pairFree Pp ix && (Rl.all fun q => q.1 != ix || q.2 == k) &&
  (match op with | .move (.tmp t) | .extract (.tmp t) _ => (ops[k]?).bind (·.dst) == some t | _ => false) && (af.toList.filter (Region.binds .any)).any (fun e => e.on == k)
theorem xRel {V : Pred} (k' : Nat) {U : Pred} (hok : regOk c.ops c.n = true) (hlt : relIs c.ops c.Ef c.Rl c.Pp c.n ix k' op af = true) (hnd : notIn d fr = true) (hst : Stays c.K V) (hr : ∀ w, c.K.r w w) (hU : Vs[k']? = some U)
    (h : ∀ u w, c.K.e c.w1 w → U u w → ∃ v, relV op u = some v ∧ V v w)
    (k : MW c (ix + 1) rest fr (Vs ++ [V]) T) : MW c ix (⟨some d, op, ty, pos, af, none⟩ :: rest) fr Vs T := by
  simp only [relIs, Bool.and_eq_true, Bool.not_eq_true'] at hlt
  obtain ⟨⟨⟨⟨⟨⟨g1, g2⟩, g3⟩, g4⟩, g5⟩, g6⟩, g7⟩ := hlt
  have h1 : ix < c.n := Nat.le_of_ble_eq_true g1
  have h2 : ix ∉ c.Ef := by simpa using g2
  have hk : k' ∈ depsOf ⟨some d, op, ty, pos, af, none⟩ := by
    obtain ⟨e, he, h3⟩ := List.any_eq_true.1 g7
    exact List.mem_map.2 ⟨e, he, by simpa using h3⟩
  rintro rfl hT0 hPK
  refine mw_gen hok h1 hst hT0.1 hT0.2 (fun _ => rfl) hPK (fun hC ho' => cov_same (fun d' hd' => by cases hd'; exact hnd) hC ho') (fun a w σ F he hdp hT hPp hσ hrel => ?_) (k (by simp) ⟨hT0.1, hT0.2.succ⟩ hPK)
  simp only [Region.wanted, if_true]
  obtain ⟨v, hv1, hv2⟩ := h (slotV c.ops k' a) w he (hdp k' hk U hU)
  have hrun : (execOp a.eval ⟨some d, op, ty, pos, af, none⟩).run c.P w = .ok (.value v) w := by
    refine relV_run (u := slotV c.ops k' a) (fun x hx => ?_) hv1
    have hx' : op = .move x ∨ ∃ i, op = .extract x i := hx
    have : ∃ t, x = .tmp t ∧ (c.ops[k']?).bind (·.dst) = some t := by
      rcases hx' with rfl | ⟨i, rfl⟩
      · cases x with
        | tmp t => exact ⟨t, rfl, by simpa using g6⟩
        | const _ => simp at g6
        | global _ => simp at g6
        | func _ => simp at g6
      · cases x with
        | tmp t => exact ⟨t, rfl, by simpa using g6⟩
        | const _ => simp at g6
        | global _ => simp at g6
        | func _ => simp at g6
    obtain ⟨t, rfl, ht⟩ := this
    unfold slotV
    rw [ht]
    rfl
  exact OpTo.val hrun ⟨c.K.re (hr w), hv2, fun hh => absurd (g3.symm.trans hh) Bool.false_ne_true, fun _ _ => hr w, fun hh => absurd hh h2, .flo g4 fun _ => Ext.refl _ _, fun q hq e => by
    have := List.all_eq_true.1 g5 q hq
    simp only [bne_iff_ne, ne_eq, Bool.or_eq_true, e, not_true_eq_false, false_or, beq_iff_eq] at this
    rw [this]; exact hv1⟩
/-- All the first n have been walked. -/
theorem xDone (hn : Nat.beq ix c.n = true)
    (h : ∀ a w, Frm a c.nt c.df fr → c.K.e c.w1 w → (∀ (j : Nat) (V : Pred), Vs[j]? = some V → V (slotV c.ops j a) w) → T (slotE c.Ef c.X c.ops a) w →
      (∀ i j oi oj, i < c.n → j < c.n → i ≠ j → c.ops[i]? = some oi → c.ops[j]? = some oj → isAl oi.op = true → isAl oj.op = true → slotV c.ops i a ≠ slotV c.ops j a) →
      (∀ q ∈ c.Rl, ∃ oq, c.ops[q.1]? = some oq ∧ relV oq.op (slotV c.ops q.2 a) = some (slotV c.ops q.1 a)) → wpListIn (FW c.r) 0 c.P c.ops c.Q rest a w) : MW c ix rest fr Vs T := by
  rintro rfl hT0 hPK
  have hn' : Vs.length = c.n := Nat.eq_of_beq_eq_true hn
  intro hdrop hC hle h1
  refine ⟨[], fun _ => T, by simp [hn'], by simp, rfl, fun _ _ => hT0.1, fun _ _ _ => rfl, fun k hk x hx hkx => hT0.2 x hx (by omega), fun Ts' hTs' => ⟨by simp, fun listed a w M hall hT => ?_⟩⟩
  rw [List.append_nil] at M
  rw [hn'] at hdrop
  rw [hdrop]
  rw [hTs' c.n (by omega)] at hT
  refine h a w ⟨M.size, M.defers, fun t v ht => ?_⟩ M.ext (fun j V hV => M.vals j V (by rw [← hn']; exact (List.getElem?_eq_some_iff.1 hV).1) (hall j (by rw [← hn']; exact (List.getElem?_eq_some_iff.1 hV).1)) hV) hT (fun i j oi oj hi hj hne hoi hoj hai haj => M.dist i j oi oj hi hj hne hoi hoj hai haj (hall i hi) (hall j hj)) (fun q hq => by
    have h := List.all_eq_true.1 hPK.1.2 q hq
    simp only [Bool.and_eq_true, decide_eq_true_eq] at h
    exact M.rel q hq (hall q.1 h.1.1))
  rcases hC.c t v ht with ⟨hb, hb2⟩ | ⟨j, oj, hj, hoj, hdj, hV, _⟩
  · rw [M.base t (fun j oj hj hoj _ => hb j oj (by omega) hoj), hb2]
  · have h0 := M.vals j _ (by omega) (hall j (by omega)) hV
    unfold slotV at h0
    rw [hoj] at h0
    simp only [Option.bind_some, hdj] at h0
    exact h0
end
section
variable {P : Program} {ρ : Operand → Value} {w : World} {R : Value → World → Prop} {d : Option Tmp} {ty : TypeId} {pos : String} {af : Array Edge} {g : Option (Nat × Bool)}
/-- a load out of a block that is known to lie there -/
theorem o_loadHA {t : TypeId} {x : Operand} {b off n : Nat} {cs : List Value} {t' : TypeId} {fz : Nat × Nat} {vs : List Value} [ht : TAgg P t n] (hx : ρ x = .pointer (some ⟨b, off, none⟩)) (hb : w.heap[b]? = some (.cells cs.toArray t' fz)) (hv : seg cs off n = some vs) (h : R (.agg vs.toArray) w) : OpTo P ⟨d, .load t x, ty, pos, af, g⟩ ρ w R :=
  o_load hx (run_loadVar_agg ht.h hb (by simpa using hv)) h
theorem o_loadH1 {t : TypeId} {x : Operand} {b off : Nat} {cs : List Value} {t' : TypeId} {fz : Nat × Nat} {v : Value} [ht : TOne P t] (hx : ρ x = .pointer (some ⟨b, off, none⟩)) (hb : w.heap[b]? = some (.cells cs.toArray t' fz)) (hv : nth cs off = some v) (h : R v w) : OpTo P ⟨d, .load t x, ty, pos, af, g⟩ ρ w R :=
  o_load hx (run_loadVar_one ht.h (cell_at hb (by rw [nth_spec] at hv; simpa using hv))) h
end
theorem perm2 {α : Type} (A B : List α) (x y : α) : (A ++ (x :: y :: B)).Perm (y :: x :: (A ++ B)) :=
  (List.perm_middle).trans (((List.perm_middle).cons x).trans (List.Perm.swap _ _ _))
/-- The region: X: whose slots the state may look at; Rl: moves and extracts of what is told by a predicate. -/
theorem c_drawX {P : Program} {r : Option Nat} {Q : Exit → Act → World → Prop} {a : Act} {w : World} {nt : Nat} {df : List Deferred} {fr : List (Nat × Value)} {id : Nat} {ol : List Oper} (K : Keep) (Ef X : List Nat) (Rl : List (Nat × Nat)) (T : SPred) (n : Nat) [hm : TMix P] (F : Frm a nt df fr)
    (hchk : (regOk ol.toArray n && tailOk ol.toArray n && Nat.ble n ol.length && dstOk ol.toArray n nt && effOk ol.toArray n Ef && xOk ol.toArray n Ef X && relOk ol.toArray n Rl) = true) (hsT : StaysT K T) (hX0 : ∀ x ∈ X, irrT T x) (hT : ∀ σ d, T σ { w with drawn := d })
    (h : ∀ w1, Ext [] w w1 → w1.heap.size = w.heap.size → regOk ol.toArray n = true → MW ⟨K, Ef, [], P, r, ol.toArray, n, nt, df, a, w1, Q, X, Rl⟩ 0 ol fr [] T) : Wp r P (.region id ol.toArray true) Q a w := by
  simp only [Bool.and_eq_true] at hchk
  obtain ⟨⟨⟨⟨⟨⟨h1, h2⟩, h3⟩, h4⟩, h6⟩, h7⟩, h8⟩ := hchk
  have hw1 : Ext [] w { w with drawn := w.drawn + 1 } := Ext.drawn w _
  have hpo : pairOk ol.toArray n Ef [] = true := rfl
  obtain ⟨Us, Ts, hl, hs, hT1, hT2, hT3, hT4, hgt⟩ := h _ hw1 rfl h1 rfl ⟨hsT, fun x hx _ => hX0 x hx⟩ ⟨⟨hpo, h8⟩, fun h => absurd rfl h⟩ (by simp) ⟨fun t v hv => .inl ⟨fun j o hj => absurd hj (by simp), F.at_ t v hv⟩⟩ (Nat.zero_le _) F.size
  simp only [List.nil_append, List.length_nil] at hl hT1 hT2 hT3 hT4 hgt
  obtain ⟨hg, ht⟩ := hgt Ts (fun _ _ => rfl)
  have hst : ∀ k, StaysT K (Ts k) := fun k => by
    rcases Nat.eq_zero_or_pos k with rfl | h
    · rw [hT1]; exact hsT
    · exact hT2 k h
  refine region_mid (K := K) (Pp := []) (Ef := Ef) (X := X) (Rl := Rl) (Ts := Ts) (nt := nt) (df := df) hm.h h1 h2 (by have := Nat.le_of_ble_eq_true h3; simpa using this) hl hs h6 hst (fun k hk => hT3 k (Nat.zero_le _) hk) h7 (fun x hx p hp => hT4 p (Nat.zero_le _) x hx hp) h8 (by rw [hT1]; exact hT _ _) hpo (fun h => absurd rfl h) (fun i o d hi ho hd => ?_) F.size F.defers rfl (fun i V hV => by simpa using hg i V hV) (fun listed a w M hall => ?_)
  · have := List.all_eq_true.1 h4 i (List.mem_range.2 hi)
    rw [ho] at this
    simp only [hd] at this
    simpa using this
  · obtain ⟨m, _, hm1, hm2⟩ := M.last h6 (fun k hk => hT3 k (Nat.zero_le _) hk) hall
    exact ht listed a w M hall (by rw [← hm2]; exact hm1)
end Go.Proofs.Ytainnefmobfcjaa

/-! E9 -/
/-
  What Delegate and Release answer is a valid pool, and nobody loses a prefix: plain facts.
-/
namespace Go.Proofs.Ytainnefmobfcjaa
set_option linter.unusedVariables false
set_option linter.unusedSimpArgs false
open Go.RowKit

theorem overlap_symm (p : List Int) (n : Int) (q : List Int) (m : Int) : overlapP p n q m = overlapP q m p n := by unfold overlapP; exact Bool.or_comm _ _
theorem FreeAt.net {p : List Int} {n bits a : Nat} {cs : List Lease} (h : FreeAt p n cs bits a) : Net (beB (a : Int) ++ z8) bits a := net_of h.lt h.dvd
theorem overlap_self {ip : List Int} {m a : Nat} (h : Net ip m a) (hm : m ≤ 64) : overlapP ip m ip m = true := by
  rw [overlap_net h h hm hm, decide_eq_true_eq]
  have := ln_pos m
  omega
structure DelLaw (p : List Int) (n : Nat) (cs : List Lease) (own : Int) (bits : Nat) (ls2 : List Lease) (qip : List Int) : Prop where
  pool : PoolOk p n ls2
  ip : IsIP qip
  kept : ∀ l ∈ cs, ∃ m ∈ ls2, m.ip = l.ip ∧ m.bits = l.bits ∧ m.own = l.own ∧ l.til ≤ m.til
  apart : ∀ l ∈ cs, overlapP l.ip l.bits qip bits = true → l.ip = qip ∧ l.bits = bits ∧ l.own = own
theorem isTime_iff (t : Int) : isTime t = true ↔ 0 ≤ t ∧ t ≤ 1099511627776 := by unfold isTime; simp
theorem place_split (cs : List Lease) (ip : List Int) : (∀ l ∈ cs.take (place cs ip), ¬ 0 < cmpL l.ip ip) ∧ (∀ h : place cs ip < cs.length, 0 < cmpL (cs[place cs ip]).ip ip) := by
  rcases findI_cases (fun l : Lease => decide (0 < cmpL l.ip ip)) cs with ⟨hf, hno⟩ | ⟨i, hi, hf, hyes, hbefore⟩
  · have e : place cs ip = cs.length := by unfold place; rw [hf]; rfl
    rw [e]
    exact ⟨fun l hl => by simpa using hno l (List.mem_of_mem_take hl), fun h => absurd h (Nat.lt_irrefl _)⟩
  · have e : place cs ip = i := by unfold place; rw [hf]; dsimp only; rw [if_neg (by omega)]; omega
    rw [e]
    refine ⟨fun l hl => ?_, fun _ => by simpa using hyes⟩
    obtain ⟨j, hj, rfl⟩ := List.mem_iff_getElem.1 hl
    have hji : j < i := by simp at hj; omega
    rw [List.getElem_take]
    have := hbefore j hji
    simpa using this
theorem del_law {p : List Int} {n bits : Nat} {cs : List Lease} {own til : Int} {ls2 : List Lease} {qip : List Int} (hP : PoolOk p n cs) (hD : DelOk p n cs own bits til ls2 qip) (hnb : n ≤ bits) (hb : bits ≤ 64) (ho0 : 1 ≤ own) (ho1 : own ≤ 18446744073709551615) (ht : isTime til = true) : DelLaw p n cs own bits ls2 qip := by
  have hn64 : n ≤ 64 := by omega
  have hN := valid_net hP.ip hn64 hP.pre
  cases hD with
  | old i hi hm =>
    obtain ⟨h1, h2⟩ : cs[i].own = own ∧ cs[i].bits = (bits : Int) := by unfold mine at hm; simpa using hm
    have hci := hP.each _ (List.getElem_mem hi)
    generalize hx : ({ cs[i] with til := if cs[i].til < til then til else cs[i].til } : Lease) = x
    have x1 : x.ip = cs[i].ip := by rw [← hx]
    have x2 : x.bits = cs[i].bits := by rw [← hx]
    have x3 : x.own = cs[i].own := by rw [← hx]
    have x4 : cs[i].til ≤ x.til := by rw [← hx]; dsimp only; split <;> omega
    have x5 : isTime x.til = true := by rw [← hx]; dsimp only; split; exact ht; exact hci.til
    refine ⟨⟨hP.ip, hP.pre, hP.bits, by rw [List.length_set]; exact hP.len, fun l hl => ?_, ?_⟩, hci.ip, fun l hl => ?_, fun l hl hov => ?_⟩
    · rcases List.mem_or_eq_of_mem_set hl with h | rfl
      · exact hP.each l h
      · exact ⟨by rw [x1]; exact hci.ip, by rw [x3]; exact hci.own0, by rw [x3]; exact hci.own1, x5, by rw [x2]; exact hci.bits, by rw [x1, x2]; exact hci.cov⟩
    · have hmap : (cs.set i x).map (fun l => (l.ip, l.bits)) = cs.map fun l => (l.ip, l.bits) := by
        rw [List.map_set]
        apply List.ext_getElem (by simp)
        intro j h3 h4
        by_cases e : i = j
        · subst e; simp [x1, x2]
        · simp [List.getElem_set, e]
      have hpw := hP.pw
      have h5 : (cs.map fun l => (l.ip, l.bits)).Pairwise fun u v => cmpL u.1 v.1 < 0 ∧ overlapP u.1 u.2 v.1 v.2 = false := List.pairwise_map.2 hpw
      rw [← hmap] at h5
      exact List.pairwise_map.1 h5
    · obtain ⟨j, hj, rfl⟩ := List.mem_iff_getElem.1 hl
      by_cases e : i = j
      · subst e
        exact ⟨x, List.mem_set hi x, x1, x2, x3, x4⟩
      · refine ⟨cs[j], ?_, rfl, rfl, rfl, Int.le_refl _⟩
        have : (cs.set i x)[j]'(by simpa using hj) = cs[j] := by simp [List.getElem_set, e]
        rw [← this]
        exact List.getElem_mem _
    · obtain ⟨j, hj, rfl⟩ := List.mem_iff_getElem.1 hl
      by_cases e : j = i
      · subst e
        exact ⟨rfl, h2, h1⟩
      · exfalso
        rw [← h2] at hov
        rcases Nat.lt_or_ge j i with h3 | h3
        · rw [hP.apart i j hi h3] at hov; cases hov
        · rw [overlap_symm, hP.apart j i hj (by omega)] at hov; cases hov
  | new a hno hlen hf =>
    have hC := hf.net
    generalize hip : beB (a : Int) ++ z8 = ip at *
    have hpos := ln_pos bits
    have hcov : coversP p n ip bits = true := by
      rw [covers_net hN hC hn64 hb, decide_eq_true_eq]
      have := hf.lo
      have := hf.hi
      omega
    have hne : ∀ l ∈ cs, cmpL l.ip ip ≠ 0 := fun l hl h0 => by
      have h1 := cmpL_zero h0
      obtain ⟨m, hm1, _, hm3, hm4⟩ := net_lease hn64 (hP.each l hl)
      have h2 := hf.free l hl
      rw [hip, hm1, overlap_net hm4 hC hm3 hb, decide_eq_false_iff_not] at h2
      have h3 : netN l.ip = a := by rw [h1]; exact hC.net
      have := ln_pos m
      omega
    obtain ⟨hs1, hs2⟩ := place_split cs ip
    generalize place cs ip = k at *
    have hlow : ∀ l ∈ cs.take k, cmpL l.ip ip < 0 := fun l hl => by
      have h1 := hs1 l hl
      have h2 := hne l (List.mem_of_mem_take hl)
      omega
    have hhigh : ∀ l ∈ cs.drop k, cmpL ip l.ip < 0 := fun l hl => by
      obtain ⟨j, hj, rfl⟩ := List.mem_iff_getElem.1 hl
      simp only [List.length_drop] at hj
      rw [List.getElem_drop]
      have h1 := hs2 (by omega)
      have h2 : cmpL ip (cs[k]'(by omega)).ip < 0 := by rw [cmpL_anti]; omega
      rcases Nat.eq_zero_or_pos j with rfl | hj0
      · exact h2
      · exact cmpL_lt_trans h2 (List.pairwise_iff_getElem.1 hP.pw k (k + j) (by omega) (by omega) (by omega)).1
    have hfree : ∀ l ∈ cs, overlapP l.ip l.bits ip bits = false := fun l hl => by
      have := hf.free l hl
      rwa [hip] at this
    have htd : ∀ l, l ∈ cs.take k ++ cs.drop k ↔ l ∈ cs := fun l => by rw [List.take_append_drop]
    refine ⟨⟨hP.ip, hP.pre, hP.bits, by simp; omega, fun l hl => ?_, ?_⟩, hC.ip, fun l hl => ?_, fun l hl hov => ?_⟩
    · rcases List.mem_append.1 hl with h | h
      · exact hP.each l (List.mem_of_mem_take h)
      · rcases List.mem_cons.1 h with rfl | h
        · exact ⟨hC.ip, by show own ≠ 0; omega, by show 0 ≤ own ∧ own ≤ _; omega, ht, by show (bits : Int) ≤ 64; omega, hcov⟩
        · exact hP.each l (List.mem_of_mem_drop h)
    · rw [List.pairwise_append]
      have hpw := hP.pw
      rw [← List.take_append_drop k cs, List.pairwise_append] at hpw
      refine ⟨hpw.1, List.pairwise_cons.2 ⟨fun y hy => ⟨hhigh y hy, ?_⟩, hpw.2.1⟩, fun x hx y hy => ?_⟩
      · rw [overlap_symm]; exact hfree y (List.mem_of_mem_drop hy)
      · rcases List.mem_cons.1 hy with rfl | hy
        · exact ⟨hlow x hx, hfree x (List.mem_of_mem_take hx)⟩
        · exact hpw.2.2 x hx y hy
    · refine ⟨l, ?_, rfl, rfl, rfl, Int.le_refl _⟩
      rcases List.mem_append.1 ((htd l).2 hl) with h | h
      · exact List.mem_append_left _ h
      · exact List.mem_append_right _ (List.mem_cons_of_mem _ h)
    · rw [hfree l hl] at hov; cases hov
end Go.Proofs.Ytainnefmobfcjaa

/-! EA -/
/-
  The sanity check of a delegation.
-/
namespace Go.Proofs.Ytainnefmobfcjaa
set_option linter.unusedVariables false
set_option linter.unusedSimpArgs false
open Go.RowKit
attribute [local irreducible] OpTo wpListIn Code.wpIn MW Cal

def kip : List Int := [32, 1, 0, 0, 0, 0, 0, 0, 0, 0, 0, 0, 0, 0, 0, 0]
def kip2 : List Int := [32, 1, 0, 0, 0, 0, 1, 0, 0, 0, 0, 0, 0, 0, 0, 0]
theorem kip_ip : IsIP kip := ⟨rfl, by intro x hx; simp [kip] at hx; omega⟩
theorem kip_net : netN kip = 2306124484190404608 := by decide +kernel
theorem kip_form : beB ((2306124484190404608 : Nat) : Int) ++ z8 = kip := by decide +kernel
theorem kip2_form : beB ((2306124484190404864 : Nat) : Int) ++ z8 = kip2 := by decide +kernel
theorem kip_valid : validP kip ((48 : Nat) : Int) = true := by decide +kernel
theorem kpool0 : PoolOk kip (48 : Nat) [] := ⟨kip_ip, kip_valid, by decide, by simp, by simp, .nil⟩
theorem ln48 : ln 48 = 65536 := rfl
theorem ln56 : ln 56 = 256 := rfl
theorem ln64 : ln 64 = 1 := rfl
theorem known1 {ls2 : List Lease} {qip : List Int} (h : DelOk kip 48 [] 7 56 15 ls2 qip) : ls2 = [⟨kip, 56, 7, 15⟩] ∧ qip = kip := by
  cases h with
  | old i hi _ => cases hi
  | new a hno hlen hf =>
    have ha : a = 2306124484190404608 := by
      rcases Nat.lt_or_ge (netN kip) a with h | h
      · obtain ⟨l, hl, _⟩ := hf.least (netN kip) (by rw [kip_net, ln56]; decide) (Nat.le_refl _) h
        cases hl
      · have := hf.lo
        rw [kip_net] at *
        omega
    subst ha
    rw [kip_form]
    exact ⟨rfl, rfl⟩
theorem known1f : ¬ DelFull kip 48 [] 7 56 := by
  rintro ⟨_, h | h⟩
  · simp at h
  · obtain ⟨l, hl, _⟩ := h (netN kip) (by rw [kip_net, ln56]; decide) (Nat.le_refl _) (by rw [ln56, ln48]; omega)
    cases hl
def kl : Lease := ⟨kip, 56, 7, 15⟩
theorem kl_net : Net kip 56 2306124484190404608 := by
  have := net_of (n := 56) (a := 2306124484190404608) (by decide) (by rw [ln56]; decide)
  rwa [kip_form] at this
theorem kl_over {c : Nat} (hc : c < 18446744073709551616) : overlapP kip (56 : Nat) (beB (c : Int) ++ z8) (64 : Nat) = decide (2306124484190404608 ≤ c ∧ c < 2306124484190404864) := by
  rw [overlap_net kl_net (net_of (n := 64) hc (by rw [ln64]; exact Nat.one_dvd _)) (by decide) (by decide), ln56, ln64]
  by_cases h : 2306124484190404608 ≤ c ∧ c < 2306124484190404864
  · rw [decide_eq_true h, decide_eq_true_eq]; omega
  · rw [decide_eq_false h, decide_eq_false_iff_not]; omega
theorem known2 {ls2 : List Lease} {qip : List Int} (h : DelOk kip 48 [kl] 8 64 15 ls2 qip) : qip = kip2 := by
  cases h with
  | old i hi hm =>
    have : i = 0 := by simp at hi; exact hi
    subst this
    simp [mine, kl] at hm
  | new a hno hlen hf =>
    have hlo := hf.lo
    have hhi := hf.hi
    rw [kip_net] at hlo hhi
    rw [ln48, ln64] at hhi
    have h1 := hf.free kl (by simp)
    have h2 : overlapP kip (56 : Nat) (beB (a : Int) ++ z8) (64 : Nat) = false := h1
    rw [kl_over hf.lt, decide_eq_false_iff_not] at h2
    have ha : a = 2306124484190404864 := by
      rcases Nat.lt_or_ge 2306124484190404864 a with h | h
      · obtain ⟨l, hl, ho⟩ := hf.least 2306124484190404864 (by rw [ln64]; exact Nat.one_dvd _) (by rw [kip_net]; omega) h
        simp at hl
        subst hl
        have ho2 : overlapP kip (56 : Nat) (beB ((2306124484190404864 : Nat) : Int) ++ z8) (64 : Nat) = true := ho
        rw [kl_over (by omega), decide_eq_true_eq] at ho2
        omega
      · omega
    subst ha
    exact kip2_form
theorem known2f : ¬ DelFull kip 48 [kl] 8 64 := by
  rintro ⟨_, h | h⟩
  · simp at h
  · obtain ⟨l, hl, ho⟩ := h 2306124484190404864 (by rw [ln64]; exact Nat.one_dvd _) (by rw [kip_net]; omega) (by rw [kip_net, ln48, ln64]; omega)
    simp at hl
    subst hl
    have ho2 : overlapP kip (56 : Nat) (beB ((2306124484190404864 : Nat) : Int) ++ z8) (64 : Nat) = true := ho
    rw [kl_over (by omega), decide_eq_true_eq] at ho2
    omega

set_option maxHeartbeats 4000000 in
theorem known_c (W : World) : Cal Try.prog 19 [].toArray W fun x w' => x = .bool true ∧ Ext [] W w' := by
  have hlat : laterV 5 10 = 15 := by decide
  refine fn_ofM (n := 44) [] Try.func19 rfl rfl rfl ?_
  intro a w F M hwW
  with_reducible refine c_seq ?_
  with_reducible refine c_region ?_
  refine stepD rfl F rfl (o_assign (F.ev rfl) ?_); clear F; clear a; intro a F
  with_reducible refine l_nil ?_
  with_reducible refine q_then ?_
  with_reducible refine c_seq ?_
  with_reducible refine c_region ?_
  refine stepD rfl F rfl (o_build F rfl rfl ?_); clear F; clear a; intro a F
  refine stepD rfl F rfl (o_build F rfl rfl ?_); clear F; clear a; intro a F
  refine stepD rfl F rfl (o_build F rfl rfl ?_); clear F; clear a; intro a F
  (refine stepD rfl F rfl (o_alloc M ?_); clear F; clear M; intro b1 w M a F)
  (refine stepN rfl F (o_storeA M (F.ev rfl) (F.ev rfl) (by rfl) (by rfl) (by repeat (first | exact .here | apply Has.there)) (by rfl) (by repeat (first | exact .here | apply Upd.there)) ?_); clear F; clear M; intro w M a F)
  replace M : Mem [] W w [(b1, .cells (poC kip (48 : Nat) (.slice none 0 0)).toArray 34 (0, 0))] := M
  have e1 := po_all kip_ip.len (48 : Nat) (.slice none 0 0)
  with_reducible refine l_nil ?_
  with_reducible refine q_then ?_
  with_reducible refine c_seq ?_
  with_reducible refine c_region ?_
  refine stepD rfl F rfl (o_loadA M (F.ev rfl) (by repeat (first | exact .here | apply Has.there)) (by first | assumption | rfl) ?_); clear F; clear a; intro a F
  (refine stepD rfl F rfl (o_call (F.ev rfl) (F.evs rfl) (Cal.mono (delegate_c kip 48 [] kpool0 (.slice none 0 0) w (SlAt.nil _ _) 5 (by decide) 7 (by omega) (by omega) 56 (by omega) (by omega) 10 (by omega) (by omega)) ?_)); clear F; clear a; rintro _ w h a F)
  rcases h with ⟨ls2, qip, v2, ent2, rfl, hO, N, hD⟩ | ⟨_, _, hF⟩
  case inr => exact (known1f hF).elim
  rw [hlat] at hD
  have hP2 := (del_law (cs := cur [] 5) kpool0 hD (by omega) (by omega) (by omega) (by omega) (by decide)).pool
  obtain ⟨rfl, rfl⟩ := known1 hD
  replace M := M.joins N
  obtain ⟨q, cap, rfl⟩ := hO.slice
  replace M : Mem [] W w ((b1, .cells (poC kip (48 : Nat) (.slice none 0 0)).toArray 34 (0, 0)) :: ent2) := M.perm List.perm_append_comm
  have e2 := poC_len kip_ip.len (48 : Nat) (.slice q [(⟨kip, 56, 7, 15⟩ : Lease)].length cap)
  have e3 := po_all kip_ip.len (48 : Nat) (.slice q [(⟨kip, 56, 7, 15⟩ : Lease)].length cap)
  have e4 := pfC_len kip_ip.len (56 : Nat)
  have e5 := seg_pf kip_ip.len (56 : Nat)
  refine stepD rfl F rfl (o_move (F.ev rfl) ?_); clear F; clear a; intro a F
  refine stepD rfl F rfl (o_extract (F.ev rfl) rfl ?_); clear F; clear a; intro a F
  refine stepD rfl F rfl (o_extract (F.ev rfl) rfl ?_); clear F; clear a; intro a F
  refine stepD rfl F rfl (o_extract (F.ev rfl) rfl ?_); clear F; clear a; intro a F
  (refine stepD rfl F rfl (o_alloc M ?_); clear F; clear M; intro b2 w M a F)
  (refine stepN rfl F (o_storeA M (F.ev rfl) (F.ev rfl) (e2) (po_one _ _ _ _ _)  (by repeat (first | exact .here | apply Has.there))  (put_all (by rw [e2]; rfl)) (by repeat (first | exact .here | apply Upd.there)) ?_); clear F; clear M; intro w M a F)
  (refine stepN rfl F (o_storeA M (F.ev rfl) (F.ev rfl) (e4) (pf_one _ _)  (by repeat (first | exact .here | apply Has.there))  (put_all (by rw [e4]; rfl)) (by repeat (first | exact .here | apply Upd.there)) ?_); clear F; clear M; intro w M a F)
  refine stepD rfl F rfl (o_assign (F.ev rfl) ?_); clear F; clear a; intro a F
  with_reducible refine l_nil ?_
  with_reducible refine q_then ?_
  with_reducible refine c_seq ?_
  with_reducible refine c_region ?_
  refine stepD rfl F rfl (o_loadA M (F.ev rfl) (by repeat (first | exact .here | apply Has.there)) (by first | assumption | rfl) ?_); clear F; clear a; intro a F
  (refine stepD rfl F rfl (o_call (F.ev rfl) (F.evs rfl) (Cal.mono (delegate_c kip 48 [kl] hP2 (.slice q [(⟨kip, 56, 7, 15⟩ : Lease)].length cap) w (hO.slAt M (fun x hx => by simp [hx])) 5 (by decide) 8 (by omega) (by omega) 64 (by omega) (by omega) 10 (by omega) (by omega)) ?_)); clear F; clear a; rintro _ w h a F)
  have hcur : cur [kl] 5 = [kl] := rfl
  rw [hcur] at h
  rcases h with ⟨ls3, qip3, v3, ent3, rfl, hO3, N3, hD3⟩ | ⟨_, _, hF⟩
  case inr => exact (known2f hF).elim
  rw [hlat] at hD3
  obtain rfl := known2 hD3
  replace M := M.joins N3
  obtain ⟨q3, cap3, rfl⟩ := hO3.slice
  replace M := M.sub (List.sublist_append_right ent3 _)
  have k2 : kip2.length = 16 := rfl
  have g2 := poC_len kip_ip.len (48 : Nat) (.slice q3 ls3.length cap3)
  have g4 := pfC_len k2 (64 : Nat)
  have g5 := seg_pf k2 (64 : Nat)
  refine stepD rfl F rfl (o_move (F.ev rfl) ?_); clear F; clear a; intro a F
  refine stepD rfl F rfl (o_extract (F.ev rfl) rfl ?_); clear F; clear a; intro a F
  refine stepD rfl F rfl (o_extract (F.ev rfl) rfl ?_); clear F; clear a; intro a F
  refine stepD rfl F rfl (o_extract (F.ev rfl) rfl ?_); clear F; clear a; intro a F
  (refine stepD rfl F rfl (o_alloc M ?_); clear F; clear M; intro b4 w M a F)
  (refine stepD rfl F rfl (o_alloc M ?_); clear F; clear M; intro b5 w M a F)
  (refine stepN rfl F (o_storeA M (F.ev rfl) (F.ev rfl) (g2) (po_one _ _ _ _ _)  (by repeat (first | exact .here | apply Has.there))  (put_all (by rw [g2]; rfl)) (by repeat (first | exact .here | apply Upd.there)) ?_); clear F; clear M; intro w M a F)
  (refine stepN rfl F (o_storeA M (F.ev rfl) (F.ev rfl) (g4) (pf_one _ _)  (by repeat (first | exact .here | apply Has.there))  (put_all (by rw [g4]; rfl)) (by repeat (first | exact .here | apply Upd.there)) ?_); clear F; clear M; intro w M a F)
  have f1 := fits_pf kip_ip.len (56 : Nat)
  have f2 := fits_pf k2 (64 : Nat)
  have f3 : eqVs (pfC kip (56 : Nat)) (pfC kip (56 : Nat)) = true := by rw [eqVs_pf rfl]; simp
  have f4 : eqVs (pfC kip2 (64 : Nat)) (pfC kip2 (64 : Nat)) = true := by rw [eqVs_pf rfl]; simp
  refine stepD rfl F rfl (o_assign (F.ev rfl) ?_); clear F; clear a; intro a F
  with_reducible refine l_nil ?_
  with_reducible refine q_then ?_
  with_reducible refine c_seq ?_
  with_reducible refine c_region ?_
  refine stepD rfl F rfl (o_move (F.ev rfl) ?_); clear F; clear a; intro a F
  refine stepD rfl F rfl (o_eqlT (F.ev rfl) (F.ev rfl) (by omega) ?_); clear F; clear a; intro a F
  refine stepD rfl F rfl (o_move (F.ev rfl) ?_); clear F; clear a; intro a F
  refine stepG rfl F rfl rfl rfl (o_move (F.ev rfl) ?_); clear F; clear a; intro a F
  refine stepG rfl F rfl rfl rfl (o_eqlT (F.ev rfl) (F.ev rfl) (by omega) ?_); clear F; clear a; intro a F
  refine stepD rfl F rfl (o_pickT (F.ev rfl) (F.ev rfl) ?_); clear F; clear a; intro a F
  refine stepD rfl F rfl (o_move (F.ev rfl) ?_); clear F; clear a; intro a F
  refine stepG rfl F rfl rfl rfl (o_loadA M (F.ev rfl) (by repeat (first | exact .here | apply Has.there)) (by first | assumption | rfl) ?_); clear F; clear a; intro a F
  refine stepG rfl F rfl rfl rfl (o_build F rfl rfl ?_); clear F; clear a; intro a F
  refine stepG rfl F rfl rfl rfl (o_build F rfl rfl ?_); clear F; clear a; intro a F
  refine stepG rfl F rfl rfl rfl (o_eqlAT (F.ev rfl) (F.ev rfl) (by first | assumption | rfl) (by first | assumption | rfl) (by assumption) ?_); clear F; clear a; intro a F
  refine stepD rfl F rfl (o_pickT (F.ev rfl) (F.ev rfl) ?_); clear F; clear a; intro a F
  refine stepD rfl F rfl (o_move (F.ev rfl) ?_); clear F; clear a; intro a F
  refine stepG rfl F rfl rfl rfl (o_loadA M (F.ev rfl) (by repeat (first | exact .here | apply Has.there)) (by first | assumption | rfl) ?_); clear F; clear a; intro a F
  refine stepG rfl F rfl rfl rfl (o_build F rfl rfl ?_); clear F; clear a; intro a F
  refine stepG rfl F rfl rfl rfl (o_build F rfl rfl ?_); clear F; clear a; intro a F
  refine stepG rfl F rfl rfl rfl (o_eqlAT (F.ev rfl) (F.ev rfl) (by first | assumption | rfl) (by first | assumption | rfl) (by assumption) ?_); clear F; clear a; intro a F
  refine stepD rfl F rfl (o_pickT (F.ev rfl) (F.ev rfl) ?_); clear F; clear a; intro a F
  refine stepD rfl F rfl (o_move (F.ev rfl) ?_); clear F; clear a; intro a F
  refine stepG rfl F rfl rfl rfl (o_loadA M (F.ev rfl) (by repeat (first | exact .here | apply Has.there)) (by first | assumption | rfl) ?_); clear F; clear a; intro a F
  (refine stepG rfl F rfl rfl rfl (o_call (F.ev rfl) (F.evs rfl) (Cal.mono (validPool_c kip (48 : Nat) [kl] hP2 _ _ (hO.slAt M (fun x hx => by simp [hx]))) ?_)); clear F; clear a; rintro _ w ⟨rfl, hE⟩ a F; replace M := M.later hE; clear hE)
  refine stepD rfl F rfl (o_pickT (F.ev rfl) (F.ev rfl) ?_); clear F; clear a; intro a F
  refine stepD rfl F rfl (o_assign (F.ev rfl) ?_); clear F; clear a; intro a F
  with_reducible refine l_nil ?_
  with_reducible refine q_then ?_
  with_reducible refine c_ret ?_
  refine p_ret F rfl (.cons (.tmp (F.ev rfl)) .nil) ?_
  exact ⟨rfl, M.ext⟩
end Go.Proofs.Ytainnefmobfcjaa

/-! EB -/
/-
  BorderDisjoint: walked, and what it asks shown.
-/
namespace Go.Proofs.Ytainnefmobfcjaa
set_option linter.unusedVariables false
set_option linter.unusedSimpArgs false
open Go.RowKit
attribute [local irreducible] OpTo wpListIn Code.wpIn MW Cal

theorem Mem.past {S : List Nat} {W0 w w' : World} {l : List (Nat × Obj)} {b : Nat} (M : Mem S W0 w l) (E : Ext [b] w w') (hb : ∀ p ∈ l, p.1 ≠ b) (ho : b ∈ S ∨ W0.heap.size ≤ b) : Mem S W0 w' l :=
  ⟨⟨E.os.trans M.ext.os, E.tape.trans M.ext.tape, E.output.trans M.ext.output, Nat.le_trans M.ext.size E.size, fun k hk hs => by
    rw [E.block k (Nat.lt_of_lt_of_le hk M.ext.size) (by
      simp only [List.mem_singleton]
      rintro rfl
      rcases ho with h | h
      · exact hs h
      · omega)]
    exact M.ext.block k hk hs⟩, fun p hp => by rw [E.block p.1 (M.lt hp) (by simpa using hb p hp)]; exact M.at_ p hp, M.nd, M.own⟩
/-- what Delegate has answered, and what lies in memory -/
def TDel (p : List Int) (n : Nat) (cs : List Lease) (own : Int) (bb : Nat) (W : World) (n0 : Nat) (l : List (Nat × Obj)) (pre : Value → Value → List (Nat × Obj)) (v : Value) (w : World) : Prop :=
  (∃ ls2 qip v2 ent2, v = .tuple #[.agg (poC p n v2).toArray, .agg (pfC qip bb).toArray, .int .i64 0] ∧ OwnS 44 19 v2 ls2.length (lesC ls2) ent2 ∧ DelLaw p n cs own bb ls2 qip ∧ Mem [] W w (pre (.agg (poC p n v2).toArray) (.agg (pfC qip bb).toArray) ++ (ent2 ++ l)) ∧ ∀ q ∈ ent2, n0 ≤ q.1)
  ∨ (v = .tuple #[.agg (poC zeroIP 0 (.slice none 0 0)).toArray, .agg (pfC zeroIP 0).toArray, .int .i64 10] ∧ Mem [] W w (pre (.agg (poC zeroIP 0 (.slice none 0 0)).toArray) (.agg (pfC zeroIP 0).toArray) ++ l))
theorem TDel.later {p : List Int} {n : Nat} {cs : List Lease} {own : Int} {bb : Nat} {W : World} {n0 : Nat} {l : List (Nat × Obj)} {pre : Value → Value → List (Nat × Obj)} {v : Value} {w w' : World} (h : TDel p n cs own bb W n0 l pre v w) (E : Ext [] w w') : TDel p n cs own bb W n0 l pre v w' := by
  rcases h with ⟨ls2, qip, v2, ent2, h1, h2, h3, h4, h5⟩ | ⟨h1, h2⟩
  · exact .inl ⟨ls2, qip, v2, ent2, h1, h2, h3, h4.later E, h5⟩
  · exact .inr ⟨h1, h2.later E⟩
theorem own_tag {e : TypeId} {sz n : Nat} {v : Value} {xs : List Value} {ent : List (Nat × Obj)} (h : OwnS e sz v n xs ent) : ∀ q ∈ ent, ∃ cs, q.2 = .cells cs e (0, 0) := by
  rcases h with ⟨_, _, _, rfl⟩ | ⟨b, cap, junk, _, rfl, _⟩
  · simp
  · intro q hq; simp at hq; subst hq; exact ⟨_, rfl⟩
/-- the pool is stored -/
theorem st23 {p : List Int} {n : Nat} {cs : List Lease} {own : Int} {bb : Nat} {W : World} {n0 : Nat} {l : List (Nat × Obj)} {v : Value} {w : World} (hp : p.length = 16) (h : TDel p n cs own bb W n0 l (fun _ _ => []) v w) {b : Nat} {cs0 : Array Value} (hb : w.heap[b]? = some (.cells cs0 34 (0, 0))) (hn : n0 ≤ b) (hW : W.heap.size ≤ b) (hl : ∀ q ∈ l, q.1 < n0) :
    ∃ x y z, v = .tuple #[.agg (List.toArray x), y, z] ∧ x.length = 18 ∧ x.all (·.oneCell') = true ∧ ∀ w', Ext [b] w w' → w'.heap[b]? = some (.cells x.toArray 34 (0, 0)) → TDel p n cs own bb W n0 l (fun x _ => [(b, .cells x.cells 34 (0, 0))]) v w' := by
  rcases h with ⟨ls2, qip, v2, ent2, rfl, h2, h3, h4, h5⟩ | ⟨rfl, h2⟩
  · obtain ⟨q, cap, rfl⟩ := h2.slice
    refine ⟨_, _, _, rfl, poC_len hp _ _, po_one _ _ _ _ _, fun w' E hw => .inl ⟨ls2, qip, _, ent2, rfl, h2, h3, ?_, h5⟩⟩
    have hne : ∀ q ∈ ent2 ++ l, q.1 ≠ b := fun q hq e => by
      rcases List.mem_append.1 hq with h | h
      · obtain ⟨cs1, hc⟩ := own_tag h2 q h
        have h6 := (show Mem [] W w (ent2 ++ l) from h4).at_ q (List.mem_append_left _ h)
        rw [e, hb, hc] at h6
        cases h6
      · have := hl q h; omega
    exact (Mem.past (l := ent2 ++ l) h4 E hne (.inr hW)).cons hw hne (.inr hW)
  · refine ⟨_, _, _, rfl, poC_len rfl _ _, po_one _ _ _ _ _, fun w' E hw => .inr ⟨rfl, ?_⟩⟩
    have hne : ∀ q ∈ l, q.1 ≠ b := fun q hq e => by have := hl q hq; omega
    exact (Mem.past (l := l) h2 E hne (.inr hW)).cons hw hne (.inr hW)
/-- the prefix is stored -/
theorem st24 {p : List Int} {n : Nat} {cs : List Lease} {own : Int} {bb : Nat} {W : World} {n0 : Nat} {l : List (Nat × Obj)} {v : Value} {w : World} {b : Nat} (h : TDel p n cs own bb W n0 l (fun x _ => [(b, .cells x.cells 34 (0, 0))]) v w) {b' : Nat} {cs0 : Array Value} (hb : w.heap[b']? = some (.cells cs0 28 (0, 0))) (hn : n0 ≤ b') (hW : W.heap.size ≤ b') (hl : ∀ q ∈ l, q.1 < n0) :
    ∃ x y z, v = .tuple #[x, .agg (List.toArray y), z] ∧ y.length = 17 ∧ y.all (·.oneCell') = true ∧ ∀ w', Ext [b'] w w' → w'.heap[b']? = some (.cells y.toArray 28 (0, 0)) → TDel p n cs own bb W n0 l (fun x y => [(b', .cells y.cells 28 (0, 0)), (b, .cells x.cells 34 (0, 0))]) v w' := by
  rcases h with ⟨ls2, qip, v2, ent2, rfl, h2, h3, h4, h5⟩ | ⟨rfl, h2⟩
  · refine ⟨_, _, _, rfl, pfC_len h3.ip.len _, pf_one _ _, fun w' E hw => .inl ⟨ls2, qip, _, ent2, rfl, h2, h3, ?_, h5⟩⟩
    have hne : ∀ q ∈ (b, Obj.cells (Value.agg (poC p n v2).toArray).cells 34 (0, 0)) :: (ent2 ++ l), q.1 ≠ b' := fun q hq e => by
      rcases List.mem_cons.1 hq with rfl | hq
      · have h6 := h4.at_ _ List.mem_cons_self
        dsimp only at e h6
        rw [e, hb] at h6
        cases h6
      · rcases List.mem_append.1 hq with h | h
        · obtain ⟨cs1, hc⟩ := own_tag h2 q h
          have h6 := (show Mem [] W w ((b, Obj.cells (Value.agg (poC p n v2).toArray).cells 34 (0, 0)) :: (ent2 ++ l)) from h4).at_ q (List.mem_cons_of_mem _ (List.mem_append_left _ h))
          rw [e, hb, hc] at h6
          cases h6
        · have := hl q h; omega
    exact (Mem.past h4 E hne (.inr hW)).cons hw hne (.inr hW)
  · refine ⟨_, _, _, rfl, pfC_len rfl _, pf_one _ _, fun w' E hw => .inr ⟨rfl, ?_⟩⟩
    have hne : ∀ q ∈ (b, Obj.cells (Value.agg (poC zeroIP 0 (.slice none 0 0)).toArray).cells 34 (0, 0)) :: l, q.1 ≠ b' := fun q hq e => by
      rcases List.mem_cons.1 hq with rfl | hq
      · have h6 := h2.at_ _ List.mem_cons_self
        dsimp only at e h6
        rw [e, hb] at h6
        cases h6
      · have := hl q hq; omega
    exact (Mem.past h2 E hne (.inr hW)).cons hw hne (.inr hW)
theorem mem_dep {o : Oper} {j : Nat} (h : (depsOf o).contains j = true) : j ∈ depsOf o := by simpa using h
theorem rel_at {ops : Array Oper} {q : Nat} {o' : Oper} {u v : Value} (h : ∃ oq, ops[q]? = some oq ∧ relV oq.op u = some v) (e : ops[q]? = some o') : relV o'.op u = some v := by
  obtain ⟨oq, h1, h2⟩ := h
  rw [h1] at e
  cases e
  exact h2
theorem mem_take_succ {α : Type} {ls : List α} {r : Nat} (h : r < ls.length) {y : α} (hy : y ∈ ls.take (r + 1)) : y ∈ ls.take r ∨ y = ls[r] := by
  rw [List.take_add_one, List.getElem?_eq_getElem h] at hy
  rcases List.mem_append.1 hy with h1 | h1
  · exact .inl h1
  · simp at h1; exact .inr h1
def Tup3 : Pred := fun v _ => ∃ x y z, v = .tuple #[x, y, z]
theorem Tup3.stays (K : Keep) : Stays K Tup3 := fun _ _ _ h _ => h

set_option maxHeartbeats 8000000 in
theorem disjoint_c (pt : Option Addr) (cap : Nat) (xs0 : List Int) (bits0 : Int) (W : World) (hI : IntsAt W (.slice pt xs0.length cap) xs0) (hcap : xs0.length ≤ cap) :
    Cal Try.prog 3 [.slice pt xs0.length cap, .int .i64 bits0].toArray W fun v w' => v = .bool true ∧ Ext [] W w' := by
  have hmem : 0 < xs0.length → ∃ b o cs t fz, pt = some ⟨b, o, none⟩ ∧ W.heap[b]? = some (.cells cs t fz) ∧ seg cs.toList o xs0.length = some (i64C xs0) := fun hl => by
    obtain ⟨p', cap', h1, _, h3⟩ := hI.ex
    cases h1
    exact h3 hl
  refine fn_ofM (n := 172) [] Try.func3 rfl rfl rfl ?_
  intro a w F M hwW
  with_reducible refine c_seq ?_
  with_reducible refine c_region ?_
  refine stepD rfl F rfl (o_assign (F.ev rfl) ?_); clear F; clear a; intro a F
  with_reducible refine l_nil ?_
  with_reducible refine q_then ?_
  with_reducible refine c_seq ?_
  with_reducible refine c_region ?_
  refine stepD rfl F rfl (o_move (F.ev rfl) ?_); clear F; clear a; intro a F
  (refine stepD rfl F rfl (o_call (F.ev rfl) (F.evs rfl) (Cal.mono ((new_c xs0 _ (hI.later M.ext) hcap) ) ?_)); clear F; clear a; rintro _ w ⟨bt, rfl, N⟩ a F; replace M := M.joins N; clear N)
  have hbt : W.heap.size ≤ bt := (M.own _ List.mem_cons_self).resolve_left (by simp)
  have hT : TapeS W bt pt (cut400 xs0).length (cut400 xs0) := tape_new (Ext.refl [] W) hbt hI.bd hmem
  generalize hxs : cut400 xs0 = xs at *
  generalize hlen : xs.length = len at *
  clear hxs hI hmem hcap
  refine stepD rfl F rfl (o_assign (F.ev rfl) ?_); clear F; clear a; intro a F
  with_reducible refine l_nil ?_
  with_reducible refine q_then ?_
  with_reducible refine c_seq ?_
  with_reducible refine c_region ?_
  refine stepD rfl F rfl (o_move (F.ev rfl) ?_); clear F; clear a; intro a F
  (refine stepD rfl F rfl (o_call (F.ev rfl) (F.evs rfl) (Cal.mono (wip_c _ (hT.later M.ext.any) (M.heap .here) ) ?_)); clear F; clear a; have M0 := M; clear M; rintro _ w ⟨ip, k1, rfl, hip, N⟩ a F)
  replace M := M0.turn1 N .here
  clear M0
  refine stepD rfl F rfl (o_move (F.ev rfl) ?_); clear F; clear a; intro a F
  (refine stepD rfl F rfl (o_call (F.ev rfl) (F.evs rfl) (Cal.mono (mod_c bits0 17 (by omega) (by omega) _) ?_)); clear F; clear a; rintro _ w ⟨rfl, hE⟩ a F; replace M := M.later hE; clear hE)
  have hmo := modI_bd bits0 (n := 17) (by omega)
  obtain ⟨n, hn⟩ := Int.eq_ofNat_of_zero_le (show 0 ≤ 48 + modI bits0 17 by omega)
  have hn48 : 48 ≤ n := by omega
  have hn64 : n ≤ 64 := by omega
  refine stepD rfl F rfl (o_add (F.ev rfl) (F.ev rfl) (w_i64 (by omega) (by omega)) ?_); clear F; clear a; intro a F
  rw [show 48 + modI bits0 17 = (n : Int) from hn] at F
  (refine stepD rfl F rfl (o_call (F.ev rfl) (F.evs rfl) (Cal.mono (rmask_c ip hip (n : Int) _) ?_)); clear F; clear a; rintro _ w ⟨rfl, hE⟩ a F; replace M := M.later hE; clear hE)
  have hcl : clampB (n : Int) = (n : Int) := by unfold clampB; split <;> (try split) <;> omega
  rw [hcl] at F
  obtain ⟨p, hp⟩ : ∃ p, p = maskI ip (n : Int) := ⟨_, rfl⟩
  have hpi : IsIP p := by rw [hp]; exact mask_isIP hip _
  have hpv : validP p n = true := by rw [hp]; exact valid_mask hip (by omega) (by omega)
  rw [← hp] at F
  clear hp hcl
  have hP0 : PoolOk p n [] := ⟨hpi, hpv, by omega, by simp, by simp, .nil⟩
  have z1 := poC_len hpi.len n (.slice none 0 0)
  (refine stepD rfl F rfl (o_build F rfl (build_po hpi.len n) ?_); clear F; clear a; intro a F)
  (refine stepD rfl F rfl (o_alloc M ?_); clear F; clear M; intro b6 w M a F)
  (refine stepN rfl F (o_storeA M (F.ev rfl) (F.ev rfl) (z1) (po_one _ _ _ _ _)  (by repeat (first | exact .here | apply Has.there))  (put_all (by rw [z1]; rfl)) (by repeat (first | exact .here | apply Upd.there)) ?_); clear F; clear M; intro w M a F)
  with_reducible refine l_nil ?_
  with_reducible refine q_then ?_
  with_reducible refine c_seq ?_
  with_reducible refine c_region ?_
  refine stepD rfl F rfl (o_assign (F.ev rfl) ?_); clear F; clear a; intro a F
  with_reducible refine l_nil ?_
  with_reducible refine q_then ?_
  with_reducible refine c_seq ?_
  with_reducible refine c_seq ?_
  with_reducible refine c_region ?_
  refine stepD rfl F rfl (o_assign (F.ev rfl) ?_); clear F; clear a; intro a F
  with_reducible refine l_nil ?_
  with_reducible refine q_then ?_
  with_reducible refine c_block ?_
  refine c_loop (fun m a w => ∃ (i : Nat) (now : Int) (ls : List Lease) (u : Value) (ent : List (Nat × Obj)) (k : Nat), m = 24 - i ∧ i ≤ 24 ∧ (0 ≤ now ∧ now ≤ 5 * i) ∧ PoolOk p n ls ∧ OwnS 44 19 u ls.length (lesC ls) ent ∧ Frm a 172 [] [(8, .int .i64 i), (7, .int .i64 now), (5, .pointer (some ⟨bt, 0, none⟩)), (6, .pointer (some ⟨b6, 0, none⟩))] ∧ Mem [] W w ((b6, .cells (poC p n u).toArray 34 (0, 0)) :: (bt, tobj pt len cap k) :: ent)) 24 ⟨0, 0, [], _, [], _, rfl, by omega, by omega, hP0, OwnS.nil _ _, F.only [8, 7, 5, 6] rfl, M⟩ ?_
  clear F M
  rintro m a w ⟨i, now, ls, u, ent, k, hm, hi, hnow, hP, hO, F, M⟩
  by_cases hlt : i < 24
  · obtain ⟨uq, ucap, rfl⟩ := hO.slice
    have s1 := po_all hpi.len n (.slice uq ls.length ucap)
    have s2 := po_bits hpi.len n (.slice uq ls.length ucap)
    have s3 := po_sl hpi.len n (.slice uq ls.length ucap)
    have hlen64 := hP.len
    have htime : isTime now = true := (isTime_iff now).2 (by omega)
    with_reducible refine c_seq ?_
    with_reducible refine c_seq ?_
    with_reducible refine c_region ?_
    refine stepD rfl F rfl (o_move (F.ev rfl) ?_); clear F; clear a; intro a F
    refine stepD rfl F rfl (o_lssT (F.ev rfl) (F.ev rfl) (by omega) ?_); clear F; clear a; intro a F
    with_reducible refine l_nil ?_
    with_reducible refine q_then ?_
    refine c_true F rfl rfl ?_
    with_reducible refine c_skip ?_
    with_reducible refine q_then ?_
    with_reducible refine c_seq ?_
    with_reducible refine c_block ?_
    with_reducible refine c_seq ?_
    with_reducible refine c_region ?_
    refine stepD rfl F rfl (o_move (F.ev rfl) ?_); clear F; clear a; intro a F
    (refine stepD rfl F rfl (o_call (F.ev rfl) (F.evs rfl) (Cal.mono (eui_c _ (hT.later M.ext.any) (M.heap (.there .here)) ) ?_)); clear F; clear a; have M0 := M; clear M; rintro _ w ⟨own, k2, rfl, hown, N⟩ a F)
    replace M := M0.turn1 N (.there .here)
    clear M0
    refine stepD rfl F rfl (o_assign (F.ev rfl) ?_); clear F; clear a; intro a F
    with_reducible refine l_nil ?_
    with_reducible refine q_then ?_
    with_reducible refine c_seq ?_
    replace M : Mem [] W w ([(bt, tobj pt len cap k2)] ++ ((b6, .cells (poC p n (.slice uq ls.length ucap)).toArray 34 (0, 0)) :: ent)) := M.perm (List.Perm.swap _ _ _)
    have v1 := nxV_bd xs k2 (n := 65 - (n : Int)) (by omega)
    have v2 := nxV_bd xs (nxK xs k2) (n := 30) (by omega)
    obtain ⟨bb, hbb⟩ := Int.eq_ofNat_of_zero_le (show 0 ≤ (n : Int) + nxV xs k2 (65 - (n : Int)) by omega)
    replace F := F.only [5, 6, 7, 8, 9] rfl
    have hblt : ∀ j ∈ [bt], j < w.heap.size := fun j hj => by simp at hj; subst hj; exact M.lt List.mem_cons_self
    refine c_drawX (keepSh w.heap.size [bt]) [11, 14, 16, 23, 24] [21, 22] [(17, 16), (18, 17), (19, 17), (20, 17)] (fun _ w' => Mem [] W w' ([(bt, tobj pt len cap k2)] ++ ((b6, .cells (poC p n (.slice uq ls.length ucap)).toArray 34 (0, 0)) :: ent))) 25 F (by kernel_rfl) (fun _ _ _ h k => Mem.later h k) (fun _ _ _ _ _ h => h) (fun _ d => M.later (Ext.drawn w d)) ?_
    intro w1 hE hsz hok
    have M1 := M.later hE
    have hB : ∀ k ∈ [bt], k ∈ ([(bt, tobj pt len cap k2)] : List (Nat × Obj)).map (·.1) := by simp
    have hM : ∀ w', Sh w.heap.size [bt] w1 w' → Mem [] W w' ((b6, .cells (poC p n (.slice uq ls.length ucap)).toArray 34 (0, 0)) :: ent) := fun w' h => M1.laterBut (Sh.ext (by rw [hsz]; exact h)) hB
    refine mK hok rfl rfl (fun a' w' F' E' => o_loadA (hM _ E') (F'.ev rfl) (by repeat (first | exact .here | apply Has.there)) (by first | assumption | rfl) ⟨Ext.refl _ _, rfl⟩) ?_
    refine mK hok rfl rfl (fun a' w' F' E' => o_move (F'.ev rfl) ⟨Ext.refl _ _, rfl⟩) ?_
    refine mK hok rfl rfl (fun a' w' F' E' => o_move (F'.ev rfl) ⟨Ext.refl _ _, rfl⟩) ?_
    refine mK hok rfl rfl (fun a' w' F' E' => o_fieldAddr (F'.ev rfl) ⟨Ext.refl _ _, rfl⟩) ?_
    refine mK hok rfl rfl (fun a' w' F' E' => o_fieldAddr (F'.ev rfl) ⟨Ext.refl _ _, rfl⟩) ?_
    refine mK hok rfl rfl (fun a' w' F' E' => o_load1 (hM _ E') (F'.ev rfl) (by repeat (first | exact .here | apply Has.there)) (by first | assumption | rfl) ⟨Ext.refl _ _, rfl⟩) ?_
    refine mK hok rfl rfl (fun a' w' F' E' => o_move (F'.ev rfl) ⟨Ext.refl _ _, rfl⟩) ?_
    refine mK hok rfl rfl (fun a' w' F' E' => o_fieldAddr (F'.ev rfl) ⟨Ext.refl _ _, rfl⟩) ?_
    refine mK hok rfl rfl (fun a' w' F' E' => o_fieldAddr (F'.ev rfl) ⟨Ext.refl _ _, rfl⟩) ?_
    refine mK hok rfl rfl (fun a' w' F' E' => o_load1 (hM _ E') (F'.ev rfl) (by repeat (first | exact .here | apply Has.there)) (by first | assumption | rfl) ⟨Ext.refl _ _, rfl⟩) ?_
    refine mK hok rfl rfl (fun a' w' F' E' => o_sub (F'.ev rfl) (F'.ev rfl) (w_i64 (by omega) (by omega)) ⟨Ext.refl _ _, rfl⟩) ?_
    refine xE (v := .int .i64 (nxV xs k2 (65 - (n : Int)))) (T' := fun _ w => Mem [] W w ([(bt, tobj pt len cap (nxK xs k2))] ++ ((b6, .cells (poC p n (.slice uq ls.length ucap)).toArray 34 (0, 0)) :: ent))) hok rfl rfl (fun _ _ _ h k => Mem.later h k) (fun _ _ _ _ _ _ h => h) (fun a' w' σ' F' E' T' => o_call (F'.ev rfl) (F'.evs rfl) (Cal.mono (next_c (65 - (n : Int)) (by omega) (by omega) w' (hT.later T'.ext.any) (T'.heap .here)) fun _ _ hh => ⟨Sh.of_extB hh.2.ext hblt, hh.1, Mem.turn1 T' hh.2 .here⟩)) ?_
    refine mK hok rfl rfl (fun a' w' F' E' => o_add (F'.ev rfl) (F'.ev rfl) (w_i64 (by omega) (by omega)) ⟨Ext.refl _ _, rfl⟩) ?_
    refine mK hok rfl rfl (fun a' w' F' E' => o_move (F'.ev rfl) ⟨Ext.refl _ _, rfl⟩) ?_
    refine xE (v := .int .i64 (nxV xs (nxK xs k2) 30)) (T' := fun _ w => Mem [] W w ([(bt, tobj pt len cap (nxK xs (nxK xs k2)))] ++ ((b6, .cells (poC p n (.slice uq ls.length ucap)).toArray 34 (0, 0)) :: ent))) hok rfl rfl (fun _ _ _ h k => Mem.later h k) (fun _ _ _ _ _ _ h => h) (fun a' w' σ' F' E' T' => o_call (F'.ev rfl) (F'.evs rfl) (Cal.mono (next_c 30 (by omega) (by omega) w' (hT.later T'.ext.any) (T'.heap .here)) fun _ _ hh => ⟨Sh.of_extB hh.2.ext hblt, hh.1, Mem.turn1 T' hh.2 .here⟩)) ?_
    refine mK hok rfl rfl (fun a' w' F' E' => o_add (F'.ev rfl) (F'.ev rfl) (w_i64 (by omega) (by omega)) ⟨Ext.refl _ _, rfl⟩) ?_
    obtain ⟨lo, hlo⟩ : ∃ lo : List (Nat × Obj), lo = ([(bt, tobj pt len cap (nxK xs (nxK xs k2)))] ++ ((b6, .cells (poC p n (.slice uq ls.length ucap)).toArray 34 (0, 0)) :: ent)) := ⟨_, rfl⟩
    have hlow : ∀ q ∈ lo, q.1 < w.heap.size := fun q hq => by
      rw [hlo] at hq
      rcases List.mem_cons.1 hq with rfl | hq
      · exact hblt bt (by simp)
      · rw [← hsz]; exact M1.lt (List.mem_cons_of_mem _ hq)
    have hWs : W.heap.size ≤ w.heap.size := M.ext.size
    have hsub : ∀ q ∈ ent, q ∈ lo := fun q hq => by rw [hlo]; simp [hq]
    have hdel : ∀ w', w.heap.size ≤ w'.heap.size → Mem [] W w' lo → Cal Try.prog 13 [.agg (poC p n (.slice uq ls.length ucap)).toArray, .int .i64 now, .int .u64 own, .int .i64 ((n : Int) + nxV xs k2 (65 - (n : Int))), .int .i64 (1 + nxV xs (nxK xs k2) 30)].toArray w' fun x w'' => Ext [] w' w'' ∧ Tup3 x w'' ∧ TDel p n (cur ls now) own bb W w.heap.size lo (fun _ _ => []) x w'' := by
      intro w' hs' T'
      rw [hbb]
      refine Cal.mono (delegate_c p n ls hP _ w' (hO.slAt T' hsub) now htime own (by omega) (by omega) bb (by omega) (by omega) (1 + nxV xs (nxK xs k2) 30) (by omega) (by omega)) fun x w'' h => ?_
      rcases h with ⟨ls2, qip, v2, ent2, rfl, h2, N, hD⟩ | ⟨rfl, hE2, _⟩
      · refine ⟨N.ext, ⟨_, _, _, rfl⟩, .inl ⟨ls2, qip, v2, ent2, rfl, h2, del_law (hP.filter _) hD (by omega) (by omega) (by omega) (by omega) ?_, T'.joins N, fun q hq => ?_⟩⟩
        · rw [isTime_iff]; unfold laterV; split <;> omega
        · exact Nat.le_trans hs' ((N.own q hq).resolve_left (by simp))
      · exact ⟨hE2, ⟨_, _, _, rfl⟩, .inr ⟨rfl, T'.later hE2⟩⟩
    rw [← hlo]
    refine xEX (V := Tup3) (T' := fun σ w' => TDel p n (cur ls now) own bb W w.heap.size lo (fun _ _ => []) (σ 16) w') hok rfl rfl (Tup3.stays _) (fun _ _ _ h k => TDel.later h k) (fun x hx hk σ v w' h => by
      have : (updS σ x v) 16 = σ 16 := if_neg (by omega)
      show TDel _ _ _ _ _ _ _ _ _ ((updS σ x v) 16) _
      rw [this]; exact h) (fun a' w' σ' F' E' T' => o_call (F'.ev rfl) (F'.evs rfl) (Cal.mono (hdel w' (Nat.le_trans (Nat.le_of_eq hsz.symm) (Sh.size E')) T') fun x w'' hh => ⟨Sh.of_ext hh.1, hh.2.1, by
        have : (updS σ' 16 x) 16 = x := if_pos rfl
        show TDel _ _ _ _ _ _ _ _ _ ((updS σ' 16 x) 16) _
        rw [this]; exact hh.2.2⟩)) ?_
    simp only [List.nil_append, List.cons_append]
    refine xRel 16 (U := Tup3) (V := Tup3) hok rfl rfl (Tup3.stays _) (fun w => Ext.refl _ _) rfl (fun u w' _ h => ⟨u, rfl, h⟩) ?_
    refine xRel 17 (U := Tup3) (V := Any) hok rfl rfl (fun _ _ _ _ _ => trivial) (fun w => Ext.refl _ _) rfl (fun u w' _ ⟨x, y, z, e⟩ => ⟨x, by rw [e]; rfl, trivial⟩) ?_
    refine xRel 17 (U := Tup3) (V := Any) hok rfl rfl (fun _ _ _ _ _ => trivial) (fun w => Ext.refl _ _) rfl (fun u w' _ ⟨x, y, z, e⟩ => ⟨y, by rw [e]; rfl, trivial⟩) ?_
    refine xRel 17 (U := Tup3) (V := Any) hok rfl rfl (fun _ _ _ _ _ => trivial) (fun w => Ext.refl _ _) rfl (fun u w' _ ⟨x, y, z, e⟩ => ⟨z, by rw [e]; rfl, trivial⟩) ?_
    refine xAl hok rfl rfl (by dsimp only; rw [hsz]; exact AlS.stays _ _ _ _) (fun w => Ext.alloc w _) (fun a' w' F' E' => run_al) ?_
    refine xAl hok rfl rfl (by dsimp only; rw [hsz]; exact AlS.stays _ _ _ _) (fun w => Ext.alloc w _) (fun a' w' F' E' => run_al) ?_
    refine xEN (T' := fun σ w' => ∃ b, σ 21 = ptrTo b ∧ w.heap.size ≤ b ∧ TDel p n (cur ls now) own bb W w.heap.size lo (fun x _ => [(b, .cells x.cells 34 (0, 0))]) (σ 16) w') hok rfl (fun σ w1 w2 ⟨b, h1, h2, h3⟩ k => ⟨b, h1, h2, h3.later k⟩) (fun x hx hk => by simp at hx; omega) (fun a' w' σ' F' E' D' S' R' T' => by
      obtain ⟨b, cs0, hb1, hb2, hb3, hb4⟩ := D' 21 (mem_dep rfl) _ rfl
      dsimp only at hb2
      rw [hsz] at hb2
      have e16 := S' 16 (.inl (.tail _ (.tail _ (.head _)))) (mem_dep rfl)
      have e21 := S' 21 (.inr (.head _)) (mem_dep rfl)
      obtain ⟨x, y, z, hv, hx1, hx2, hfin⟩ := st23 hpi.len T' hb3 hb2 (Nat.le_trans hWs hb2) hlow
      have r17 := rel_at (R' (17, 16) (.head _) (mem_dep rfl) (mem_dep rfl)) rfl
      have r18 := rel_at (R' (18, 17) (.tail _ (.head _)) (mem_dep rfl) (mem_dep rfl)) rfl
      rw [← e16, hv] at r17
      have r17' := Option.some.inj r17
      rw [← r17'] at r18
      have r18' := Option.some.inj r18
      refine (o_storeP (cs := cs0.toList) (cs' := x) hb1 r18'.symm hx1 hx2 (by simpa using hb3) (put_all (by simp [hb4, hx1]))).mono fun _ w'' ⟨q1, q2⟩ => ⟨Sh.of_new q1 hb2 hb3 q2 (by simp [hb4, hx1]), b, ?_, hb2, ?_⟩
      · show (updS σ' 23 undef) 21 = _
        exact (show (updS σ' 23 undef) 21 = σ' 21 from if_neg (by omega)).trans (e21.trans hb1)
      · have : (updS σ' 23 undef) 16 = σ' 16 := if_neg (by omega)
        show TDel _ _ _ _ _ _ _ _ _ ((updS σ' 23 undef) 16) _
        rw [this]
        exact hfin w'' q1 q2) ?_
    refine xEN (T' := fun σ w' => ∃ b b', σ 21 = ptrTo b ∧ σ 22 = ptrTo b' ∧ TDel p n (cur ls now) own bb W w.heap.size lo (fun x y => [(b', .cells y.cells 28 (0, 0)), (b, .cells x.cells 34 (0, 0))]) (σ 16) w') hok rfl (fun σ w1 w2 ⟨b, b', h1, h2, h3⟩ k => ⟨b, b', h1, h2, h3.later k⟩) (fun x hx hk => by simp at hx; omega) (fun a' w' σ' F' E' D' S' R' T' => by
      obtain ⟨b, cs0, hb1, hb2, hb3, hb4⟩ := D' 22 (mem_dep rfl) _ rfl
      dsimp only at hb2
      rw [hsz] at hb2
      have e16 := S' 16 (.inl (.tail _ (.tail _ (.head _)))) (mem_dep rfl)
      have e22 := S' 22 (.inr (.tail _ (.head _))) (mem_dep rfl)
      obtain ⟨b10, t21, _, T'⟩ := T'
      obtain ⟨x, y, z, hv, hx1, hx2, hfin⟩ := st24 T' hb3 hb2 (Nat.le_trans hWs hb2) hlow
      have r17 := rel_at (R' (17, 16) (.head _) (mem_dep rfl) (mem_dep rfl)) rfl
      have r19 := rel_at (R' (19, 17) (.tail _ (.tail _ (.head _))) (mem_dep rfl) (mem_dep rfl)) rfl
      rw [← e16, hv] at r17
      have r17' := Option.some.inj r17
      rw [← r17'] at r19
      have r19' := Option.some.inj r19
      refine (o_storeP (cs := cs0.toList) (cs' := y) hb1 r19'.symm hx1 hx2 (by simpa using hb3) (put_all (by simp [hb4, hx1]))).mono fun _ w'' ⟨q1, q2⟩ => ⟨Sh.of_new q1 hb2 hb3 q2 (by simp [hb4, hx1]), b10, b, ?_, ?_, ?_⟩
      · exact (show (updS σ' 24 undef) 21 = σ' 21 from if_neg (by omega)).trans t21
      · exact (show (updS σ' 24 undef) 22 = σ' 22 from if_neg (by omega)).trans (e22.trans hb1)
      · have : (updS σ' 24 undef) 16 = σ' 16 := if_neg (by omega)
        show TDel _ _ _ _ _ _ _ _ _ ((updS σ' 24 undef) 16) _
        rw [this]
        exact hfin w'' q1 q2) ?_
    refine xDone rfl ?_
    clear F M
    intro a w' F hE2 hX hTT hDD hRel
    obtain ⟨b10, b11, t21, t22, TD⟩ := hTT
    have k10 : a.tmps.getD 10 undef = ptrTo b10 := t21
    have k11 : a.tmps.getD 11 undef = ptrTo b11 := t22
    have r17 := rel_at (hRel (17, 16) (.head _)) rfl
    have r20 := rel_at (hRel (20, 17) (.tail _ (.tail _ (.tail _ (.head _))))) rfl
    have k34 : a.tmps.getD 51 undef = a.tmps.getD 34 undef := Option.some.inj r17
    have k54 : relV (.extract (.tmp 34) 2) (a.tmps.getD 34 undef) = some (a.tmps.getD 54 undef) := r20
    rw [← k34] at k54
    replace F := (F.know k10).know k11
    dsimp only [ptrTo] at F
    clear k10 k11 t21 t22 hX hDD hRel hdel hM hB hE2 hE hok r17 r20 k34
    rw [hlo] at TD
    generalize nxK xs (nxK xs k2) = k3 at *
    clear hlo hlow hsub
    rcases TD with ⟨ls2, qip, v2, ent2, hv, hO2, hL, M, hn0⟩ | ⟨hv, M⟩
    rotate_left
    -- nothing is free
    have k51 : a.tmps.getD 51 undef = .tuple #[.agg (poC zeroIP 0 (.slice none 0 0)).toArray, .agg (pfC zeroIP 0).toArray, .int .i64 10] := hv
    rw [k51] at k54
    replace F := F.know (Option.some.inj k54).symm
    replace M : Mem [] W w' ((b11, .cells (pfC zeroIP 0).toArray 28 (0, 0)) :: (b10, .cells (poC zeroIP 0 (.slice none 0 0)).toArray 34 (0, 0)) :: (b6, .cells (poC p n (.slice uq ls.length ucap)).toArray 34 (0, 0)) :: (bt, tobj pt len cap k3) :: ent) := M.perm (((List.Perm.swap _ _ _).cons _).cons _)
    clear hv k51 k54
    refine stepD rfl F rfl (o_assign (F.ev rfl) ?_); clear F; clear a; intro a F
    with_reducible refine l_nil ?_
    with_reducible refine q_then ?_
    with_reducible refine c_seq ?_
    with_reducible refine c_seq ?_
    with_reducible refine c_region ?_
    refine stepD rfl F rfl (o_move (F.ev rfl) ?_); clear F; clear a; intro a F
    refine stepD rfl F rfl (o_neqT (F.ev rfl) (F.ev rfl) (by omega) ?_); clear F; clear a; intro a F
    refine stepD rfl F rfl (o_move (F.ev rfl) ?_); clear F; clear a; intro a F
    refine stepG rfl F rfl rfl rfl (o_move (F.ev rfl) ?_); clear F; clear a; intro a F
    refine stepG rfl F rfl rfl rfl (o_neqF (F.ev rfl) (F.ev rfl) (by omega) ?_); clear F; clear a; intro a F
    refine stepD rfl F rfl (o_pickT (F.ev rfl) (F.ev rfl) ?_); clear F; clear a; intro a F
    refine stepD rfl F rfl (o_move (F.ev rfl) ?_); clear F; clear a; intro a F
    refine stepG rfl F rfl rfl rfl (o_move (F.ev rfl) ?_); clear F; clear a; intro a F
    refine stepG rfl F rfl rfl rfl (o_eqlF (F.ev rfl) (F.ev rfl) (by omega) ?_); clear F; clear a; intro a F
    refine stepG rfl F rfl rfl rfl (o_move (F.ev rfl) ?_); clear F; clear a; intro a F
    refine stepOff F rfl rfl rfl rfl ?_; clear F; clear a; intro a F
    refine stepOff F rfl rfl rfl rfl ?_; clear F; clear a; intro a F
    refine stepOff F rfl rfl rfl rfl ?_; clear F; clear a; intro a F
    refine stepG rfl F rfl rfl rfl (o_pickF (F.ev rfl) (F.ev rfl) ?_); clear F; clear a; intro a F
    refine stepD rfl F rfl (o_pickF (F.ev rfl) (F.ev rfl) ?_); clear F; clear a; intro a F
    with_reducible refine l_nil ?_
    with_reducible refine q_then ?_
    refine c_false F rfl rfl ?_
    with_reducible refine c_skip ?_
    with_reducible refine q_then ?_
    with_reducible refine c_seq ?_
    with_reducible refine c_seq ?_
    with_reducible refine c_region ?_
    refine stepD rfl F rfl (o_fieldAddr (F.ev rfl) ?_); clear F; clear a; intro a F
    refine stepD rfl F rfl (o_load1 M (F.ev rfl) (by repeat (first | exact .here | apply Has.there)) (by first | assumption | rfl) ?_); clear F; clear a; intro a F
    refine stepD rfl F rfl (o_lenSl (F.ev rfl) ?_); clear F; clear a; intro a F
    refine stepD rfl F rfl (o_move (F.ev rfl) ?_); clear F; clear a; intro a F
    with_reducible refine l_nil ?_
    with_reducible refine q_then ?_
    with_reducible refine c_block ?_
    refine c_loop (fun m a w => ∃ j : Nat, m = ls.length - j ∧ j ≤ ls.length ∧ Frm a 172 [] [(73, .int .i64 (j : Int)), (72, .int .i64 ls.length), (71, .slice uq ls.length ucap), (5, .pointer (some ⟨bt, 0, none⟩)), (6, .pointer (some ⟨b6, 0, none⟩)), (7, .int .i64 now), (8, .int .i64 i), (9, .int .u64 own), (10, .pointer (some ⟨b10, 0, none⟩)), (11, .pointer (some ⟨b11, 0, none⟩)), (12, .int .i64 10)] ∧ Mem [] W w ((b11, .cells (pfC zeroIP 0).toArray 28 (0, 0)) :: (b10, .cells (poC zeroIP 0 (.slice none 0 0)).toArray 34 (0, 0)) :: (b6, .cells (poC p n (.slice uq ls.length ucap)).toArray 34 (0, 0)) :: (bt, tobj pt len cap k3) :: ent)) ls.length ⟨0, rfl, by omega, F.only [73, 72, 71, 5, 6, 7, 8, 9, 10, 11, 12] rfl, M⟩ ?_
    clear F M
    rintro m' a w ⟨j, hm', hj, F, M⟩
    by_cases hjl : j < ls.length
    · obtain ⟨q0, cap0, hv0, _, _, _, hm0⟩ := hO.slAt M (fun x hx => by simp [hx])
      cases hv0
      obtain ⟨b, o, cs, t, fz, rfl, hb, hs⟩ := hm0 (by omega)
      have hli := (hP.each _ (List.getElem_mem hjl)).ip
      have e1 : seg cs (o + (j : Int).toNat * 19) 19 = some (leC ls[j]) := seg_el (les_len hP.le) hs hjl (by omega)
      have e2 := leC_len hli.len
      with_reducible refine c_seq ?_
      with_reducible refine c_region ?_
      refine stepD rfl F rfl (o_lssT (F.ev rfl) (F.ev rfl) (by omega) ?_); clear F; clear a; intro a F
      with_reducible refine l_nil ?_
      with_reducible refine q_then ?_
      with_reducible refine c_seq ?_
      refine c_true F rfl rfl ?_
      with_reducible refine c_skip ?_
      with_reducible refine q_then ?_
      with_reducible refine c_seq ?_
      with_reducible refine c_block ?_
      with_reducible refine c_seq ?_
      with_reducible refine c_region ?_
      refine stepD rfl F rfl (o_indexSl (F.ev rfl) (F.ev rfl) (by omega) (by omega) ?_); clear F; clear a; intro a F
      (refine stepD rfl F rfl (o_loadHA (F.ev rfl) hb e1 ?_); clear F; clear a; intro a F)
      (refine stepD rfl F rfl (o_alloc M ?_); clear F; clear M; intro b14 w M a F)
      (refine stepN rfl F (o_storeA M (F.ev rfl) (F.ev rfl) (e2) (le_one _)  (by repeat (first | exact .here | apply Has.there))  (put_all (by rw [e2]; rfl)) (by repeat (first | exact .here | apply Upd.there)) ?_); clear F; clear M; intro w M a F)
      with_reducible refine l_nil ?_
      with_reducible refine q_then ?_
      with_reducible refine c_seq ?_
      with_reducible refine c_seq ?_
      with_reducible refine c_region ?_
      refine stepD rfl F rfl (o_move (F.ev rfl) ?_); clear F; clear a; intro a F
      refine stepD rfl F rfl (o_neqT (F.ev rfl) (F.ev rfl) (by omega) ?_); clear F; clear a; intro a F
      refine stepD rfl F rfl (o_move (F.ev rfl) ?_); clear F; clear a; intro a F
      refine stepOff F rfl rfl rfl rfl ?_; clear F; clear a; intro a F
      refine stepOff F rfl rfl rfl rfl ?_; clear F; clear a; intro a F
      refine stepOff F rfl rfl rfl rfl ?_; clear F; clear a; intro a F
      refine stepOff F rfl rfl rfl rfl ?_; clear F; clear a; intro a F
      refine stepD rfl F rfl (o_pickT (F.ev rfl) (F.ev rfl) ?_); clear F; clear a; intro a F
      with_reducible refine l_nil ?_
      with_reducible refine q_then ?_
      refine c_true F rfl rfl ?_
      with_reducible refine c_exit ?_
      with_reducible refine q_thenX ?_
      with_reducible refine q_inBX ?_
      with_reducible refine q_then ?_
      with_reducible refine c_region ?_
      refine stepD rfl F rfl (o_add (F.ev rfl) (F.ev rfl) (w_i64 (by omega) (by omega)) ?_); clear F; clear a; intro a F
      refine stepD rfl F rfl (o_move (F.ev rfl) ?_); clear F; clear a; intro a F
      with_reducible refine l_nil ?_
      with_reducible refine q_then ?_
      exact ⟨_, by omega, j + 1, rfl, by omega, F.only [73, 72, 71, 5, 6, 7, 8, 9, 10, 11, 12] rfl, M.sub (.cons _ (.refl _))⟩
    obtain rfl : j = ls.length := by omega
    with_reducible refine c_seq ?_
    with_reducible refine c_region ?_
    refine stepD rfl F rfl (o_lssF (F.ev rfl) (F.ev rfl) (by omega) ?_); clear F; clear a; intro a F
    with_reducible refine l_nil ?_
    with_reducible refine q_then ?_
    with_reducible refine c_seq ?_
    refine c_false F rfl rfl ?_
    with_reducible refine c_exit ?_
    with_reducible refine q_thenX ?_
    with_reducible refine q_thenX ?_
    with_reducible refine q_inBX ?_
    with_reducible refine q_then ?_
    with_reducible refine c_seq ?_
    with_reducible refine c_seq ?_
    with_reducible refine c_region ?_
    refine stepD rfl F rfl (o_move (F.ev rfl) ?_); clear F; clear a; intro a F
    refine stepD rfl F rfl (o_eqlF (F.ev rfl) (F.ev rfl) (by omega) ?_); clear F; clear a; intro a F
    with_reducible refine l_nil ?_
    with_reducible refine q_then ?_
    refine c_false F rfl rfl ?_
    with_reducible refine c_skip ?_
    with_reducible refine q_then ?_
    with_reducible refine c_seq ?_
    with_reducible refine c_seq ?_
    with_reducible refine c_region ?_
    refine stepD rfl F rfl (o_fieldAddr (F.ev rfl) ?_); clear F; clear a; intro a F
    refine stepD rfl F rfl (o_load1 M (F.ev rfl) (by repeat (first | exact .here | apply Has.there)) (by first | assumption | rfl) ?_); clear F; clear a; intro a F
    refine stepD rfl F rfl (o_lenSl (F.ev rfl) ?_); clear F; clear a; intro a F
    refine stepD rfl F rfl (o_gtr (F.ev rfl) (F.ev rfl) ?_); clear F; clear a; intro a F
    refine stepD rfl F rfl (o_move (F.ev rfl) ?_); clear F; clear a; intro a F
    obtain ⟨ls', uq', ucap', ent', k', hP', hO', F9, M9⟩ : ∃ (ls' : List Lease) (uq' : Option Addr) (ucap' : Nat) (ent' : List (Nat × Obj)) (k' : Nat), PoolOk p n ls' ∧ OwnS 44 19 (.slice uq' ls'.length ucap') ls'.length (lesC ls') ent' ∧ Frm a 172 [] [(143, .bool (decide ((0 : Int) < ls'.length))), (5, .pointer (some ⟨bt, 0, none⟩)), (6, .pointer (some ⟨b6, 0, none⟩)), (7, .int .i64 now), (8, .int .i64 i)] ∧ Mem [] W w ((b6, .cells (poC p n (.slice uq' ls'.length ucap')).toArray 34 (0, 0)) :: (bt, tobj pt len cap k') :: ent') := ⟨ls, uq, ucap, ent, k3, hP, hO, F.only [143, 5, 6, 7, 8] rfl, M.sub (.cons _ (.cons _ (.refl _)))⟩
    clear hjl hj hm' F M
    have F := F9
    have M := M9
    clear F9 M9
    rotate_left
    -- a prefix
    obtain ⟨q2, cap2, rfl⟩ := hO2.slice
    have k51 : a.tmps.getD 51 undef = .tuple #[.agg (poC p n (.slice q2 ls2.length cap2)).toArray, .agg (pfC qip bb).toArray, .int .i64 0] := hv
    rw [k51] at k54
    replace F := F.know (Option.some.inj k54).symm
    replace M : Mem [] W w' ((b11, .cells (pfC qip bb).toArray 28 (0, 0)) :: (b10, .cells (poC p n (.slice q2 ls2.length cap2)).toArray 34 (0, 0)) :: (b6, .cells (poC p n (.slice uq ls.length ucap)).toArray 34 (0, 0)) :: (bt, tobj pt len cap k3) :: (ent2 ++ ent)) := M.perm (((perm2 _ _ _ _).cons _).cons _)
    clear hv k51 k54 hn0
    have hlen65 := hL.pool.len
    have g1 := po_all hpi.len n (.slice q2 ls2.length cap2)
    have g2 := po_sl hpi.len n (.slice q2 ls2.length cap2)
    have g3 := poC_len hpi.len n (.slice q2 ls2.length cap2)
    have g4 := seg_pf hL.ip.len bb
    have g5 := fits_pf hL.ip.len bb
    refine stepD rfl F rfl (o_assign (F.ev rfl) ?_); clear F; clear a; intro a F
    with_reducible refine l_nil ?_
    with_reducible refine q_then ?_
    with_reducible refine c_seq ?_
    with_reducible refine c_seq ?_
    with_reducible refine c_region ?_
    refine stepD rfl F rfl (o_move (F.ev rfl) ?_); clear F; clear a; intro a F
    refine stepD rfl F rfl (o_neqF (F.ev rfl) (F.ev rfl) (by omega) ?_); clear F; clear a; intro a F
    refine stepD rfl F rfl (o_move (F.ev rfl) ?_); clear F; clear a; intro a F
    refine stepOff F rfl rfl rfl rfl ?_; clear F; clear a; intro a F
    refine stepOff F rfl rfl rfl rfl ?_; clear F; clear a; intro a F
    refine stepD rfl F rfl (o_pickF (F.ev rfl) (F.ev rfl) ?_); clear F; clear a; intro a F
    refine stepD rfl F rfl (o_move (F.ev rfl) ?_); clear F; clear a; intro a F
    refine stepG rfl F rfl rfl rfl (o_move (F.ev rfl) ?_); clear F; clear a; intro a F
    refine stepG rfl F rfl rfl rfl (o_eqlT (F.ev rfl) (F.ev rfl) (by omega) ?_); clear F; clear a; intro a F
    refine stepG rfl F rfl rfl rfl (o_move (F.ev rfl) ?_); clear F; clear a; intro a F
    refine stepG rfl F rfl rfl rfl (o_loadA M (F.ev rfl) (by repeat (first | exact .here | apply Has.there)) (by first | assumption | rfl) ?_); clear F; clear a; intro a F
    (refine stepG rfl F rfl rfl rfl (o_call (F.ev rfl) (F.evs rfl) (Cal.mono (validPool_c p n ls2 hL.pool _ _ (hO2.slAt M (fun x hx => by simp [hx]))) ?_)); clear F; clear a; rintro _ w ⟨rfl, hE⟩ a F; replace M := M.later hE; clear hE)
    refine stepG rfl F rfl rfl rfl (o_not (F.ev rfl) ?_); clear F; clear a; intro a F
    refine stepG rfl F rfl rfl rfl (o_pickT (F.ev rfl) (F.ev rfl) ?_); clear F; clear a; intro a F
    refine stepD rfl F rfl (o_pickF (F.ev rfl) (F.ev rfl) ?_); clear F; clear a; intro a F
    with_reducible refine l_nil ?_
    with_reducible refine q_then ?_
    refine c_false F rfl rfl ?_
    with_reducible refine c_skip ?_
    with_reducible refine q_then ?_
    with_reducible refine c_seq ?_
    with_reducible refine c_seq ?_
    with_reducible refine c_region ?_
    refine stepD rfl F rfl (o_fieldAddr (F.ev rfl) ?_); clear F; clear a; intro a F
    refine stepD rfl F rfl (o_load1 M (F.ev rfl) (by repeat (first | exact .here | apply Has.there)) (by first | assumption | rfl) ?_); clear F; clear a; intro a F
    refine stepD rfl F rfl (o_lenSl (F.ev rfl) ?_); clear F; clear a; intro a F
    refine stepD rfl F rfl (o_move (F.ev rfl) ?_); clear F; clear a; intro a F
    with_reducible refine l_nil ?_
    with_reducible refine q_then ?_
    with_reducible refine c_block ?_
    refine c_loop (fun m a w => ∃ j : Nat, m = ls.length - j ∧ j ≤ ls.length ∧ Frm a 172 [] [(73, .int .i64 (j : Int)), (72, .int .i64 ls.length), (71, .slice uq ls.length ucap), (5, .pointer (some ⟨bt, 0, none⟩)), (6, .pointer (some ⟨b6, 0, none⟩)), (7, .int .i64 now), (8, .int .i64 i), (9, .int .u64 own), (10, .pointer (some ⟨b10, 0, none⟩)), (11, .pointer (some ⟨b11, 0, none⟩)), (12, .int .i64 0)] ∧ Mem [] W w ((b11, .cells (pfC qip bb).toArray 28 (0, 0)) :: (b10, .cells (poC p n (.slice q2 ls2.length cap2)).toArray 34 (0, 0)) :: (b6, .cells (poC p n (.slice uq ls.length ucap)).toArray 34 (0, 0)) :: (bt, tobj pt len cap k3) :: (ent2 ++ ent))) ls.length ⟨0, rfl, by omega, F.only [73, 72, 71, 5, 6, 7, 8, 9, 10, 11, 12] rfl, M⟩ ?_
    clear F M
    rintro m' a w ⟨j, hm', hj, F, M⟩
    by_cases hjl : j < ls.length
    · obtain ⟨q0, cap0, hv0, _, _, _, hm0⟩ := hO.slAt M (fun x hx => by simp [hx])
      cases hv0
      obtain ⟨b, o, cs, t, fz, rfl, hb, hs⟩ := hm0 (by omega)
      obtain ⟨l, hl0⟩ : ∃ l, l = ls[j] := ⟨_, rfl⟩
      have hlm : l ∈ ls := by rw [hl0]; exact List.getElem_mem hjl
      have hli := (hP.each _ hlm).ip
      have e1 : seg cs (o + (j : Int).toNat * 19) 19 = some (leC l) := by rw [hl0]; exact seg_el (les_len hP.le) hs hjl (by omega)
      have e2 := leC_len hli.len
      have e3 := le_til hli.len
      have e4 := le_pf hli.len
      have e5 := le_own hli.len
      have e6 := fits_pf hli.len l.bits
      with_reducible refine c_seq ?_
      with_reducible refine c_region ?_
      refine stepD rfl F rfl (o_lssT (F.ev rfl) (F.ev rfl) (by omega) ?_); clear F; clear a; intro a F
      with_reducible refine l_nil ?_
      with_reducible refine q_then ?_
      with_reducible refine c_seq ?_
      refine c_true F rfl rfl ?_
      with_reducible refine c_skip ?_
      with_reducible refine q_then ?_
      with_reducible refine c_seq ?_
      with_reducible refine c_block ?_
      with_reducible refine c_seq ?_
      with_reducible refine c_region ?_
      refine stepD rfl F rfl (o_indexSl (F.ev rfl) (F.ev rfl) (by omega) (by omega) ?_); clear F; clear a; intro a F
      (refine stepD rfl F rfl (o_loadHA (F.ev rfl) hb e1 ?_); clear F; clear a; intro a F)
      (refine stepD rfl F rfl (o_alloc M ?_); clear F; clear M; intro b14 w M a F)
      (refine stepN rfl F (o_storeA M (F.ev rfl) (F.ev rfl) (e2) (le_one _)  (by repeat (first | exact .here | apply Has.there))  (put_all (by rw [e2]; rfl)) (by repeat (first | exact .here | apply Upd.there)) ?_); clear F; clear M; intro w M a F)
      by_cases htl : l.til ≤ now
      · with_reducible refine l_nil ?_
        with_reducible refine q_then ?_
        with_reducible refine c_seq ?_
        with_reducible refine c_seq ?_
        with_reducible refine c_region ?_
        refine stepD rfl F rfl (o_move (F.ev rfl) ?_); clear F; clear a; intro a F
        refine stepD rfl F rfl (o_neqF (F.ev rfl) (F.ev rfl) (by omega) ?_); clear F; clear a; intro a F
        refine stepD rfl F rfl (o_move (F.ev rfl) ?_); clear F; clear a; intro a F
        refine stepG rfl F rfl rfl rfl (o_fieldAddr (F.ev rfl) ?_); clear F; clear a; intro a F
        refine stepG rfl F rfl rfl rfl (o_load1 M (F.ev rfl) (by repeat (first | exact .here | apply Has.there)) (by first | assumption | rfl) ?_); clear F; clear a; intro a F
        refine stepG rfl F rfl rfl rfl (o_move (F.ev rfl) ?_); clear F; clear a; intro a F
        refine stepG rfl F rfl rfl rfl (o_leqT (F.ev rfl) (F.ev rfl) (by omega) ?_); clear F; clear a; intro a F
        refine stepD rfl F rfl (o_pickF (F.ev rfl) (F.ev rfl) ?_); clear F; clear a; intro a F
        with_reducible refine l_nil ?_
        with_reducible refine q_then ?_
        refine c_true F rfl rfl ?_
        with_reducible refine c_exit ?_
        with_reducible refine q_thenX ?_
        with_reducible refine q_inBX ?_
        with_reducible refine q_then ?_
        with_reducible refine c_region ?_
        refine stepD rfl F rfl (o_add (F.ev rfl) (F.ev rfl) (w_i64 (by omega) (by omega)) ?_); clear F; clear a; intro a F
        refine stepD rfl F rfl (o_move (F.ev rfl) ?_); clear F; clear a; intro a F
        with_reducible refine l_nil ?_
        with_reducible refine q_then ?_
        exact ⟨_, by omega, j + 1, rfl, by omega, F.only [73, 72, 71, 5, 6, 7, 8, 9, 10, 11, 12] rfl, M.sub (.cons _ (.refl _))⟩
      · have hlc : l ∈ cur ls now := by unfold cur; simp only [List.mem_filter, decide_eq_true_eq]; exact ⟨hlm, by omega⟩
        with_reducible refine l_nil ?_
        with_reducible refine q_then ?_
        with_reducible refine c_seq ?_
        with_reducible refine c_seq ?_
        with_reducible refine c_region ?_
        refine stepD rfl F rfl (o_move (F.ev rfl) ?_); clear F; clear a; intro a F
        refine stepD rfl F rfl (o_neqF (F.ev rfl) (F.ev rfl) (by omega) ?_); clear F; clear a; intro a F
        refine stepD rfl F rfl (o_move (F.ev rfl) ?_); clear F; clear a; intro a F
        refine stepG rfl F rfl rfl rfl (o_fieldAddr (F.ev rfl) ?_); clear F; clear a; intro a F
        refine stepG rfl F rfl rfl rfl (o_load1 M (F.ev rfl) (by repeat (first | exact .here | apply Has.there)) (by first | assumption | rfl) ?_); clear F; clear a; intro a F
        refine stepG rfl F rfl rfl rfl (o_move (F.ev rfl) ?_); clear F; clear a; intro a F
        refine stepG rfl F rfl rfl rfl (o_leqF (F.ev rfl) (F.ev rfl) (by omega) ?_); clear F; clear a; intro a F
        refine stepD rfl F rfl (o_pickF (F.ev rfl) (F.ev rfl) ?_); clear F; clear a; intro a F
        with_reducible refine l_nil ?_
        with_reducible refine q_then ?_
        refine c_false F rfl rfl ?_
        with_reducible refine c_skip ?_
        with_reducible refine q_then ?_
        with_reducible refine c_seq ?_
        with_reducible refine c_region ?_
        refine stepD rfl F rfl (o_assign (F.ev rfl) ?_); clear F; clear a; intro a F
        with_reducible refine l_nil ?_
        with_reducible refine q_then ?_
        with_reducible refine c_seq ?_
        with_reducible refine c_seq ?_
        with_reducible refine c_region ?_
        refine stepD rfl F rfl (o_fieldAddr (F.ev rfl) ?_); clear F; clear a; intro a F
        refine stepD rfl F rfl (o_load1 M (F.ev rfl) (by repeat (first | exact .here | apply Has.there)) (by first | assumption | rfl) ?_); clear F; clear a; intro a F
        refine stepD rfl F rfl (o_lenSl (F.ev rfl) ?_); clear F; clear a; intro a F
        refine stepD rfl F rfl (o_move (F.ev rfl) ?_); clear F; clear a; intro a F
        with_reducible refine l_nil ?_
        with_reducible refine q_then ?_
        with_reducible refine c_block ?_
        refine c_loop (fun m a w => ∃ (r : Nat) (kept : Bool), m = ls2.length - r ∧ r ≤ ls2.length ∧ (∀ x ∈ ls2.take r, x.ip = l.ip → x.bits = l.bits → x.own = l.own → l.til ≤ x.til → kept = true) ∧ Frm a 172 [] [(88, .int .i64 (r : Int)), (87, .int .i64 ls2.length), (86, .slice q2 ls2.length cap2), (15, .bool kept), (14, .pointer (some ⟨b14, 0, none⟩)), (73, .int .i64 (j : Int)), (72, .int .i64 ls.length), (71, .slice (some ⟨b, o, none⟩) ls.length ucap), (5, .pointer (some ⟨bt, 0, none⟩)), (6, .pointer (some ⟨b6, 0, none⟩)), (7, .int .i64 now), (8, .int .i64 i), (9, .int .u64 own), (10, .pointer (some ⟨b10, 0, none⟩)), (11, .pointer (some ⟨b11, 0, none⟩)), (12, .int .i64 0)] ∧ Mem [] W w ((b14, .cells (leC l).toArray 44 (0, 0)) :: (b11, .cells (pfC qip bb).toArray 28 (0, 0)) :: (b10, .cells (poC p n (.slice q2 ls2.length cap2)).toArray 34 (0, 0)) :: (b6, .cells (poC p n (.slice (some ⟨b, o, none⟩) ls.length ucap)).toArray 34 (0, 0)) :: (bt, tobj pt len cap k3) :: (ent2 ++ ent))) ls2.length ⟨0, false, rfl, by omega, by simp, F.only [88, 87, 86, 15, 14, 73, 72, 71, 5, 6, 7, 8, 9, 10, 11, 12] rfl, M⟩ ?_
        clear F M hb
        rintro m2 a w ⟨r, kept, hm2, hr, hk, F, M⟩
        by_cases hrl : r < ls2.length
        · obtain ⟨q0, cap0, hv0, _, _, _, hm0⟩ := hO2.slAt M (fun x hx => by simp [hx])
          cases hv0
          obtain ⟨b2, o2, cs2, t2, fz2, rfl, hb2, hs2⟩ := hm0 (by omega)
          obtain ⟨x, hx0⟩ : ∃ x, x = ls2[r] := ⟨_, rfl⟩
          have hxm : x ∈ ls2 := by rw [hx0]; exact List.getElem_mem hrl
          have hxi := (hL.pool.each _ hxm).ip
          have f1 : seg cs2 (o2 + (r : Int).toNat * 19) 19 = some (leC x) := by rw [hx0]; exact seg_el (les_len hL.pool.le) hs2 hrl (by omega)
          have f2 := leC_len hxi.len
          have f3 := le_til hxi.len
          have f4 := le_pf hxi.len
          have f5 := le_own hxi.len
          have f6 := fits_pf hxi.len x.bits
          have f7 := eqVs_pf (a := x.ip) (b := l.ip) (n := x.bits) (m := l.bits) (by rw [hxi.len, hli.len])
          with_reducible refine c_seq ?_
          with_reducible refine c_region ?_
          refine stepD rfl F rfl (o_lssT (F.ev rfl) (F.ev rfl) (by omega) ?_); clear F; clear a; intro a F
          with_reducible refine l_nil ?_
          with_reducible refine q_then ?_
          with_reducible refine c_seq ?_
          refine c_true F rfl rfl ?_
          with_reducible refine c_skip ?_
          with_reducible refine q_then ?_
          with_reducible refine c_seq ?_
          with_reducible refine c_block ?_
          with_reducible refine c_seq ?_
          with_reducible refine c_region ?_
          refine stepD rfl F rfl (o_indexSl (F.ev rfl) (F.ev rfl) (by omega) (by omega) ?_); clear F; clear a; intro a F
          (refine stepD rfl F rfl (o_loadHA (F.ev rfl) hb2 f1 ?_); clear F; clear a; intro a F)
          (refine stepD rfl F rfl (o_alloc M ?_); clear F; clear M; intro b17 w M a F)
          (refine stepN rfl F (o_storeA M (F.ev rfl) (F.ev rfl) (f2) (le_one _)  (by repeat (first | exact .here | apply Has.there))  (put_all (by rw [f2]; rfl)) (by repeat (first | exact .here | apply Upd.there)) ?_); clear F; clear M; intro w M a F)
          clear hb2
          cases kept
          · cases c1 : (x.ip == l.ip && x.bits == l.bits)
            · rw [c1] at f7
              with_reducible refine l_nil ?_
              with_reducible refine q_then ?_
              with_reducible refine c_region ?_
              refine stepD rfl F rfl (o_move (F.ev rfl) ?_); clear F; clear a; intro a F
              refine stepD rfl F rfl (o_move (F.ev rfl) ?_); clear F; clear a; intro a F
              refine stepG rfl F rfl rfl rfl (o_fieldAddr (F.ev rfl) ?_); clear F; clear a; intro a F
              refine stepG rfl F rfl rfl rfl (o_loadA M (F.ev rfl) (by repeat (first | exact .here | apply Has.there)) (by first | assumption | rfl) ?_); clear F; clear a; intro a F
              refine stepG rfl F rfl rfl rfl (o_fieldAddr (F.ev rfl) ?_); clear F; clear a; intro a F
              refine stepG rfl F rfl rfl rfl (o_loadA M (F.ev rfl) (by repeat (first | exact .here | apply Has.there)) (by first | assumption | rfl) ?_); clear F; clear a; intro a F
              refine stepG rfl F rfl rfl rfl (o_eqlAF (F.ev rfl) (F.ev rfl) (by first | assumption | rfl) (by first | assumption | rfl) (by assumption) ?_); clear F; clear a; intro a F
              refine stepG rfl F rfl rfl rfl (o_move (F.ev rfl) ?_); clear F; clear a; intro a F
              refine stepOff F rfl rfl rfl rfl ?_; clear F; clear a; intro a F
              refine stepOff F rfl rfl rfl rfl ?_; clear F; clear a; intro a F
              refine stepOff F rfl rfl rfl rfl ?_; clear F; clear a; intro a F
              refine stepOff F rfl rfl rfl rfl ?_; clear F; clear a; intro a F
              refine stepOff F rfl rfl rfl rfl ?_; clear F; clear a; intro a F
              refine stepG rfl F rfl rfl rfl (o_pickF (F.ev rfl) (F.ev rfl) ?_); clear F; clear a; intro a F
              refine stepG rfl F rfl rfl rfl (o_move (F.ev rfl) ?_); clear F; clear a; intro a F
              refine stepOff F rfl rfl rfl rfl ?_; clear F; clear a; intro a F
              refine stepOff F rfl rfl rfl rfl ?_; clear F; clear a; intro a F
              refine stepOff F rfl rfl rfl rfl ?_; clear F; clear a; intro a F
              refine stepOff F rfl rfl rfl rfl ?_; clear F; clear a; intro a F
              refine stepOff F rfl rfl rfl rfl ?_; clear F; clear a; intro a F
              refine stepG rfl F rfl rfl rfl (o_pickF (F.ev rfl) (F.ev rfl) ?_); clear F; clear a; intro a F
              refine stepD rfl F rfl (o_pickF (F.ev rfl) (F.ev rfl) ?_); clear F; clear a; intro a F
              refine stepD rfl F rfl (o_assign (F.ev rfl) ?_); clear F; clear a; intro a F
              with_reducible refine l_nil ?_
              with_reducible refine q_inB ?_
              with_reducible refine q_then ?_
              with_reducible refine c_region ?_
              refine stepD rfl F rfl (o_add (F.ev rfl) (F.ev rfl) (w_i64 (by omega) (by omega)) ?_); clear F; clear a; intro a F
              refine stepD rfl F rfl (o_move (F.ev rfl) ?_); clear F; clear a; intro a F
              with_reducible refine l_nil ?_
              with_reducible refine q_then ?_
              exact ⟨_, by omega, r + 1, false, rfl, by omega, fun y hy y1 y2 y3 y4 => (mem_take_succ hrl hy).elim (fun h => hk y h y1 y2 y3 y4) (fun h => by rw [← hx0] at h; subst h; simp [y1, y2] at c1), F.only [88, 87, 86, 15, 14, 73, 72, 71, 5, 6, 7, 8, 9, 10, 11, 12] rfl, M.sub (.cons _ (.refl _))⟩
            · rw [c1] at f7
              by_cases c2 : x.own = l.own
              · by_cases c3 : l.til ≤ x.til
                · with_reducible refine l_nil ?_
                  with_reducible refine q_then ?_
                  with_reducible refine c_region ?_
                  refine stepD rfl F rfl (o_move (F.ev rfl) ?_); clear F; clear a; intro a F
                  refine stepD rfl F rfl (o_move (F.ev rfl) ?_); clear F; clear a; intro a F
                  refine stepG rfl F rfl rfl rfl (o_fieldAddr (F.ev rfl) ?_); clear F; clear a; intro a F
                  refine stepG rfl F rfl rfl rfl (o_loadA M (F.ev rfl) (by repeat (first | exact .here | apply Has.there)) (by first | assumption | rfl) ?_); clear F; clear a; intro a F
                  refine stepG rfl F rfl rfl rfl (o_fieldAddr (F.ev rfl) ?_); clear F; clear a; intro a F
                  refine stepG rfl F rfl rfl rfl (o_loadA M (F.ev rfl) (by repeat (first | exact .here | apply Has.there)) (by first | assumption | rfl) ?_); clear F; clear a; intro a F
                  refine stepG rfl F rfl rfl rfl (o_eqlAT (F.ev rfl) (F.ev rfl) (by first | assumption | rfl) (by first | assumption | rfl) (by assumption) ?_); clear F; clear a; intro a F
                  refine stepG rfl F rfl rfl rfl (o_move (F.ev rfl) ?_); clear F; clear a; intro a F
                  refine stepG rfl F rfl rfl rfl (o_fieldAddr (F.ev rfl) ?_); clear F; clear a; intro a F
                  refine stepG rfl F rfl rfl rfl (o_load1 M (F.ev rfl) (by repeat (first | exact .here | apply Has.there)) (by first | assumption | rfl) ?_); clear F; clear a; intro a F
                  refine stepG rfl F rfl rfl rfl (o_fieldAddr (F.ev rfl) ?_); clear F; clear a; intro a F
                  refine stepG rfl F rfl rfl rfl (o_load1 M (F.ev rfl) (by repeat (first | exact .here | apply Has.there)) (by first | assumption | rfl) ?_); clear F; clear a; intro a F
                  refine stepG rfl F rfl rfl rfl (o_eqlT (F.ev rfl) (F.ev rfl) (by omega) ?_); clear F; clear a; intro a F
                  refine stepG rfl F rfl rfl rfl (o_pickT (F.ev rfl) (F.ev rfl) ?_); clear F; clear a; intro a F
                  refine stepG rfl F rfl rfl rfl (o_move (F.ev rfl) ?_); clear F; clear a; intro a F
                  refine stepG rfl F rfl rfl rfl (o_fieldAddr (F.ev rfl) ?_); clear F; clear a; intro a F
                  refine stepG rfl F rfl rfl rfl (o_load1 M (F.ev rfl) (by repeat (first | exact .here | apply Has.there)) (by first | assumption | rfl) ?_); clear F; clear a; intro a F
                  refine stepG rfl F rfl rfl rfl (o_fieldAddr (F.ev rfl) ?_); clear F; clear a; intro a F
                  refine stepG rfl F rfl rfl rfl (o_load1 M (F.ev rfl) (by repeat (first | exact .here | apply Has.there)) (by first | assumption | rfl) ?_); clear F; clear a; intro a F
                  refine stepG rfl F rfl rfl rfl (o_geqT (F.ev rfl) (F.ev rfl) (by omega) ?_); clear F; clear a; intro a F
                  refine stepG rfl F rfl rfl rfl (o_pickT (F.ev rfl) (F.ev rfl) ?_); clear F; clear a; intro a F
                  refine stepD rfl F rfl (o_pickF (F.ev rfl) (F.ev rfl) ?_); clear F; clear a; intro a F
                  refine stepD rfl F rfl (o_assign (F.ev rfl) ?_); clear F; clear a; intro a F
                  with_reducible refine l_nil ?_
                  with_reducible refine q_inB ?_
                  with_reducible refine q_then ?_
                  with_reducible refine c_region ?_
                  refine stepD rfl F rfl (o_add (F.ev rfl) (F.ev rfl) (w_i64 (by omega) (by omega)) ?_); clear F; clear a; intro a F
                  refine stepD rfl F rfl (o_move (F.ev rfl) ?_); clear F; clear a; intro a F
                  with_reducible refine l_nil ?_
                  with_reducible refine q_then ?_
                  exact ⟨_, by omega, r + 1, true, rfl, by omega, fun _ _ _ _ _ _ => rfl, F.only [88, 87, 86, 15, 14, 73, 72, 71, 5, 6, 7, 8, 9, 10, 11, 12] rfl, M.sub (.cons _ (.refl _))⟩
                · with_reducible refine l_nil ?_
                  with_reducible refine q_then ?_
                  with_reducible refine c_region ?_
                  refine stepD rfl F rfl (o_move (F.ev rfl) ?_); clear F; clear a; intro a F
                  refine stepD rfl F rfl (o_move (F.ev rfl) ?_); clear F; clear a; intro a F
                  refine stepG rfl F rfl rfl rfl (o_fieldAddr (F.ev rfl) ?_); clear F; clear a; intro a F
                  refine stepG rfl F rfl rfl rfl (o_loadA M (F.ev rfl) (by repeat (first | exact .here | apply Has.there)) (by first | assumption | rfl) ?_); clear F; clear a; intro a F
                  refine stepG rfl F rfl rfl rfl (o_fieldAddr (F.ev rfl) ?_); clear F; clear a; intro a F
                  refine stepG rfl F rfl rfl rfl (o_loadA M (F.ev rfl) (by repeat (first | exact .here | apply Has.there)) (by first | assumption | rfl) ?_); clear F; clear a; intro a F
                  refine stepG rfl F rfl rfl rfl (o_eqlAT (F.ev rfl) (F.ev rfl) (by first | assumption | rfl) (by first | assumption | rfl) (by assumption) ?_); clear F; clear a; intro a F
                  refine stepG rfl F rfl rfl rfl (o_move (F.ev rfl) ?_); clear F; clear a; intro a F
                  refine stepG rfl F rfl rfl rfl (o_fieldAddr (F.ev rfl) ?_); clear F; clear a; intro a F
                  refine stepG rfl F rfl rfl rfl (o_load1 M (F.ev rfl) (by repeat (first | exact .here | apply Has.there)) (by first | assumption | rfl) ?_); clear F; clear a; intro a F
                  refine stepG rfl F rfl rfl rfl (o_fieldAddr (F.ev rfl) ?_); clear F; clear a; intro a F
                  refine stepG rfl F rfl rfl rfl (o_load1 M (F.ev rfl) (by repeat (first | exact .here | apply Has.there)) (by first | assumption | rfl) ?_); clear F; clear a; intro a F
                  refine stepG rfl F rfl rfl rfl (o_eqlT (F.ev rfl) (F.ev rfl) (by omega) ?_); clear F; clear a; intro a F
                  refine stepG rfl F rfl rfl rfl (o_pickT (F.ev rfl) (F.ev rfl) ?_); clear F; clear a; intro a F
                  refine stepG rfl F rfl rfl rfl (o_move (F.ev rfl) ?_); clear F; clear a; intro a F
                  refine stepG rfl F rfl rfl rfl (o_fieldAddr (F.ev rfl) ?_); clear F; clear a; intro a F
                  refine stepG rfl F rfl rfl rfl (o_load1 M (F.ev rfl) (by repeat (first | exact .here | apply Has.there)) (by first | assumption | rfl) ?_); clear F; clear a; intro a F
                  refine stepG rfl F rfl rfl rfl (o_fieldAddr (F.ev rfl) ?_); clear F; clear a; intro a F
                  refine stepG rfl F rfl rfl rfl (o_load1 M (F.ev rfl) (by repeat (first | exact .here | apply Has.there)) (by first | assumption | rfl) ?_); clear F; clear a; intro a F
                  refine stepG rfl F rfl rfl rfl (o_geqF (F.ev rfl) (F.ev rfl) (by omega) ?_); clear F; clear a; intro a F
                  refine stepG rfl F rfl rfl rfl (o_pickT (F.ev rfl) (F.ev rfl) ?_); clear F; clear a; intro a F
                  refine stepD rfl F rfl (o_pickF (F.ev rfl) (F.ev rfl) ?_); clear F; clear a; intro a F
                  refine stepD rfl F rfl (o_assign (F.ev rfl) ?_); clear F; clear a; intro a F
                  with_reducible refine l_nil ?_
                  with_reducible refine q_inB ?_
                  with_reducible refine q_then ?_
                  with_reducible refine c_region ?_
                  refine stepD rfl F rfl (o_add (F.ev rfl) (F.ev rfl) (w_i64 (by omega) (by omega)) ?_); clear F; clear a; intro a F
                  refine stepD rfl F rfl (o_move (F.ev rfl) ?_); clear F; clear a; intro a F
                  with_reducible refine l_nil ?_
                  with_reducible refine q_then ?_
                  exact ⟨_, by omega, r + 1, false, rfl, by omega, fun y hy y1 y2 y3 y4 => (mem_take_succ hrl hy).elim (fun h => hk y h y1 y2 y3 y4) (fun h => by rw [← hx0] at h; subst h; exact absurd y4 c3), F.only [88, 87, 86, 15, 14, 73, 72, 71, 5, 6, 7, 8, 9, 10, 11, 12] rfl, M.sub (.cons _ (.refl _))⟩
              · with_reducible refine l_nil ?_
                with_reducible refine q_then ?_
                with_reducible refine c_region ?_
                refine stepD rfl F rfl (o_move (F.ev rfl) ?_); clear F; clear a; intro a F
                refine stepD rfl F rfl (o_move (F.ev rfl) ?_); clear F; clear a; intro a F
                refine stepG rfl F rfl rfl rfl (o_fieldAddr (F.ev rfl) ?_); clear F; clear a; intro a F
                refine stepG rfl F rfl rfl rfl (o_loadA M (F.ev rfl) (by repeat (first | exact .here | apply Has.there)) (by first | assumption | rfl) ?_); clear F; clear a; intro a F
                refine stepG rfl F rfl rfl rfl (o_fieldAddr (F.ev rfl) ?_); clear F; clear a; intro a F
                refine stepG rfl F rfl rfl rfl (o_loadA M (F.ev rfl) (by repeat (first | exact .here | apply Has.there)) (by first | assumption | rfl) ?_); clear F; clear a; intro a F
                refine stepG rfl F rfl rfl rfl (o_eqlAT (F.ev rfl) (F.ev rfl) (by first | assumption | rfl) (by first | assumption | rfl) (by assumption) ?_); clear F; clear a; intro a F
                refine stepG rfl F rfl rfl rfl (o_move (F.ev rfl) ?_); clear F; clear a; intro a F
                refine stepG rfl F rfl rfl rfl (o_fieldAddr (F.ev rfl) ?_); clear F; clear a; intro a F
                refine stepG rfl F rfl rfl rfl (o_load1 M (F.ev rfl) (by repeat (first | exact .here | apply Has.there)) (by first | assumption | rfl) ?_); clear F; clear a; intro a F
                refine stepG rfl F rfl rfl rfl (o_fieldAddr (F.ev rfl) ?_); clear F; clear a; intro a F
                refine stepG rfl F rfl rfl rfl (o_load1 M (F.ev rfl) (by repeat (first | exact .here | apply Has.there)) (by first | assumption | rfl) ?_); clear F; clear a; intro a F
                refine stepG rfl F rfl rfl rfl (o_eqlF (F.ev rfl) (F.ev rfl) (by omega) ?_); clear F; clear a; intro a F
                refine stepG rfl F rfl rfl rfl (o_pickT (F.ev rfl) (F.ev rfl) ?_); clear F; clear a; intro a F
                refine stepG rfl F rfl rfl rfl (o_move (F.ev rfl) ?_); clear F; clear a; intro a F
                refine stepOff F rfl rfl rfl rfl ?_; clear F; clear a; intro a F
                refine stepOff F rfl rfl rfl rfl ?_; clear F; clear a; intro a F
                refine stepOff F rfl rfl rfl rfl ?_; clear F; clear a; intro a F
                refine stepOff F rfl rfl rfl rfl ?_; clear F; clear a; intro a F
                refine stepOff F rfl rfl rfl rfl ?_; clear F; clear a; intro a F
                refine stepG rfl F rfl rfl rfl (o_pickF (F.ev rfl) (F.ev rfl) ?_); clear F; clear a; intro a F
                refine stepD rfl F rfl (o_pickF (F.ev rfl) (F.ev rfl) ?_); clear F; clear a; intro a F
                refine stepD rfl F rfl (o_assign (F.ev rfl) ?_); clear F; clear a; intro a F
                with_reducible refine l_nil ?_
                with_reducible refine q_inB ?_
                with_reducible refine q_then ?_
                with_reducible refine c_region ?_
                refine stepD rfl F rfl (o_add (F.ev rfl) (F.ev rfl) (w_i64 (by omega) (by omega)) ?_); clear F; clear a; intro a F
                refine stepD rfl F rfl (o_move (F.ev rfl) ?_); clear F; clear a; intro a F
                with_reducible refine l_nil ?_
                with_reducible refine q_then ?_
                exact ⟨_, by omega, r + 1, false, rfl, by omega, fun y hy y1 y2 y3 y4 => (mem_take_succ hrl hy).elim (fun h => hk y h y1 y2 y3 y4) (fun h => by rw [← hx0] at h; subst h; exact absurd y3 c2), F.only [88, 87, 86, 15, 14, 73, 72, 71, 5, 6, 7, 8, 9, 10, 11, 12] rfl, M.sub (.cons _ (.refl _))⟩
          · with_reducible refine l_nil ?_
            with_reducible refine q_then ?_
            with_reducible refine c_region ?_
            refine stepD rfl F rfl (o_move (F.ev rfl) ?_); clear F; clear a; intro a F
            refine stepD rfl F rfl (o_move (F.ev rfl) ?_); clear F; clear a; intro a F
            refine stepOff F rfl rfl rfl rfl ?_; clear F; clear a; intro a F
            refine stepOff F rfl rfl rfl rfl ?_; clear F; clear a; intro a F
            refine stepOff F rfl rfl rfl rfl ?_; clear F; clear a; intro a F
            refine stepOff F rfl rfl rfl rfl ?_; clear F; clear a; intro a F
            refine stepOff F rfl rfl rfl rfl ?_; clear F; clear a; intro a F
            refine stepOff F rfl rfl rfl rfl ?_; clear F; clear a; intro a F
            refine stepOff F rfl rfl rfl rfl ?_; clear F; clear a; intro a F
            refine stepOff F rfl rfl rfl rfl ?_; clear F; clear a; intro a F
            refine stepOff F rfl rfl rfl rfl ?_; clear F; clear a; intro a F
            refine stepOff F rfl rfl rfl rfl ?_; clear F; clear a; intro a F
            refine stepOff F rfl rfl rfl rfl ?_; clear F; clear a; intro a F
            refine stepOff F rfl rfl rfl rfl ?_; clear F; clear a; intro a F
            refine stepOff F rfl rfl rfl rfl ?_; clear F; clear a; intro a F
            refine stepOff F rfl rfl rfl rfl ?_; clear F; clear a; intro a F
            refine stepOff F rfl rfl rfl rfl ?_; clear F; clear a; intro a F
            refine stepOff F rfl rfl rfl rfl ?_; clear F; clear a; intro a F
            refine stepOff F rfl rfl rfl rfl ?_; clear F; clear a; intro a F
            refine stepOff F rfl rfl rfl rfl ?_; clear F; clear a; intro a F
            refine stepOff F rfl rfl rfl rfl ?_; clear F; clear a; intro a F
            refine stepD rfl F rfl (o_pickT (F.ev rfl) (F.ev rfl) ?_); clear F; clear a; intro a F
            refine stepD rfl F rfl (o_assign (F.ev rfl) ?_); clear F; clear a; intro a F
            with_reducible refine l_nil ?_
            with_reducible refine q_inB ?_
            with_reducible refine q_then ?_
            with_reducible refine c_region ?_
            refine stepD rfl F rfl (o_add (F.ev rfl) (F.ev rfl) (w_i64 (by omega) (by omega)) ?_); clear F; clear a; intro a F
            refine stepD rfl F rfl (o_move (F.ev rfl) ?_); clear F; clear a; intro a F
            with_reducible refine l_nil ?_
            with_reducible refine q_then ?_
            exact ⟨_, by omega, r + 1, true, rfl, by omega, fun _ _ _ _ _ _ => rfl, F.only [88, 87, 86, 15, 14, 73, 72, 71, 5, 6, 7, 8, 9, 10, 11, 12] rfl, M.sub (.cons _ (.refl _))⟩
        · obtain rfl : r = ls2.length := by omega
          obtain ⟨x, hx1, hx2, hx3, hx4, hx5⟩ := hL.kept l hlc
          have hkt : kept = true := hk x (by rw [List.take_length]; exact hx1) hx2 hx3 hx4 hx5
          subst hkt
          cases ov : overlapP l.ip l.bits qip bb
          · with_reducible refine c_seq ?_
            with_reducible refine c_region ?_
            refine stepD rfl F rfl (o_lssF (F.ev rfl) (F.ev rfl) (by omega) ?_); clear F; clear a; intro a F
            with_reducible refine l_nil ?_
            with_reducible refine q_then ?_
            with_reducible refine c_seq ?_
            refine c_false F rfl rfl ?_
            with_reducible refine c_exit ?_
            with_reducible refine q_thenX ?_
            with_reducible refine q_thenX ?_
            with_reducible refine q_inBX ?_
            with_reducible refine q_then ?_
            with_reducible refine c_seq ?_
            with_reducible refine c_region ?_
            refine stepD rfl F rfl (o_move (F.ev rfl) ?_); clear F; clear a; intro a F
            refine stepD rfl F rfl (o_not (F.ev rfl) ?_); clear F; clear a; intro a F
            refine stepD rfl F rfl (o_move (F.ev rfl) ?_); clear F; clear a; intro a F
            refine stepG rfl F rfl rfl rfl (o_fieldAddr (F.ev rfl) ?_); clear F; clear a; intro a F
            refine stepG rfl F rfl rfl rfl (o_loadA M (F.ev rfl) (by repeat (first | exact .here | apply Has.there)) (by first | assumption | rfl) ?_); clear F; clear a; intro a F
            refine stepG rfl F rfl rfl rfl (o_loadA M (F.ev rfl) (by repeat (first | exact .here | apply Has.there)) (by first | assumption | rfl) ?_); clear F; clear a; intro a F
            (refine stepG rfl F rfl rfl rfl (o_call (F.ev rfl) (F.evs rfl) (Cal.mono (meet_c l.ip l.bits hli qip bb hL.ip _) ?_)); clear F; clear a; rintro _ w ⟨rfl, hE⟩ a F; replace M := M.later hE; clear hE)
            rw [ov] at F
            refine stepG rfl F rfl rfl rfl (o_move (F.ev rfl) ?_); clear F; clear a; intro a F
            refine stepOff F rfl rfl rfl rfl ?_; clear F; clear a; intro a F
            refine stepOff F rfl rfl rfl rfl ?_; clear F; clear a; intro a F
            refine stepOff F rfl rfl rfl rfl ?_; clear F; clear a; intro a F
            refine stepOff F rfl rfl rfl rfl ?_; clear F; clear a; intro a F
            refine stepOff F rfl rfl rfl rfl ?_; clear F; clear a; intro a F
            refine stepOff F rfl rfl rfl rfl ?_; clear F; clear a; intro a F
            refine stepOff F rfl rfl rfl rfl ?_; clear F; clear a; intro a F
            refine stepOff F rfl rfl rfl rfl ?_; clear F; clear a; intro a F
            refine stepOff F rfl rfl rfl rfl ?_; clear F; clear a; intro a F
            refine stepOff F rfl rfl rfl rfl ?_; clear F; clear a; intro a F
            refine stepG rfl F rfl rfl rfl (o_pickF (F.ev rfl) (F.ev rfl) ?_); clear F; clear a; intro a F
            refine stepD rfl F rfl (o_pickF (F.ev rfl) (F.ev rfl) ?_); clear F; clear a; intro a F
            with_reducible refine l_nil ?_
            with_reducible refine q_then ?_
            refine c_false F rfl rfl ?_
            with_reducible refine c_skip ?_
            with_reducible refine q_inB ?_
            with_reducible refine q_then ?_
            with_reducible refine c_region ?_
            refine stepD rfl F rfl (o_add (F.ev rfl) (F.ev rfl) (w_i64 (by omega) (by omega)) ?_); clear F; clear a; intro a F
            refine stepD rfl F rfl (o_move (F.ev rfl) ?_); clear F; clear a; intro a F
            with_reducible refine l_nil ?_
            with_reducible refine q_then ?_
            exact ⟨_, by omega, j + 1, rfl, by omega, F.only [73, 72, 71, 5, 6, 7, 8, 9, 10, 11, 12] rfl, M.sub (.cons _ (.refl _))⟩
          · obtain ⟨a1, a2, a3⟩ := hL.apart l hlc ov
            have f8 : eqVs (pfC l.ip l.bits) (pfC qip bb) = true := by rw [eqVs_pf (by rw [a1]), a1, a2]; simp
            with_reducible refine c_seq ?_
            with_reducible refine c_region ?_
            refine stepD rfl F rfl (o_lssF (F.ev rfl) (F.ev rfl) (by omega) ?_); clear F; clear a; intro a F
            with_reducible refine l_nil ?_
            with_reducible refine q_then ?_
            with_reducible refine c_seq ?_
            refine c_false F rfl rfl ?_
            with_reducible refine c_exit ?_
            with_reducible refine q_thenX ?_
            with_reducible refine q_thenX ?_
            with_reducible refine q_inBX ?_
            with_reducible refine q_then ?_
            with_reducible refine c_seq ?_
            with_reducible refine c_region ?_
            refine stepD rfl F rfl (o_move (F.ev rfl) ?_); clear F; clear a; intro a F
            refine stepD rfl F rfl (o_not (F.ev rfl) ?_); clear F; clear a; intro a F
            refine stepD rfl F rfl (o_move (F.ev rfl) ?_); clear F; clear a; intro a F
            refine stepG rfl F rfl rfl rfl (o_fieldAddr (F.ev rfl) ?_); clear F; clear a; intro a F
            refine stepG rfl F rfl rfl rfl (o_loadA M (F.ev rfl) (by repeat (first | exact .here | apply Has.there)) (by first | assumption | rfl) ?_); clear F; clear a; intro a F
            refine stepG rfl F rfl rfl rfl (o_loadA M (F.ev rfl) (by repeat (first | exact .here | apply Has.there)) (by first | assumption | rfl) ?_); clear F; clear a; intro a F
            (refine stepG rfl F rfl rfl rfl (o_call (F.ev rfl) (F.evs rfl) (Cal.mono (meet_c l.ip l.bits hli qip bb hL.ip _) ?_)); clear F; clear a; rintro _ w ⟨rfl, hE⟩ a F; replace M := M.later hE; clear hE)
            rw [ov] at F
            refine stepG rfl F rfl rfl rfl (o_move (F.ev rfl) ?_); clear F; clear a; intro a F
            refine stepG rfl F rfl rfl rfl (o_fieldAddr (F.ev rfl) ?_); clear F; clear a; intro a F
            refine stepG rfl F rfl rfl rfl (o_loadA M (F.ev rfl) (by repeat (first | exact .here | apply Has.there)) (by first | assumption | rfl) ?_); clear F; clear a; intro a F
            refine stepG rfl F rfl rfl rfl (o_loadA M (F.ev rfl) (by repeat (first | exact .here | apply Has.there)) (by first | assumption | rfl) ?_); clear F; clear a; intro a F
            refine stepG rfl F rfl rfl rfl (o_neqAF (F.ev rfl) (F.ev rfl) (by first | assumption | rfl) (by first | assumption | rfl) (by assumption) ?_); clear F; clear a; intro a F
            refine stepG rfl F rfl rfl rfl (o_move (F.ev rfl) ?_); clear F; clear a; intro a F
            refine stepG rfl F rfl rfl rfl (o_fieldAddr (F.ev rfl) ?_); clear F; clear a; intro a F
            refine stepG rfl F rfl rfl rfl (o_load1 M (F.ev rfl) (by repeat (first | exact .here | apply Has.there)) (by first | assumption | rfl) ?_); clear F; clear a; intro a F
            refine stepG rfl F rfl rfl rfl (o_move (F.ev rfl) ?_); clear F; clear a; intro a F
            refine stepG rfl F rfl rfl rfl (o_neqF (F.ev rfl) (F.ev rfl) (by omega) ?_); clear F; clear a; intro a F
            refine stepG rfl F rfl rfl rfl (o_pickF (F.ev rfl) (F.ev rfl) ?_); clear F; clear a; intro a F
            refine stepG rfl F rfl rfl rfl (o_pickT (F.ev rfl) (F.ev rfl) ?_); clear F; clear a; intro a F
            refine stepD rfl F rfl (o_pickF (F.ev rfl) (F.ev rfl) ?_); clear F; clear a; intro a F
            with_reducible refine l_nil ?_
            with_reducible refine q_then ?_
            refine c_false F rfl rfl ?_
            with_reducible refine c_skip ?_
            with_reducible refine q_inB ?_
            with_reducible refine q_then ?_
            with_reducible refine c_region ?_
            refine stepD rfl F rfl (o_add (F.ev rfl) (F.ev rfl) (w_i64 (by omega) (by omega)) ?_); clear F; clear a; intro a F
            refine stepD rfl F rfl (o_move (F.ev rfl) ?_); clear F; clear a; intro a F
            with_reducible refine l_nil ?_
            with_reducible refine q_then ?_
            exact ⟨_, by omega, j + 1, rfl, by omega, F.only [73, 72, 71, 5, 6, 7, 8, 9, 10, 11, 12] rfl, M.sub (.cons _ (.refl _))⟩
    obtain rfl : j = ls.length := by omega
    with_reducible refine c_seq ?_
    with_reducible refine c_region ?_
    refine stepD rfl F rfl (o_lssF (F.ev rfl) (F.ev rfl) (by omega) ?_); clear F; clear a; intro a F
    with_reducible refine l_nil ?_
    with_reducible refine q_then ?_
    with_reducible refine c_seq ?_
    refine c_false F rfl rfl ?_
    with_reducible refine c_exit ?_
    with_reducible refine q_thenX ?_
    with_reducible refine q_thenX ?_
    with_reducible refine q_inBX ?_
    with_reducible refine q_then ?_
    with_reducible refine c_seq ?_
    with_reducible refine c_seq ?_
    with_reducible refine c_region ?_
    refine stepD rfl F rfl (o_move (F.ev rfl) ?_); clear F; clear a; intro a F
    refine stepD rfl F rfl (o_eqlT (F.ev rfl) (F.ev rfl) (by omega) ?_); clear F; clear a; intro a F
    with_reducible refine l_nil ?_
    with_reducible refine q_then ?_
    refine c_true F rfl rfl ?_
    with_reducible refine c_region ?_
    refine stepD rfl F rfl (o_loadA M (F.ev rfl) (by repeat (first | exact .here | apply Has.there)) (by first | assumption | rfl) ?_); clear F; clear a; intro a F
    (refine stepN rfl F (o_storeA M (F.ev rfl) (F.ev rfl) (g3) (po_one _ _ _ _ _)  (by repeat (first | exact .here | apply Has.there))  (put_all (by rw [g3, poC_len hpi.len])) (by repeat (first | exact .here | apply Upd.there)) ?_); clear F; clear M; intro w M a F)
    with_reducible refine l_nil ?_
    with_reducible refine q_then ?_
    with_reducible refine c_seq ?_
    with_reducible refine c_seq ?_
    with_reducible refine c_region ?_
    refine stepD rfl F rfl (o_fieldAddr (F.ev rfl) ?_); clear F; clear a; intro a F
    refine stepD rfl F rfl (o_load1 M (F.ev rfl) (by repeat (first | exact .here | apply Has.there)) (by first | assumption | rfl) ?_); clear F; clear a; intro a F
    refine stepD rfl F rfl (o_lenSl (F.ev rfl) ?_); clear F; clear a; intro a F
    refine stepD rfl F rfl (o_gtr (F.ev rfl) (F.ev rfl) ?_); clear F; clear a; intro a F
    refine stepD rfl F rfl (o_move (F.ev rfl) ?_); clear F; clear a; intro a F
    obtain ⟨ls', uq', ucap', ent', k', hP', hO', F9, M9⟩ : ∃ (ls' : List Lease) (uq' : Option Addr) (ucap' : Nat) (ent' : List (Nat × Obj)) (k' : Nat), PoolOk p n ls' ∧ OwnS 44 19 (.slice uq' ls'.length ucap') ls'.length (lesC ls') ent' ∧ Frm a 172 [] [(143, .bool (decide ((0 : Int) < ls'.length))), (5, .pointer (some ⟨bt, 0, none⟩)), (6, .pointer (some ⟨b6, 0, none⟩)), (7, .int .i64 now), (8, .int .i64 i)] ∧ Mem [] W w ((b6, .cells (poC p n (.slice uq' ls'.length ucap')).toArray 34 (0, 0)) :: (bt, tobj pt len cap k') :: ent') := ⟨ls2, q2, cap2, ent2, k3, hL.pool, hO2, F.only [143, 5, 6, 7, 8] rfl, M.sub (.cons _ (.cons _ (.cons_cons _ (.cons_cons _ (List.sublist_append_left _ _)))))⟩
    clear hjl hj hm' F M
    have F := F9
    have M := M9
    clear F9 M9
    all_goals
      have hl64 := hP'.len
      by_cases hl0 : 0 < ls'.length
      · rw [decide_eq_true (show (0 : Int) < ls'.length by omega)] at F
        repeat (first | (refine stepG rfl F rfl rfl rfl (o_move (F.ev rfl) ?_); clear F; clear a; intro a F))
        (refine stepG rfl F rfl rfl rfl (o_call (F.ev rfl) (F.evs rfl) (Cal.mono (boolE_c 4 (by omega) (by omega) _ (hT.later M.ext.any) (M.heap (.there .here))) ?_)); clear F; clear a; have M0 := M; clear M; rintro _ w ⟨c, k4, rfl, N⟩ a F)
        replace M := M0.turn1 N (.there .here)
        cases c
        · repeat (first | (with_reducible refine c_region ?_) | (with_reducible refine l_nil ?_) | (with_reducible refine q_then ?_) | (with_reducible refine c_skip ?_) | (refine c_false F rfl rfl ?_) | (refine stepD rfl F rfl (o_move (F.ev rfl) ?_); clear F; clear a; intro a F) | (refine stepD rfl F rfl (o_pickT (F.ev rfl) (F.ev rfl) ?_); clear F; clear a; intro a F))
          (refine stepD rfl F rfl (o_call (F.ev rfl) (F.evs rfl) (Cal.mono (nextE_c 6 (by omega) (by omega) _ (hT.later M.ext.any) (M.heap (.there .here)) ) ?_)); clear F; clear a; have M0 := M; clear M; rintro _ w ⟨x9, k9, rfl, hx9, N⟩ a F)
          replace M := M0.turn1 N (.there .here)
          repeat (first | (with_reducible refine c_region ?_) | (with_reducible refine l_nil ?_) | (with_reducible refine q_then ?_) | (with_reducible refine q_inB ?_) | (refine stepD rfl F rfl (o_move (F.ev rfl) ?_); clear F; clear a; intro a F) | (refine stepD rfl F rfl (o_assign (F.ev rfl) ?_); clear F; clear a; intro a F) | (refine stepD rfl F rfl (o_add (F.ev rfl) (F.ev rfl) (w_i64 (by omega) (by omega)) ?_); clear F; clear a; intro a F))
          exact ⟨_, by omega, i + 1, now + x9, ls', _, ent', k9, rfl, by omega, by omega, hP', hO', F.only [8, 7, 5, 6] rfl, M⟩
        · rcases hO' with ⟨_, h0, _, _⟩ | ⟨bL, lcap, junk, hv, rfl, hxl, hjl', hnc⟩
          · omega
          cases hv
          have hOr : OwnS 44 19 (.slice (some ⟨bL, 0, none⟩) ls'.length ucap') ls'.length (lesC ls') [(bL, .cells (lesC ls' ++ junk).toArray 44 (0, 0))] := .inr ⟨bL, ucap', junk, rfl, rfl, hxl, hjl', hnc⟩
          have hsg : seg (lesC ls' ++ junk) 0 (ls'.length * 19) = some (lesC ls') := by
            have := seg_of [] (lesC ls') junk
            simpa [hxl] using this
          have v9 := nxV_bd xs k4 (n := (ls'.length : Int)) (by omega)
          obtain ⟨r, hr⟩ := Int.eq_ofNat_of_zero_le v9.1
          have hrl : r < ls'.length := by omega
          obtain ⟨dl, hdl⟩ : ∃ dl, dl = ls'[r] := ⟨_, rfl⟩
          have hdm : dl ∈ ls' := by rw [hdl]; exact List.getElem_mem hrl
          have hdi := (hP'.each _ hdm).ip
          have f1 : seg (lesC ls' ++ junk) (0 + (nxV xs k4 (ls'.length : Int)).toNat * 19) 19 = some (leC dl) := by rw [hdl]; exact seg_el (les_len hP'.le) hsg hrl (by omega)
          have f2 := leC_len hdi.len
          have f3 := le_own hdi.len
          have f4 := le_pf hdi.len
          have s4 := po_all hpi.len n (.slice (some ⟨bL, 0, none⟩) ls'.length ucap')
          have s5 := po_sl hpi.len n (.slice (some ⟨bL, 0, none⟩) ls'.length ucap')
          repeat (first | (with_reducible refine c_seq ?_) | (with_reducible refine l_nil ?_) | (with_reducible refine q_then ?_) | (refine c_true F rfl rfl ?_) | (refine stepD rfl F rfl (o_pickT (F.ev rfl) (F.ev rfl) ?_); clear F; clear a; intro a F))
          replace F := F.only [5, 6, 7, 8] rfl
          replace M : Mem [] W w ([(bt, tobj pt len cap k4)] ++ [(b6, .cells (poC p n (.slice (some ⟨bL, 0, none⟩) ls'.length ucap')).toArray 34 (0, 0)), (bL, .cells (lesC ls' ++ junk).toArray 44 (0, 0))]) := M.perm (List.Perm.swap _ _ _)
          refine c_drawB (l0 := [(bt, tobj pt len cap k4)]) [bt] [6] M 10 F (by kernel_rfl) ?_
          intro w1 M1 hok hef
          have hB : ∀ k ∈ [bt], k ∈ ([(bt, tobj pt len cap k4)] : List (Nat × Obj)).map (·.1) := by simp
          repeat (first | (refine mK hok rfl rfl (fun a' w' F' E' => o_move (F'.ev rfl) ⟨Ext.refl _ _, rfl⟩) ?_) | (refine mK hok rfl rfl (fun a' w' F' E' => o_lenSl (F'.ev rfl) ⟨Ext.refl _ _, rfl⟩) ?_) | (refine mK hok rfl rfl (fun a' w' F' E' => o_fieldAddr (F'.ev rfl) ⟨Ext.refl _ _, rfl⟩) ?_) | (refine mK hok rfl rfl (fun a' w' F' E' => o_load1 (M1.laterBut E' hB) (F'.ev rfl) (by repeat (first | exact .here | apply Has.there)) (by first | assumption | rfl) ⟨Ext.refl _ _, rfl⟩) ?_))
          refine mE (T' := fun _ w => Mem _ _ w ([(bt, tobj pt len cap (nxK xs k4))] ++ _)) hok rfl rfl (fun _ _ _ h k => h.later k) (fun a' w' σ' F' E' T' => o_call (F'.ev rfl) (F'.evs rfl) (Cal.mono (next_c (ls'.length : Int) (by omega) (by omega) _ (hT.later T'.ext.any) (T'.heap .here)) fun _ _ hh => ⟨hh.2.ext, hh.1, Mem.turn1 T' hh.2 .here⟩)) ?_
          repeat (first | (refine mK hok rfl rfl (fun a' w' F' E' => o_indexSl (F'.ev rfl) (F'.ev rfl) (by omega) (by omega) ⟨Ext.refl _ _, rfl⟩) ?_) | (refine mK hok rfl rfl (fun a' w' F' E' => o_loadA (M1.laterBut E' hB) (F'.ev rfl) (by repeat (first | exact .here | apply Has.there)) (by first | assumption | rfl) ⟨Ext.refl _ _, rfl⟩) ?_))
          refine mAl hok rfl rfl (Al.staysBut _ _ (fun k hk => by simp at hk; subst hk; exact M1.lt List.mem_cons_self)) (fun w => Ext.alloc w _) (fun a' w' F' E' => run_al) ?_
          (refine mDone rfl hef ?_; clear F; clear M; intro a w F hE2 hX MT hDD hPP; obtain ⟨b18, e18, g18, q18⟩ := hX 9 _ rfl; replace F := F.know (d := 18) e18; replace g18 : w1.heap.size ≤ b18 := g18)
          have M := Mem.al (pre := [(bt, tobj pt len cap (nxK xs k4))]) MT (M1.sub (List.sublist_cons_self _ _)) q18 g18 (by intro q hq h; simp at hq; subst hq; have h2 := ptrTo_inj h; have h3 := M1.lt (List.mem_cons_self); dsimp only at h3 h2; omega)
          clear M1 hX hE2 hok hef hB hDD hPP MT e18 g18 q18
          dsimp only [ptrTo] at F
          simp only [List.cons_append, List.nil_append] at M
          (refine stepN rfl F (o_storeA M (F.ev rfl) (F.ev rfl) (f2) (le_one _)  (by repeat (first | exact .here | apply Has.there))  (put_all (by rw [f2]; rfl)) (by repeat (first | exact .here | apply Upd.there)) ?_); clear F; clear M; intro w M a F)
          repeat (first | (with_reducible refine c_seq ?_) | (with_reducible refine c_region ?_) | (with_reducible refine l_nil ?_) | (with_reducible refine q_then ?_) | (refine stepD rfl F rfl (o_fieldAddr (F.ev rfl) ?_); clear F; clear a; intro a F) | (refine stepD rfl F rfl (o_load1 M (F.ev rfl) (by repeat (first | exact .here | apply Has.there)) (by first | assumption | rfl) ?_); clear F; clear a; intro a F) | (refine stepD rfl F rfl (o_loadA M (F.ev rfl) (by repeat (first | exact .here | apply Has.there)) (by first | assumption | rfl) ?_); clear F; clear a; intro a F))
          (refine stepD rfl F rfl (o_call (F.ev rfl) (F.evs rfl) (Cal.mono (release_c p n ls' hP' _ w (hOr.slAt M (fun x hx => by simp at hx; subst hx; simp)) dl hdm) ?_)); clear F; clear a; rintro _ w ⟨v3, ent3, rfl, hO3, N3⟩ a F; replace M := (M.joins N3).perm List.perm_append_comm)
          simp only [List.cons_append, List.nil_append] at M
          obtain ⟨q3, cap3, rfl⟩ := hO3.slice
          have s6 := poC_len hpi.len n (.slice q3 (ls'.filter (other dl.own dl.ip dl.bits)).length cap3)
          repeat (first | (refine stepD rfl F rfl (o_move (F.ev rfl) ?_); clear F; clear a; intro a F) | (refine stepD rfl F rfl (o_extract (F.ev rfl) rfl ?_); clear F; clear a; intro a F))
          (refine stepN rfl F (o_storeA M (F.ev rfl) (F.ev rfl) (s6) (po_one _ _ _ _ _)  (by repeat (first | exact .here | apply Has.there))  (put_all (by rw [s6, poC_len hpi.len])) (by repeat (first | exact .here | apply Upd.there)) ?_); clear F; clear M; intro w M a F)
          repeat (first | (with_reducible refine c_seq ?_) | (with_reducible refine c_region ?_) | (with_reducible refine l_nil ?_) | (with_reducible refine q_then ?_) | (with_reducible refine c_skip ?_) | (refine c_false F rfl rfl ?_) | (refine stepD rfl F rfl (o_move (F.ev rfl) ?_); clear F; clear a; intro a F) | (refine stepD rfl F rfl (o_assign (F.ev rfl) ?_); clear F; clear a; intro a F) | (refine stepD rfl F rfl (o_neqF (F.ev rfl) (F.ev rfl) (by omega) ?_); clear F; clear a; intro a F))
          replace M : Mem [] W w ((b6, .cells (poC p n (.slice q3 (ls'.filter (other dl.own dl.ip dl.bits)).length cap3)).toArray 34 (0, 0)) :: (bt, tobj pt len cap (nxK xs k4)) :: ent3) := (M.sub (.cons _ (.cons_cons _ (.cons_cons _ (.cons _ (.refl _)))))).perm (List.Perm.swap _ _ _)
          (refine stepD rfl F rfl (o_call (F.ev rfl) (F.evs rfl) (Cal.mono (nextE_c 6 (by omega) (by omega) _ (hT.later M.ext.any) (M.heap (.there .here)) ) ?_)); clear F; clear a; have M0 := M; clear M; rintro _ w ⟨x9, k9, rfl, hx9, N⟩ a F)
          replace M := M0.turn1 N (.there .here)
          repeat (first | (with_reducible refine c_region ?_) | (with_reducible refine l_nil ?_) | (with_reducible refine q_then ?_) | (with_reducible refine q_inB ?_) | (refine stepD rfl F rfl (o_move (F.ev rfl) ?_); clear F; clear a; intro a F) | (refine stepD rfl F rfl (o_assign (F.ev rfl) ?_); clear F; clear a; intro a F) | (refine stepD rfl F rfl (o_add (F.ev rfl) (F.ev rfl) (w_i64 (by omega) (by omega)) ?_); clear F; clear a; intro a F))
          exact ⟨_, by omega, i + 1, now + x9, _, _, ent3, k9, rfl, by omega, by omega, hP'.filter _, hO3, F.only [8, 7, 5, 6] rfl, M⟩
      · rw [decide_eq_false (show ¬ (0 : Int) < ls'.length by omega)] at F
        repeat (first | (with_reducible refine c_region ?_) | (with_reducible refine l_nil ?_) | (with_reducible refine q_then ?_) | (with_reducible refine c_skip ?_) | (refine c_false F rfl rfl ?_) | (refine stepD rfl F rfl (o_move (F.ev rfl) ?_); clear F; clear a; intro a F) | (refine stepD rfl F rfl (o_pickF (F.ev rfl) (F.ev rfl) ?_); clear F; clear a; intro a F) | (refine stepOff F rfl rfl rfl rfl ?_; clear F; clear a; intro a F))
        (refine stepD rfl F rfl (o_call (F.ev rfl) (F.evs rfl) (Cal.mono (nextE_c 6 (by omega) (by omega) _ (hT.later M.ext.any) (M.heap (.there .here)) ) ?_)); clear F; clear a; have M0 := M; clear M; rintro _ w ⟨x9, k9, rfl, hx9, N⟩ a F)
        replace M := M0.turn1 N (.there .here)
        repeat (first | (with_reducible refine c_region ?_) | (with_reducible refine l_nil ?_) | (with_reducible refine q_then ?_) | (with_reducible refine q_inB ?_) | (refine stepD rfl F rfl (o_move (F.ev rfl) ?_); clear F; clear a; intro a F) | (refine stepD rfl F rfl (o_assign (F.ev rfl) ?_); clear F; clear a; intro a F) | (refine stepD rfl F rfl (o_add (F.ev rfl) (F.ev rfl) (w_i64 (by omega) (by omega)) ?_); clear F; clear a; intro a F))
        exact ⟨_, by omega, i + 1, now + x9, ls', _, ent', k9, rfl, by omega, by omega, hP', hO', F.only [8, 7, 5, 6] rfl, M⟩
  · obtain rfl : i = 24 := by omega
    with_reducible refine c_seq ?_
    with_reducible refine c_seq ?_
    with_reducible refine c_region ?_
    refine stepD rfl F rfl (o_move (F.ev rfl) ?_); clear F; clear a; intro a F
    refine stepD rfl F rfl (o_lssF (F.ev rfl) (F.ev rfl) (by omega) ?_); clear F; clear a; intro a F
    with_reducible refine l_nil ?_
    with_reducible refine q_then ?_
    refine c_false F rfl rfl ?_
    with_reducible refine c_exit ?_
    with_reducible refine q_thenX ?_
    with_reducible refine q_thenX ?_
    with_reducible refine q_inBX ?_
    with_reducible refine q_then ?_
    with_reducible refine c_seq ?_
    with_reducible refine c_region ?_
    (refine stepD rfl F rfl (o_call (F.ev rfl) (F.evs rfl) (Cal.mono (known_c _) ?_)); clear F; clear a; rintro _ w ⟨rfl, hE⟩ a F; replace M := M.later hE; clear hE)
    refine stepD rfl F rfl (o_assign (F.ev rfl) ?_); clear F; clear a; intro a F
    with_reducible refine l_nil ?_
    with_reducible refine q_then ?_
    with_reducible refine c_ret ?_
    refine p_ret F rfl (.cons (.tmp (F.ev rfl)) .nil) ?_
    exact ⟨rfl, M.ext⟩
end Go.Proofs.Ytainnefmobfcjaa

namespace Go.Proofs.Ytainnefmobfcjaa
set_option linter.unusedVariables false
set_option linter.unusedSimpArgs false
open Go.ChangeShapes Go.WideShapes Go.ChangeAt Go.RowKit

set_option maxRecDepth 100000 in
theorem borderDisjoint_contract (H : Type) (enc : TypeId × Value → H) (W : World) (base : Nat) (args : Array Value) (ds gs : List (DataW H)) (before : List MemPlace)
    (hval : ∀ (j : Nat) t v, Try.f3.params[j]? = some t → args[j]? = some v → Value.okWide Try.prog W .any base t v)
    (hW : DataW.Whole enc Try.prog Try.f3.params.toList Rows.borderDisjointSpec.vars false W args.toList ds gs before) (hL : laidMetH Try.prog seatLaid W) (hS : W.ShapedOpen Try.prog) :
    Calls Try.prog 3 args W fun e W' => ∃ v, e = .returned v ∧ Rows.borderDisjointSpec.post enc Try.prog Try.f3 false true false false W args v W' := by
  have hW' := hW
  obtain ⟨p, q, hA0, hV, rfl, hfz, hnd⟩ := hW
  have hA : DataW.TrodAll enc Try.prog W 0 (fun _ => true) true Try.f3.params.toList args.toList ds p := hA0
  rw [Try.params3] at hA hval
  obtain ⟨v0, vs0, d0, ds0, p0, q0, hargs, rfl, rfl, h0, r0⟩ := trodAll_cons hA
  obtain ⟨v1, vs1, d1, ds1, p1, q1, rfl, rfl, rfl, h1, r1⟩ := trodAll_cons r0
  obtain ⟨rfl, rfl, rfl⟩ := trodAll_nil r1
  obtain rfl : args = #[v0, v1] := by cases args; simp_all
  obtain ⟨l0, q0p, cap0, rfl, hc0, hx0⟩ := open_il (hval 0 _ v0 rfl rfl) h0
  obtain ⟨x1, rfl, rfl, rfl, w1⟩ := open_int Try.underlying3 (hval 1 _ v1 rfl rfl) h1; have hx1 := int_bd w1
  refine ((disjoint_c q0p cap0 l0 x1 W hx0 hc0).calls).mono ?_
  rintro e W' ⟨v, rfl, rfl, hE⟩
  exact ⟨_, rfl, law_post (tb := 4) laidOut (by kernel_rfl) rfl (by kernel_rfl) Try.underlying4 (fun xs hx => by rw [Try.params3] at hx; match xs, hx with | [_, _], _ => rfl) hW' hE⟩

set_option maxRecDepth 100000 in
theorem borderDisjoint_lifted (os : Os) (started : os.Started) (H : Type) (enc : TypeId × Value → H) (F : Stop.Interp) :
    ReturnsInHanded {} Try.checked os 3 .any ((OpenSpec.ofChange Rows.borderDisjointSpec).preRow enc Try.prog Try.f3 Rows.borderDisjointRow.domain false Rows.borderDisjointRow.laid) (((OpenSpec.ofChange Rows.borderDisjointSpec).at F).post enc Try.prog Try.f3 false true false false) := by
  have hx : ∃ places ds, DataW.whole enc Try.prog ((laidWorld os).forCall (fun _ _ => 0) ⟨#[], #[.slice none 0 0, .int .i64 0], []⟩).memory Try.f3.params.toList Rows.borderDisjointSpec.vars false #[Value.slice none 0 0, .int .i64 0].toList 8 = some (ds, [], places) ∧ ds = [.nil, .lit (.int .i64 0)] := ⟨[], [.nil, .lit (.int .i64 0)], by kernel_rfl, rfl⟩
  obtain ⟨places, ds, hx, rfl⟩ := hx
  refine returnsInHanded_of_row (C := Try.checked) (s := OpenSpec.ofChange Rows.borderDisjointSpec) own started (by kernel_rfl) Try.func3
    (witness_row_at (enc := enc) (C := Try.checked) false (laidWorld os) #[.slice none 0 0, .int .i64 0] rfl (by kernel_rfl) (by kernel_rfl) (by kernel_rfl)
      (OpenSpec.preRow_of_cond 8 hx (by kernel_rfl) (fun k hk => by cases hk) (by kernel_rfl) (laid_met os _))) ?_
  intro W base args ds gs before hval hW _ hcond _ hL hS _
  exact borderDisjoint_contract H enc W base args ds gs before hval hW hL hS

theorem borderDisjoint_said : Rows.BorderDisjointSaid :=
  OpenClaim.holds_of_cond 3 Try.f3 rfl rfl rfl rfl rfl rfl rfl ⟨rfl, rfl, rfl, rfl, rfl⟩ rfl rfl rfl rfl rfl (by kernel_rfl) Try.func3 (by kernel_rfl)
    (of_decide_eq_true (by kernel_rfl)) (by unfold Func.isWrapper; first | (rw [if_pos (by decide +kernel)]; kernel_rfl) | (rw [if_neg (by decide +kernel)]; exact ⟨rfl, rfl⟩))
    (fun os started H enc _ F => by rw [OpenClaim.pre_eq_preRow]; exact borderDisjoint_lifted os started H enc F)

#print axioms borderDisjoint_said
end Go.Proofs.Ytainnefmobfcjaa

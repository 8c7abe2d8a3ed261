/-
  The walk of AddressOrder: it answers true.
-/
import Derived.Test.YtadnpidadcgdcaaDoorB2
import Derived.Test.YtadnpidadcgdcaaDoorP9
namespace Go.Proofs.YtadnpidadcgdcaaDoor
set_option linter.unusedVariables false
set_option linter.unusedSimpArgs false
open Go.RowKit
attribute [local irreducible] OpTo wpListIn Code.wpIn MW Cal

def adZ : List Value := [.int .i64 0, .int .u16 0, .int .u64 0]
def adB (x : Int × Int × Int) : List Value := adC x.1 x.2.1 x.2.2
def cmpL (x y : Int × Int × Int) : Int := compareA x.1 x.2.1 x.2.2 y.1 y.2.1 y.2.2
theorem one_ad (x : Int × Int × Int) : (adB x).all (·.oneCell') = true := rfl
theorem put_ad (x : Int × Int × Int) : put adZ 0 (adB x) = some (adB x) := rfl

set_option maxHeartbeats 2000000 in
theorem order_c (x y z : Int × Int × Int) (p : Option Addr) (cap : Nat) (xs : List Int) (W : World) (hI : IntsAt W (.slice p xs.length cap) xs) (hcap : xs.length ≤ cap) (hM : GM W) (hG : GT W) :
    Cal Tryd.prog 5 [.agg (adB x).toArray, .agg (adB y).toArray, .agg (adB z).toArray, .slice p xs.length cap].toArray W fun v w' => v = .bool true ∧ Ext [] W w' := by
  have hmem : 0 < xs.length → ∃ b o cs t fz, p = some ⟨b, o, none⟩ ∧ W.heap[b]? = some (.cells cs t fz) ∧ seg cs.toList o xs.length = some (i64C xs) := fun hl => by
    obtain ⟨p', cap', h1, _, h3⟩ := hI.ex
    cases h1
    exact h3 hl
  refine fn_ofM (n := 97) [] Tryd.func5 rfl rfl rfl ?_
  intro a w F M hwW
  refine c_seq ?_
  refine c_region ?_
  (refine stepD rfl F rfl (o_box M (F.ev rfl) rfl ?_); clear F; clear M; intro b4 w M a F)
  (refine stepD rfl F rfl (o_box M (F.ev rfl) rfl ?_); clear F; clear M; intro b5 w M a F)
  (refine stepD rfl F rfl (o_box M (F.ev rfl) rfl ?_); clear F; clear M; intro b6 w M a F)
  refine stepD rfl F rfl (o_assign (F.ev rfl) ?_); clear F; clear a; intro a F
  with_reducible refine l_nil ?_
  with_reducible refine q_then ?_
  with_reducible refine c_seq ?_
  with_reducible refine c_region ?_
  refine stepD rfl F rfl (o_move (F.ev rfl) ?_); clear F; clear a; intro a F
  (refine stepD rfl F rfl (o_call (F.ev rfl) (F.evs rfl) (Cal.mono (new_c xs _ (hI.later M.ext) hcap ) ?_)); clear F; clear a; rintro _ w ⟨bt, rfl, N⟩ a F; replace M := M.joins N; clear N)
  have hT : TapeS W bt p (cut400 xs).length (cut400 xs) := tape_new (Ext.refl [] W) ((M.own (bt, tobj p (cut400 xs).length cap 0) (by simp)).resolve_left (by simp)) hI.bd hmem
  generalize hys : cut400 xs = ys at *
  clear hys
  simp only [List.cons_append, List.nil_append] at M
  refine stepD rfl F rfl (o_assign (F.ev rfl) ?_); clear F; clear a; intro a F
  with_reducible refine l_nil ?_
  with_reducible refine q_then ?_
  with_reducible refine c_seq ?_
  replace F := F.only [4, 5, 6, 9] rfl
  have f1 : seg (adB x) 0 3 = some (adB x) := rfl
  have f2 : seg (adB y) 0 3 = some (adB y) := rfl
  have f3 : seg (adB z) 0 3 = some (adB z) := rfl
  refine c_drawB (l0 := [(bt, tobj p ys.length cap 0)]) [bt] [4, 6, 8] M 9 F (by kernel_rfl) ?_
  intro w1 M1 hok hef
  have hB : ∀ k ∈ [bt], k ∈ ([(bt, tobj p ys.length cap 0)] : List (Nat × Obj)).map (·.1) := by simp
  refine mK hok rfl rfl (fun a' w' F' E' => o_loadA (M1.laterBut E' hB) (F'.ev rfl) (by repeat (first | exact .here | apply Has.there)) (by first | assumption | rfl) ⟨Ext.refl _ _, rfl⟩) ?_
  refine mK hok rfl rfl (fun a' w' F' E' => o_loadA (M1.laterBut E' hB) (F'.ev rfl) (by repeat (first | exact .here | apply Has.there)) (by first | assumption | rfl) ⟨Ext.refl _ _, rfl⟩) ?_
  refine mK hok rfl rfl (fun a' w' F' E' => o_loadA (M1.laterBut E' hB) (F'.ev rfl) (by repeat (first | exact .here | apply Has.there)) (by first | assumption | rfl) ⟨Ext.refl _ _, rfl⟩) ?_
  refine mK hok rfl rfl (fun a' w' F' E' => o_move (F'.ev rfl) ⟨Ext.refl _ _, rfl⟩) ?_
  refine mE (T' := fun _ w => Mem _ _ w ([(bt, tobj p ys.length cap (addK ys 0))] ++ _)) hok rfl rfl (fun _ _ _ h k => h.later k) (fun a' w' σ' F' E' T' => o_call (F'.ev rfl) (F'.evs rfl) (Cal.mono (addr_c _ (hT.later T'.ext.any) (T'.heap .here)) fun _ _ hh => ⟨hh.2.ext, hh.1, Mem.turn1 T' hh.2 .here⟩)) ?_
  refine mK hok rfl rfl (fun a' w' F' E' => o_move (F'.ev rfl) ⟨Ext.refl _ _, rfl⟩) ?_
  refine mE (T' := fun _ w => Mem _ _ w ([(bt, tobj p ys.length cap (addK ys (addK ys 0)))] ++ _)) hok rfl rfl (fun _ _ _ h k => h.later k) (fun a' w' σ' F' E' T' => o_call (F'.ev rfl) (F'.evs rfl) (Cal.mono (addr_c _ (hT.later T'.ext.any) (T'.heap .here)) fun _ _ hh => ⟨hh.2.ext, hh.1, Mem.turn1 T' hh.2 .here⟩)) ?_
  refine mK hok rfl rfl (fun a' w' F' E' => o_move (F'.ev rfl) ⟨Ext.refl _ _, rfl⟩) ?_
  refine mE (T' := fun _ w => Mem _ _ w ([(bt, tobj p ys.length cap (addK ys (addK ys (addK ys 0))))] ++ _)) hok rfl rfl (fun _ _ _ h k => h.later k) (fun a' w' σ' F' E' T' => o_call (F'.ev rfl) (F'.evs rfl) (Cal.mono (addr_c _ (hT.later T'.ext.any) (T'.heap .here)) fun _ _ hh => ⟨hh.2.ext, hh.1, Mem.turn1 T' hh.2 .here⟩)) ?_
  (refine mDone rfl hef ?_; clear F; clear M; intro a w F hE2 hX M hDD hPP; clear M1; clear hX; clear hE2; clear hok; clear hef; clear hB; clear hDD; clear hPP; (try dsimp only at F); (try simp only [List.cons_append, List.nil_append] at M))
  unfold adB adC at F
  (refine stepD rfl F rfl (o_buildSlice F M rfl rfl rfl rfl ?_); clear F; clear M; intro b30 w M a F)
  refine stepD rfl F rfl (o_assign (F.ev rfl) ?_); clear F; clear a; intro a F
  with_reducible refine l_nil ?_
  with_reducible refine q_then ?_
  with_reducible refine c_seq ?_
  with_reducible refine c_seq ?_
  with_reducible refine c_region ?_
  refine stepD rfl F rfl (o_assign (F.ev rfl) ?_); clear F; clear a; intro a F
  with_reducible refine l_nil ?_
  with_reducible refine q_then ?_
  with_reducible refine c_block ?_
  obtain ⟨L, hL⟩ : ∃ L : List (Int × Int × Int), L = [x, y, z, (addM ys 0, addS ys 0, addE ys 0), (addM ys (addK ys 0), addS ys (addK ys 0), addE ys (addK ys 0)), (addM ys (addK ys (addK ys 0)), addS ys (addK ys (addK ys 0)), addE ys (addK ys (addK ys 0)))] := ⟨_, rfl⟩
  have hLl : L.length = 6 := by rw [hL]; rfl
  replace M : Mem [] W w [(b30, .cells (adsC L).toArray 47 (0, 0))] := by
    rw [hL]
    exact M.sub (List.Sublist.cons_cons _ (List.nil_sublist _))
  clear hL f1 f2 f3 hT
  refine c_loop (fun k a w => ∃ i : Nat, k = 4 - i ∧ i ≤ 4 ∧ Frm a 97 [] [(11, .int .i64 i), (10, .slice (some ⟨b30, 0, none⟩) 6 6)] ∧ Mem [] W w [(b30, .cells (adsC L).toArray 47 (0, 0))]) 4 ⟨0, rfl, by omega, F.only [11, 10] rfl, M⟩ ?_
  clear F M
  rintro k a w ⟨i, hk, hi, F, M⟩
  by_cases hlt : i < 4
  · obtain ⟨a0, ha0⟩ : ∃ a0, a0 = L.getD i (0, 0, 0) := ⟨_, rfl⟩
    obtain ⟨b0, hb0⟩ : ∃ b0, b0 = L.getD (i + 1) (0, 0, 0) := ⟨_, rfl⟩
    obtain ⟨c0, hc0⟩ : ∃ c0, c0 = L.getD (i + 2) (0, 0, 0) := ⟨_, rfl⟩
    have e1 : seg (adsC L) (0 + (i : Int).toNat * 3) 3 = some (adB a0) := by rw [show 0 + (i : Int).toNat * 3 = i * 3 by omega, ha0]; exact seg_ads L i (by omega)
    have e2 : seg (adsC L) (0 + ((i : Int) + 1).toNat * 3) 3 = some (adB b0) := by rw [show 0 + ((i : Int) + 1).toNat * 3 = (i + 1) * 3 by omega, hb0]; exact seg_ads L (i + 1) (by omega)
    have e3 : seg (adsC L) (0 + ((i : Int) + 2).toNat * 3) 3 = some (adB c0) := by rw [show 0 + ((i : Int) + 2).toNat * 3 = (i + 2) * 3 by omega, hc0]; exact seg_ads L (i + 2) (by omega)
    clear ha0 hb0 hc0
    with_reducible refine c_seq ?_
    with_reducible refine c_seq ?_
    with_reducible refine c_region ?_
    refine stepD rfl F rfl (o_move (F.ev rfl) ?_); clear F; clear a; intro a F
    refine stepD rfl F rfl (o_add (F.ev rfl) (F.ev rfl) (w_i64 (by omega) (by omega)) ?_); clear F; clear a; intro a F
    refine stepD rfl F rfl (o_move (F.ev rfl) ?_); clear F; clear a; intro a F
    refine stepD rfl F rfl (o_lenSl (F.ev rfl) ?_); clear F; clear a; intro a F
    refine stepD rfl F rfl (o_lssT (F.ev rfl) (F.ev rfl) (by omega) ?_); clear F; clear a; intro a F
    with_reducible refine l_nil ?_
    with_reducible refine q_then ?_
    refine c_true F rfl rfl ?_
    with_reducible refine c_skip ?_
    with_reducible refine q_then ?_
    with_reducible refine c_seq ?_
    with_reducible refine c_block ?_
    with_reducible refine c_seq ?_
    replace F := F.only [11, 10] rfl
    refine c_drawP [⟨14, 17, .cells adZ.toArray 47 (0, 0), .cells (adB a0).toArray 47 (0, 0)⟩, ⟨15, 18, .cells adZ.toArray 47 (0, 0), .cells (adB b0).toArray 47 (0, 0)⟩, ⟨16, 99999, .cells adZ.toArray 47 (0, 0), .cells adZ.toArray 47 (0, 0)⟩] 19 F (by kernel_rfl) (by kernel_rfl) ?_
    intro w1 hE hsz hok
    have M1 := M.later hE
    refine mK hok rfl rfl (fun a' w' F' E' => o_move (F'.ev rfl) ⟨Ext.refl _ _, rfl⟩) ?_
    refine mK hok rfl rfl (fun a' w' F' E' => o_move (F'.ev rfl) ⟨Ext.refl _ _, rfl⟩) ?_
    refine mK hok rfl rfl (fun a' w' F' E' => o_indexSl (F'.ev rfl) (F'.ev rfl) (by omega) (by omega) ⟨Ext.refl _ _, rfl⟩) ?_
    refine mK hok rfl rfl (fun a' w' F' E' => o_loadA (M1.laterOld E' (Nat.le_of_eq hsz)) (F'.ev rfl) (by repeat (first | exact .here | apply Has.there)) (by first | assumption | rfl) ⟨Ext.refl _ _, rfl⟩) ?_
    refine mK hok rfl rfl (fun a' w' F' E' => o_move (F'.ev rfl) ⟨Ext.refl _ _, rfl⟩) ?_
    refine mK hok rfl rfl (fun a' w' F' E' => o_move (F'.ev rfl) ⟨Ext.refl _ _, rfl⟩) ?_
    refine mK hok rfl rfl (fun a' w' F' E' => o_add (F'.ev rfl) (F'.ev rfl) (w_i64 (by omega) (by omega)) ⟨Ext.refl _ _, rfl⟩) ?_
    refine mK hok rfl rfl (fun a' w' F' E' => o_indexSl (F'.ev rfl) (F'.ev rfl) (by omega) (by omega) ⟨Ext.refl _ _, rfl⟩) ?_
    refine mK hok rfl rfl (fun a' w' F' E' => o_loadA (M1.laterOld E' (Nat.le_of_eq hsz)) (F'.ev rfl) (by repeat (first | exact .here | apply Has.there)) (by first | assumption | rfl) ⟨Ext.refl _ _, rfl⟩) ?_
    refine mK hok rfl rfl (fun a' w' F' E' => o_move (F'.ev rfl) ⟨Ext.refl _ _, rfl⟩) ?_
    refine mK hok rfl rfl (fun a' w' F' E' => o_move (F'.ev rfl) ⟨Ext.refl _ _, rfl⟩) ?_
    refine mK hok rfl rfl (fun a' w' F' E' => o_add (F'.ev rfl) (F'.ev rfl) (w_i64 (by omega) (by omega)) ⟨Ext.refl _ _, rfl⟩) ?_
    refine mK hok rfl rfl (fun a' w' F' E' => o_indexSl (F'.ev rfl) (F'.ev rfl) (by omega) (by omega) ⟨Ext.refl _ _, rfl⟩) ?_
    refine mK hok rfl rfl (fun a' w' F' E' => o_loadA (M1.laterOld E' (Nat.le_of_eq hsz)) (F'.ev rfl) (by repeat (first | exact .here | apply Has.there)) (by first | assumption | rfl) ⟨Ext.refl _ _, rfl⟩) ?_
    refine mAlP hok rfl (by intro q hq hj; rcases List.mem_cons.1 hq with rfl | hq; { first | rfl | exact absurd hj (Nat.ne_of_beq_eq_false rfl) }; rcases List.mem_cons.1 hq with rfl | hq; { first | rfl | exact absurd hj (Nat.ne_of_beq_eq_false rfl) }; rcases List.mem_cons.1 hq with rfl | hq; { first | rfl | exact absurd hj (Nat.ne_of_beq_eq_false rfl) }; cases hq) (fun w => Ext.alloc w _) (fun a' w' F' E' => run_al) ?_
    refine mAlP hok rfl (by intro q hq hj; rcases List.mem_cons.1 hq with rfl | hq; { first | rfl | exact absurd hj (Nat.ne_of_beq_eq_false rfl) }; rcases List.mem_cons.1 hq with rfl | hq; { first | rfl | exact absurd hj (Nat.ne_of_beq_eq_false rfl) }; rcases List.mem_cons.1 hq with rfl | hq; { first | rfl | exact absurd hj (Nat.ne_of_beq_eq_false rfl) }; cases hq) (fun w => Ext.alloc w _) (fun a' w' F' E' => run_al) ?_
    refine mAlP hok rfl (by intro q hq hj; rcases List.mem_cons.1 hq with rfl | hq; { first | rfl | exact absurd hj (Nat.ne_of_beq_eq_false rfl) }; rcases List.mem_cons.1 hq with rfl | hq; { first | rfl | exact absurd hj (Nat.ne_of_beq_eq_false rfl) }; rcases List.mem_cons.1 hq with rfl | hq; { first | rfl | exact absurd hj (Nat.ne_of_beq_eq_false rfl) }; cases hq) (fun w => Ext.alloc w _) (fun a' w' F' E' => run_al) ?_
    refine mStP ⟨14, 17, .cells adZ.toArray 47 (0, 0), .cells (adB a0).toArray 47 (0, 0)⟩ hok rfl (.head _) rfl (by intro q hq hj; rcases List.mem_cons.1 hq with rfl | hq; { first | rfl | exact absurd hj (Nat.ne_of_beq_eq_false rfl) }; rcases List.mem_cons.1 hq with rfl | hq; { first | rfl | exact absurd hj (Nat.ne_of_beq_eq_false rfl) }; rcases List.mem_cons.1 hq with rfl | hq; { first | rfl | exact absurd hj (Nat.ne_of_beq_eq_false rfl) }; cases hq) (fun _ _ b' hb' h => ⟨h.os, h.tape, h.output, h.size, fun k hk hks => h.block k hks (by simp only [List.mem_singleton]; (try dsimp only at hb'); omega)⟩) (fun a' w' b' F' E' hp hh => o_storeP hp (F'.ev rfl) rfl (one_ad _) hh (put_ad _)) ?_
    refine mStP ⟨15, 18, .cells adZ.toArray 47 (0, 0), .cells (adB b0).toArray 47 (0, 0)⟩ hok rfl (.tail _ (.head _)) rfl (by intro q hq hj; rcases List.mem_cons.1 hq with rfl | hq; { first | rfl | exact absurd hj (Nat.ne_of_beq_eq_false rfl) }; rcases List.mem_cons.1 hq with rfl | hq; { first | rfl | exact absurd hj (Nat.ne_of_beq_eq_false rfl) }; rcases List.mem_cons.1 hq with rfl | hq; { first | rfl | exact absurd hj (Nat.ne_of_beq_eq_false rfl) }; cases hq) (fun _ _ b' hb' h => ⟨h.os, h.tape, h.output, h.size, fun k hk hks => h.block k hks (by simp only [List.mem_singleton]; (try dsimp only at hb'); omega)⟩) (fun a' w' b' F' E' hp hh => o_storeP hp (F'.ev rfl) rfl (one_ad _) hh (put_ad _)) ?_
    (refine mDone rfl rfl ?_; clear F; clear M; intro a w F hE2 hX hTT hDD hPP; have M := M1.laterOld hE2 (Nat.le_of_eq hsz); (try dsimp only at F); obtain ⟨b12, e_b12, g_b12, q_b12⟩ := hPP ⟨14, 17, .cells adZ.toArray 47 (0, 0), .cells (adB a0).toArray 47 (0, 0)⟩ (.head _); replace F := F.know (d := 12) e_b12; replace q_b12 := q_b12.trans (congrArg some (if_pos (Nat.le_of_ble_eq_true rfl))); replace M := Mem.al (pre := []) M M1 q_b12 g_b12 (by intro p hp; cases hp); obtain ⟨b13, e_b13, g_b13, q_b13⟩ := hPP ⟨15, 18, .cells adZ.toArray 47 (0, 0), .cells (adB b0).toArray 47 (0, 0)⟩ (.tail _ (.head _)); replace F := F.know (d := 13) e_b13; replace q_b13 := q_b13.trans (congrArg some (if_pos (Nat.le_of_ble_eq_true rfl))); replace M := Mem.al (pre := [(b12, _)]) M M1 q_b13 g_b13 (by intro p hp; rcases List.mem_cons.1 hp with rfl | hp; { exact fun h => hDD 14 15 _ _ (Nat.le_of_ble_eq_true rfl) (Nat.le_of_ble_eq_true rfl) (by decide) rfl rfl rfl rfl (e_b12.trans (h.trans e_b13.symm)) }; cases hp); obtain ⟨b14, e_b14, g_b14, q_b14⟩ := hPP ⟨16, 99999, .cells adZ.toArray 47 (0, 0), .cells adZ.toArray 47 (0, 0)⟩ (.tail _ (.tail _ (.head _))); replace F := F.know (d := 14) e_b14; replace q_b14 := q_b14.trans (congrArg some (if_neg (Nat.not_lt_of_le (Nat.le_of_ble_eq_true rfl)))); replace M := Mem.al (pre := [(b13, _), (b12, _)]) M M1 q_b14 g_b14 (by intro p hp; rcases List.mem_cons.1 hp with rfl | hp; { exact fun h => hDD 15 16 _ _ (Nat.le_of_ble_eq_true rfl) (Nat.le_of_ble_eq_true rfl) (by decide) rfl rfl rfl rfl (e_b13.trans (h.trans e_b14.symm)) }; rcases List.mem_cons.1 hp with rfl | hp; { exact fun h => hDD 14 16 _ _ (Nat.le_of_ble_eq_true rfl) (Nat.le_of_ble_eq_true rfl) (by decide) rfl rfl rfl rfl (e_b12.trans (h.trans e_b14.symm)) }; cases hp); clear M1; clear hX; clear hE2; clear hok; clear hE; clear hTT; clear hDD; clear hPP; clear hsz; clear e_b12; clear g_b12; clear q_b12; clear e_b13; clear g_b13; clear q_b13; clear e_b14; clear g_b14; clear q_b14; (try dsimp only [ptrTo] at F); (try simp only [List.cons_append, List.nil_append] at M))
    (refine stepN rfl F (o_storeA M (F.ev rfl) (F.ev rfl) (rfl) (one_ad _)  (by repeat (first | exact .here | apply Has.there))  (put_ad _) (by repeat (first | exact .here | apply Upd.there)) ?_); clear F; clear M; intro w M a F)
    with_reducible refine l_nil ?_
    with_reducible refine q_then ?_
    with_reducible refine c_seq ?_
    replace F := F.only [11, 10, 12, 13, 14] rfl
    have g1 : seg (adB a0) 0 3 = some (adB a0) := rfl
    have g2 : seg (adB b0) 0 3 = some (adB b0) := rfl
    have g3 : seg (adB c0) 0 3 = some (adB c0) := rfl
    refine c_draw 12 F (by kernel_rfl) ?_
    intro w1 hE hok
    have M1 := M.later hE
    refine mK hok rfl rfl (fun a' w' F' E' => o_loadA (M1.later E') (F'.ev rfl) (by repeat (first | exact .here | apply Has.there)) (by first | assumption | rfl) ⟨Ext.refl _ _, rfl⟩) ?_
    refine mK hok rfl rfl (fun a' w' F' E' => o_loadA (M1.later E') (F'.ev rfl) (by repeat (first | exact .here | apply Has.there)) (by first | assumption | rfl) ⟨Ext.refl _ _, rfl⟩) ?_
    (refine mK hok rfl rfl (fun a' w' F' E' => o_call (F'.ev rfl) (F'.evs rfl) (Cal.mono (Cal.to (compare_c a0.1 a0.2.1 a0.2.2 b0.1 b0.2.1 b0.2.2 _) (rfl : _ = Value.int .i64 (cmpL a0 b0))) fun _ _ hh => ⟨hh.2, hh.1⟩)) ?_)
    refine mK hok rfl rfl (fun a' w' F' E' => o_loadA (M1.later E') (F'.ev rfl) (by repeat (first | exact .here | apply Has.there)) (by first | assumption | rfl) ⟨Ext.refl _ _, rfl⟩) ?_
    refine mK hok rfl rfl (fun a' w' F' E' => o_loadA (M1.later E') (F'.ev rfl) (by repeat (first | exact .here | apply Has.there)) (by first | assumption | rfl) ⟨Ext.refl _ _, rfl⟩) ?_
    (refine mK hok rfl rfl (fun a' w' F' E' => o_call (F'.ev rfl) (F'.evs rfl) (Cal.mono (Cal.to (compare_c b0.1 b0.2.1 b0.2.2 a0.1 a0.2.1 a0.2.2 _) (rfl : _ = Value.int .i64 (cmpL b0 a0))) fun _ _ hh => ⟨hh.2, hh.1⟩)) ?_)
    refine mK hok rfl rfl (fun a' w' F' E' => o_loadA (M1.later E') (F'.ev rfl) (by repeat (first | exact .here | apply Has.there)) (by first | assumption | rfl) ⟨Ext.refl _ _, rfl⟩) ?_
    refine mK hok rfl rfl (fun a' w' F' E' => o_loadA (M1.later E') (F'.ev rfl) (by repeat (first | exact .here | apply Has.there)) (by first | assumption | rfl) ⟨Ext.refl _ _, rfl⟩) ?_
    (refine mK hok rfl rfl (fun a' w' F' E' => o_call (F'.ev rfl) (F'.evs rfl) (Cal.mono (Cal.to (compare_c b0.1 b0.2.1 b0.2.2 c0.1 c0.2.1 c0.2.2 _) (rfl : _ = Value.int .i64 (cmpL b0 c0))) fun _ _ hh => ⟨hh.2, hh.1⟩)) ?_)
    refine mK hok rfl rfl (fun a' w' F' E' => o_loadA (M1.later E') (F'.ev rfl) (by repeat (first | exact .here | apply Has.there)) (by first | assumption | rfl) ⟨Ext.refl _ _, rfl⟩) ?_
    refine mK hok rfl rfl (fun a' w' F' E' => o_loadA (M1.later E') (F'.ev rfl) (by repeat (first | exact .here | apply Has.there)) (by first | assumption | rfl) ⟨Ext.refl _ _, rfl⟩) ?_
    (refine mK hok rfl rfl (fun a' w' F' E' => o_call (F'.ev rfl) (F'.evs rfl) (Cal.mono (Cal.to (compare_c a0.1 a0.2.1 a0.2.2 c0.1 c0.2.1 c0.2.2 _) (rfl : _ = Value.int .i64 (cmpL a0 c0))) fun _ _ hh => ⟨hh.2, hh.1⟩)) ?_)
    (refine mDone rfl rfl ?_; clear F; clear M; intro a w F hE2 hX hTT hDD hPP; have M := M1.later hE2; clear M1; clear hX; clear hE2; clear hok; clear hE; clear hTT; clear hDD; clear hPP; (try dsimp only at F))
    have q1 : cmpL a0 b0 = 0 - cmpL b0 a0 := cmp_anti _ _ _ _ _ _
    have q2 : -1 ≤ cmpL b0 a0 ∧ cmpL b0 a0 ≤ 1 := cmp_bd _ _ _ _ _ _
    have q3 : cmpL a0 b0 ≤ 0 → cmpL b0 c0 ≤ 0 → cmpL a0 c0 ≤ 0 := fun h1 h2 => cmp_trans h1 h2
    have q4 : eqVs (adB a0) (adB b0) = decide (cmpL a0 b0 = 0) := eqVs_ad _ _ _ _ _ _
    generalize cmpL a0 b0 = ab at *
    generalize cmpL b0 a0 = ba at *
    generalize cmpL b0 c0 = bc at *
    generalize cmpL a0 c0 = ac at *
    have hcase : (ab = 0 ∧ bc ≤ 0 ∧ ac ≤ 0 ∧ eqVs (adB a0) (adB b0) = true) ∨ (ab = 0 ∧ 0 < bc ∧ eqVs (adB a0) (adB b0) = true) ∨ (ab < 0 ∧ bc ≤ 0 ∧ ac ≤ 0 ∧ eqVs (adB a0) (adB b0) = false) ∨ (ab < 0 ∧ 0 < bc ∧ eqVs (adB a0) (adB b0) = false) ∨ (0 < ab ∧ eqVs (adB a0) (adB b0) = false) := by
      by_cases h0 : ab = 0
      · rw [decide_eq_true h0] at q4
        by_cases h1 : bc ≤ 0
        · exact .inl ⟨h0, h1, q3 (by omega) h1, q4⟩
        · exact .inr (.inl ⟨h0, by omega, q4⟩)
      · rw [decide_eq_false h0] at q4
        by_cases h2 : ab < 0
        · by_cases h1 : bc ≤ 0
          · exact .inr (.inr (.inl ⟨h2, h1, q3 (by omega) h1, q4⟩))
          · exact .inr (.inr (.inr (.inl ⟨h2, by omega, q4⟩)))
        · exact .inr (.inr (.inr (.inr ⟨by omega, q4⟩)))
    clear q3 q4
    rcases hcase with ⟨h1, h2, h3, h4⟩ | ⟨h1, h2, h4⟩ | ⟨h1, h2, h3, h4⟩ | ⟨h1, h2, h4⟩ | ⟨h1, h4⟩
    all_goals
      repeat (first | (with_reducible refine c_seq ?_) | (with_reducible refine c_region ?_) | (with_reducible refine l_nil ?_) | (with_reducible refine q_then ?_) | (with_reducible refine c_skip ?_) | (with_reducible refine q_inB ?_) | (refine c_false F rfl rfl ?_) | (refine stepD rfl F rfl (o_move (F.ev rfl) ?_); clear F; clear a; intro a F) | (refine stepD rfl F rfl (o_assign (F.ev rfl) ?_); clear F; clear a; intro a F) | (refine stepD rfl F rfl (o_neqF (F.ev rfl) (F.ev rfl) (by omega) ?_); clear F; clear a; intro a F) | (refine stepD rfl F rfl (o_add (F.ev rfl) (F.ev rfl) (w_i64 (by omega) (by omega)) ?_); clear F; clear a; intro a F) | (refine stepD rfl F rfl (o_neg (F.ev rfl) (w_i64 (by omega) (by omega)) ?_); clear F; clear a; intro a F) | (refine stepD rfl F rfl (o_pickF (F.ev rfl) (F.ev rfl) ?_); clear F; clear a; intro a F) | (refine stepOff F rfl rfl rfl rfl ?_; clear F; clear a; intro a F) | (refine stepG rfl F rfl rfl rfl (o_move (F.ev rfl) ?_); clear F; clear a; intro a F) | (refine stepG rfl F rfl rfl rfl (o_lssF (F.ev rfl) (F.ev rfl) (by omega) ?_); clear F; clear a; intro a F) | (refine stepG rfl F rfl rfl rfl (o_leqT (F.ev rfl) (F.ev rfl) (by omega) ?_); clear F; clear a; intro a F) | (refine stepG rfl F rfl rfl rfl (o_leqF (F.ev rfl) (F.ev rfl) (by omega) ?_); clear F; clear a; intro a F) | (refine stepG rfl F rfl rfl rfl (o_gtrF (F.ev rfl) (F.ev rfl) (by omega) ?_); clear F; clear a; intro a F) | (refine stepG rfl F rfl rfl rfl (o_eqlT (F.ev rfl) (F.ev rfl) (by omega) ?_); clear F; clear a; intro a F) | (refine stepG rfl F rfl rfl rfl (o_eqlF (F.ev rfl) (F.ev rfl) (by omega) ?_); clear F; clear a; intro a F) | (refine stepG rfl F rfl rfl rfl (o_eqlAT (F.ev rfl) (F.ev rfl) (by first | assumption | rfl) (by first | assumption | rfl) (by assumption) ?_); clear F; clear a; intro a F) | (refine stepG rfl F rfl rfl rfl (o_eqlAF (F.ev rfl) (F.ev rfl) (by first | assumption | rfl) (by first | assumption | rfl) (by assumption) ?_); clear F; clear a; intro a F) | (refine stepG rfl F rfl rfl rfl (o_neqB (F.ev rfl) (F.ev rfl) ?_); clear F; clear a; intro a F) | (refine stepG rfl F rfl rfl rfl (o_pickT (F.ev rfl) (F.ev rfl) ?_); clear F; clear a; intro a F) | (refine stepG rfl F rfl rfl rfl (o_pickF (F.ev rfl) (F.ev rfl) ?_); clear F; clear a; intro a F) | (refine stepG rfl F rfl rfl rfl (o_loadA M (F.ev rfl) (by repeat (first | exact .here | apply Has.there)) (by first | assumption | rfl) ?_); clear F; clear a; intro a F))
      exact ⟨_, by omega, i + 1, rfl, by omega, F.only [11, 10] rfl, M.sub (by repeat (first | exact List.Sublist.refl _ | apply List.Sublist.cons))⟩
  · obtain rfl : i = 4 := by omega
    with_reducible refine c_seq ?_
    with_reducible refine c_seq ?_
    with_reducible refine c_region ?_
    refine stepD rfl F rfl (o_move (F.ev rfl) ?_); clear F; clear a; intro a F
    refine stepD rfl F rfl (o_add (F.ev rfl) (F.ev rfl) (w_i64 (by omega) (by omega)) ?_); clear F; clear a; intro a F
    refine stepD rfl F rfl (o_move (F.ev rfl) ?_); clear F; clear a; intro a F
    refine stepD rfl F rfl (o_lenSl (F.ev rfl) ?_); clear F; clear a; intro a F
    refine stepD rfl F rfl (o_lssF (F.ev rfl) (F.ev rfl) (by omega) ?_); clear F; clear a; intro a F
    with_reducible refine l_nil ?_
    with_reducible refine q_then ?_
    refine c_false F rfl rfl ?_
    with_reducible refine c_exit ?_
    with_reducible refine q_thenX ?_
    with_reducible refine q_thenX ?_
    with_reducible refine q_inBX ?_
    with_reducible refine q_then ?_
    with_reducible refine c_seq ?_
    with_reducible refine c_region ?_
    (refine stepD rfl F rfl (o_call (F.ev rfl) (F.evs rfl) (Cal.mono (known_c _ (hM.later M.ext) (hG.later M.ext)) ?_)); clear F; clear a; rintro _ w ⟨rfl, hE⟩ a F; replace M := M.later hE; clear hE)
    refine stepD rfl F rfl (o_assign (F.ev rfl) ?_); clear F; clear a; intro a F
    with_reducible refine l_nil ?_
    with_reducible refine q_then ?_
    with_reducible refine c_ret ?_
    refine p_ret F rfl (.cons (.tmp (F.ev rfl)) .nil) ?_
    exact ⟨rfl, M.ext⟩
end Go.Proofs.YtadnpidadcgdcaaDoor

/-
  address.Join, LinkLocal.
-/
import Derived.Test.YtadnpidadcgdcaaDoorA3
namespace Go.Proofs.YtadnpidadcgdcaaDoor
set_option linter.unusedVariables false
set_option linter.unusedSimpArgs false
open Go.RowKit
attribute [local irreducible] OpTo wpListIn Code.wpIn MW Cal

def joinI (p : List Int) (v : Int) : List Int := p.take 8 ++ beB v
def zeroIP : List Int := [0, 0, 0, 0, 0, 0, 0, 0, 0, 0, 0, 0, 0, 0, 0, 0]
def joinP (p : List Int) (n v : Int) : Option (List Int) := if validP p n && decide (n ≤ 64) then some (joinI p v) else none
def optIP (x : Option (List Int)) : Value := .tuple #[.agg (ipC (x.getD zeroIP)).toArray, .bool x.isSome]
theorem beB_len (v : Int) : (beB v).length = 8 := by simp [beB]

set_option maxHeartbeats 1000000 in
theorem join_c (p : List Int) (hp : p.length = 16) (n v : Int) (hv : 0 ≤ v) (W : World) : Cal Tryd.prog 29 [.agg (pfC p n).toArray, .int .u64 v].toArray W fun x w' => x = optIP (joinP p n v) ∧ Ext [] W w' := by
  have e1 := seg_pf hp n
  have e2 := seg_pf0 hp n
  have e3 := nth_pf hp n
  have s2 : seg (ipC (beB v)) 0 (8 * 1) = some (ipC (beB v)) := seg_all (by simp [ipC, beB_len])
  have hput : put (ipC p) (0 + (8 : Int).toNat * 1) (ipC (beB v)) = some (ipC (joinI p v)) := by
    rw [put_of _ _ _ (by simp [ipC, beB_len, hp])]
    have hl : (ipC (beB v)).length = 8 := by simp [ipC, beB_len]
    simp only [splice, hl]
    rw [List.drop_eq_nil_of_le (by simp [ipC, hp])]
    simp [ipC, joinI]
  have s3 : seg (ipC (joinI p v)) 0 16 = some (ipC (joinI p v)) := seg_all (by simp [ipC, joinI, beB_len, hp])
  have hl3 : (ipC (joinI p v)).length = 16 := by simp [ipC, joinI, beB_len, hp]
  cases hvp : validP p n
  · refine fn_ofM (n := 23) [] Tryd.func29 rfl rfl rfl ?_
    intro a w F M hwW
    refine c_seq ?_
    refine c_region ?_
    (refine stepD rfl F rfl (o_box M (F.ev rfl) rfl ?_); clear F; clear M; intro b2 w M a F)
    (refine stepD rfl F rfl (o_alloc M ?_); clear F; clear M; intro b4 w M a F)
    refine stepD rfl F rfl (o_assign (F.ev rfl) ?_); clear F; clear a; intro a F
    with_reducible refine l_nil ?_
    with_reducible refine q_then ?_
    with_reducible refine c_seq ?_
    with_reducible refine c_seq ?_
    with_reducible refine c_region ?_
    refine stepD rfl F rfl (o_loadA M (F.ev rfl) (by repeat (first | exact .here | apply Has.there)) (by first | assumption | rfl) ?_); clear F; clear a; intro a F
    (refine stepD rfl F rfl (o_call (F.ev rfl) (F.evs rfl) (Cal.mono (Cal.to (validPrefix_c p n hp _) (by rw [hvp])) ?_)); clear F; clear a; rintro _ w ⟨rfl, hE⟩ a F; replace M := M.later hE; clear hE)
    refine stepD rfl F rfl (o_not (F.ev rfl) ?_); clear F; clear a; intro a F
    refine stepD rfl F rfl (o_move (F.ev rfl) ?_); clear F; clear a; intro a F
    refine stepOff F rfl rfl rfl rfl ?_; clear F; clear a; intro a F
    refine stepOff F rfl rfl rfl rfl ?_; clear F; clear a; intro a F
    refine stepOff F rfl rfl rfl rfl ?_; clear F; clear a; intro a F
    refine stepD rfl F rfl (o_pickT (F.ev rfl) (F.ev rfl) ?_); clear F; clear a; intro a F
    with_reducible refine l_nil ?_
    with_reducible refine q_then ?_
    refine c_true F rfl rfl ?_
    with_reducible refine c_seq ?_
    with_reducible refine c_region ?_
    refine stepD rfl F rfl (o_build F rfl rfl ?_); clear F; clear a; intro a F
    (refine stepN rfl F (o_storeA M (F.ev rfl) (F.ev rfl) (by rfl) (by rfl) (by repeat (first | exact .here | apply Has.there)) (by rfl) (by repeat (first | exact .here | apply Upd.there)) ?_); clear F; clear M; intro w M a F)
    refine stepD rfl F rfl (o_assign (F.ev rfl) ?_); clear F; clear a; intro a F
    with_reducible refine l_nil ?_
    with_reducible refine q_then ?_
    with_reducible refine c_ret ?_
    with_reducible refine q_thenR ?_
    refine p_ret F rfl (.cons (.cell (F.ev rfl) (run_loadVar_agg TAgg.h (M.heap (by repeat (first | exact .here | apply Has.there))) rfl)) (.cons (.tmp (F.ev rfl)) .nil)) ⟨by simp [joinP, hvp, optIP, oneOr, zeroIP, ipC], M.ext⟩
  · by_cases h64 : n ≤ 64
    · refine fn_ofM (n := 23) [] Tryd.func29 rfl rfl rfl ?_
      intro a w F M hwW
      refine c_seq ?_
      refine c_region ?_
      (refine stepD rfl F rfl (o_box M (F.ev rfl) rfl ?_); clear F; clear M; intro b2 w M a F)
      (refine stepD rfl F rfl (o_alloc M ?_); clear F; clear M; intro b4 w M a F)
      refine stepD rfl F rfl (o_assign (F.ev rfl) ?_); clear F; clear a; intro a F
      with_reducible refine l_nil ?_
      with_reducible refine q_then ?_
      with_reducible refine c_seq ?_
      with_reducible refine c_seq ?_
      with_reducible refine c_region ?_
      refine stepD rfl F rfl (o_loadA M (F.ev rfl) (by repeat (first | exact .here | apply Has.there)) (by first | assumption | rfl) ?_); clear F; clear a; intro a F
      (refine stepD rfl F rfl (o_call (F.ev rfl) (F.evs rfl) (Cal.mono (Cal.to (validPrefix_c p n hp _) (by rw [hvp])) ?_)); clear F; clear a; rintro _ w ⟨rfl, hE⟩ a F; replace M := M.later hE; clear hE)
      refine stepD rfl F rfl (o_not (F.ev rfl) ?_); clear F; clear a; intro a F
      refine stepD rfl F rfl (o_move (F.ev rfl) ?_); clear F; clear a; intro a F
      refine stepG rfl F rfl rfl rfl (o_fieldAddr (F.ev rfl) ?_); clear F; clear a; intro a F
      refine stepG rfl F rfl rfl rfl (o_load1 M (F.ev rfl) (by repeat (first | exact .here | apply Has.there)) (by first | assumption | rfl) ?_); clear F; clear a; intro a F
      refine stepG rfl F rfl rfl rfl (o_gtrF (F.ev rfl) (F.ev rfl) (by omega) ?_); clear F; clear a; intro a F
      refine stepD rfl F rfl (o_pickF (F.ev rfl) (F.ev rfl) ?_); clear F; clear a; intro a F
      with_reducible refine l_nil ?_
      with_reducible refine q_then ?_
      refine c_false F rfl rfl ?_
      with_reducible refine c_skip ?_
      with_reducible refine q_then ?_
      with_reducible refine c_seq ?_
      with_reducible refine c_region ?_
      refine stepD rfl F rfl (o_fieldAddr (F.ev rfl) ?_); clear F; clear a; intro a F
      refine stepD rfl F rfl (o_loadA M (F.ev rfl) (by repeat (first | exact .here | apply Has.there)) (by first | assumption | rfl) ?_); clear F; clear a; intro a F
      (refine stepD rfl F rfl (o_alloc M ?_); clear F; clear M; intro b6 w M a F)
      (refine stepN rfl F (o_storeA M (F.ev rfl) (F.ev rfl) (ipC_len hp) (one_ip _)  (by repeat (first | exact .here | apply Has.there))  (put_all (by rw [ipC_len hp]; rfl)) (by repeat (first | exact .here | apply Upd.there)) ?_); clear F; clear M; intro w M a F)
      with_reducible refine l_nil ?_
      with_reducible refine q_then ?_
      with_reducible refine c_seq ?_
      replace F := F.only [6, 1, 4] rfl
      refine c_draw 3 F (by kernel_rfl) ?_
      intro w1 hE hok
      have M1 := M.later hE
      (refine mK hok rfl rfl (fun a' w' F' E' => o_arrL (F'.ev rfl) (F'.ev rfl) (by omega) (by omega) ⟨Ext.refl _ _, rfl⟩) ?_)
      refine mK hok rfl rfl (fun a' w' F' E' => o_move (F'.ev rfl) ⟨Ext.refl _ _, rfl⟩) ?_
      refine mX hok rfl rfl (NewS.stays _ _ _ _) (fun a' w' F' E' D' => o_call (F'.ev rfl) (F'.evs rfl) (Cal.mono (append8_c v hv _) fun _ _ hh => newS_of E' hh)) ?_
      (refine mDone rfl rfl ?_; clear F; clear M; intro a w F hE2 hX hTT hDD hPP; have M := M1.later hE2; (try dsimp only at F); obtain ⟨b20, e_1, g_1, q_1⟩ := hX 2 _ rfl; replace F := F.know (d := 20) e_1; replace M := Mem.al (pre := []) M M1 q_1 g_1 (by intro p hp; cases hp); clear M1; clear hX; clear hE2; clear hok; clear hE; clear hTT; clear hDD; clear hPP; clear e_1; clear g_1; clear q_1; (try simp only [List.nil_append] at M))
      (refine stepD rfl F rfl (o_copy (n := 8) M (F.ev rfl) (F.ev rfl) rfl (by repeat (first | exact .here | apply Has.there)) s2 (one_ip _) (by repeat (first | exact .here | apply Has.there)) hput (by repeat (first | exact .here | apply Upd.there)) ?_); clear F; clear M; intro w M a F)
      with_reducible refine l_nil ?_
      with_reducible refine q_then ?_
      with_reducible refine c_seq ?_
      with_reducible refine c_region ?_
      refine stepD rfl F rfl (o_loadA M (F.ev rfl) (by repeat (first | exact .here | apply Has.there)) (by first | assumption | rfl) ?_); clear F; clear a; intro a F
      (refine stepN rfl F (o_storeA M (F.ev rfl) (F.ev rfl) hl3 (one_ip _)  (by repeat (first | exact .here | apply Has.there))  (put_all (by rw [hl3]; rfl)) (by repeat (first | exact .here | apply Upd.there)) ?_); clear F; clear M; intro w M a F)
      refine stepD rfl F rfl (o_assign (F.ev rfl) ?_); clear F; clear a; intro a F
      with_reducible refine l_nil ?_
      with_reducible refine q_then ?_
      with_reducible refine c_ret ?_
      refine p_ret F rfl (.cons (.cell (F.ev rfl) (run_loadVar_agg TAgg.h (M.heap (by repeat (first | exact .here | apply Has.there))) s3)) (.cons (.tmp (F.ev rfl)) .nil)) ⟨by simp [joinP, hvp, h64, optIP, oneOr], M.ext⟩
    · refine fn_ofM (n := 23) [] Tryd.func29 rfl rfl rfl ?_
      intro a w F M hwW
      refine c_seq ?_
      refine c_region ?_
      (refine stepD rfl F rfl (o_box M (F.ev rfl) rfl ?_); clear F; clear M; intro b2 w M a F)
      (refine stepD rfl F rfl (o_alloc M ?_); clear F; clear M; intro b4 w M a F)
      refine stepD rfl F rfl (o_assign (F.ev rfl) ?_); clear F; clear a; intro a F
      with_reducible refine l_nil ?_
      with_reducible refine q_then ?_
      with_reducible refine c_seq ?_
      with_reducible refine c_seq ?_
      with_reducible refine c_region ?_
      refine stepD rfl F rfl (o_loadA M (F.ev rfl) (by repeat (first | exact .here | apply Has.there)) (by first | assumption | rfl) ?_); clear F; clear a; intro a F
      (refine stepD rfl F rfl (o_call (F.ev rfl) (F.evs rfl) (Cal.mono (Cal.to (validPrefix_c p n hp _) (by rw [hvp])) ?_)); clear F; clear a; rintro _ w ⟨rfl, hE⟩ a F; replace M := M.later hE; clear hE)
      refine stepD rfl F rfl (o_not (F.ev rfl) ?_); clear F; clear a; intro a F
      refine stepD rfl F rfl (o_move (F.ev rfl) ?_); clear F; clear a; intro a F
      refine stepG rfl F rfl rfl rfl (o_fieldAddr (F.ev rfl) ?_); clear F; clear a; intro a F
      refine stepG rfl F rfl rfl rfl (o_load1 M (F.ev rfl) (by repeat (first | exact .here | apply Has.there)) (by first | assumption | rfl) ?_); clear F; clear a; intro a F
      refine stepG rfl F rfl rfl rfl (o_gtrT (F.ev rfl) (F.ev rfl) (by omega) ?_); clear F; clear a; intro a F
      refine stepD rfl F rfl (o_pickF (F.ev rfl) (F.ev rfl) ?_); clear F; clear a; intro a F
      with_reducible refine l_nil ?_
      with_reducible refine q_then ?_
      refine c_true F rfl rfl ?_
      with_reducible refine c_seq ?_
      with_reducible refine c_region ?_
      refine stepD rfl F rfl (o_build F rfl rfl ?_); clear F; clear a; intro a F
      (refine stepN rfl F (o_storeA M (F.ev rfl) (F.ev rfl) (by rfl) (by rfl) (by repeat (first | exact .here | apply Has.there)) (by rfl) (by repeat (first | exact .here | apply Upd.there)) ?_); clear F; clear M; intro w M a F)
      refine stepD rfl F rfl (o_assign (F.ev rfl) ?_); clear F; clear a; intro a F
      with_reducible refine l_nil ?_
      with_reducible refine q_then ?_
      with_reducible refine c_ret ?_
      with_reducible refine q_thenR ?_
      refine p_ret F rfl (.cons (.cell (F.ev rfl) (run_loadVar_agg TAgg.h (M.heap (by repeat (first | exact .here | apply Has.there))) rfl)) (.cons (.tmp (F.ev rfl)) .nil)) ⟨by simp [joinP, hvp, h64, optIP, oneOr, zeroIP, ipC], M.ext⟩
end Go.Proofs.YtadnpidadcgdcaaDoor

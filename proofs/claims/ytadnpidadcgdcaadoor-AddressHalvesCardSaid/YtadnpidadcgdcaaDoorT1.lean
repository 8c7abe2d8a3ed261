/-
  A tape of numbers: Next.
-/
import Derived.Test.YtadnpidadcgdcaaDoorA1
import Derived.Test.YtadnpidadcgdcaaDoorQ4
namespace Go.Proofs.YtadnpidadcgdcaaDoor
set_option linter.unusedVariables false
set_option linter.unusedSimpArgs false
open Go.RowKit
attribute [local irreducible] OpTo wpListIn Code.wpIn MW Cal

/-- Fewer blocks, of which those that are left out have not been turned. -/
theorem Mem.less {S S' : List Nat} {W w : World} {l new : List (Nat × Obj)} (M : Mem S W w l) (h : ∀ k ∈ S, k ∈ S' ∨ ∃ o, Has l k o ∧ W.heap[k]? = some o) (hs : new.Sublist l) (hn : ∀ p ∈ new, p.1 ∈ S → p.1 ∈ S') : Mem S' W w new :=
  ⟨⟨M.ext.os, M.ext.tape, M.ext.output, M.ext.size, fun k hk hS' => by
    by_cases hS : k ∈ S
    · rcases h k hS with h1 | ⟨o, h1, h2⟩
      · exact absurd h1 hS'
      · rw [M.heap h1, h2]
    · exact M.ext.block k hk hS⟩, fun p hp => M.at_ p (hs.subset hp), M.nd.sublist (hs.map _), fun p hp => (M.own p (hs.subset hp)).imp_left (hn p hp)⟩

/-- the tape's block -/
def tobj (p : Option Addr) (len cap k : Nat) : Obj := .cells [.slice p len cap, .int .i64 k].toArray 95 (0, 0)
def i64C (xs : List Int) : List Value := xs.map (Value.int .i64)
/-- what its numbers are -/
structure TapeS (W : World) (bt : Nat) (p : Option Addr) (len : Nat) (xs : List Int) : Prop where
  lenE : xs.length = len
  small : len ≤ 400
  bd : ∀ x ∈ xs, -9223372036854775808 ≤ x ∧ x ≤ 9223372036854775807
  mem : 0 < len → ∃ b o cs t fz, p = some ⟨b, o, none⟩ ∧ b ≠ bt ∧ W.heap[b]? = some (.cells cs t fz) ∧ seg cs.toList o len = some (i64C xs)
theorem TapeS.later {W w : World} {bt : Nat} {p : Option Addr} {len : Nat} {xs : List Int} (h : TapeS W bt p len xs) (E : Ext [bt] W w) : TapeS w bt p len xs :=
  ⟨h.lenE, h.small, h.bd, fun hl => by
    obtain ⟨b, o, cs, t, fz, h1, h2, h3, h4⟩ := h.mem hl
    exact ⟨b, o, cs, t, fz, h1, h2, by rw [E.block b (Array.getElem?_eq_some_iff.1 h3).1 (by simpa using h2)]; exact h3, h4⟩⟩
def nxV (xs : List Int) (k : Nat) (n : Int) : Int := if k < xs.length then modI (xs.getD k 0) n else 0
def nxK (xs : List Int) (k : Nat) : Nat := if k < xs.length then k + 1 else k
theorem nxK_le {xs : List Int} {k : Nat} (h : k ≤ xs.length) : nxK xs k ≤ xs.length := by unfold nxK; split <;> omega
theorem nxV_bd (xs : List Int) (k : Nat) {n : Int} (hn : 0 < n) : 0 ≤ nxV xs k n ∧ nxV xs k n < n := by
  unfold nxV
  split
  · exact modI_bd _ hn
  · omega

set_option maxHeartbeats 1000000 in
theorem next_c {bt : Nat} {p : Option Addr} {len cap k : Nat} {xs : List Int} (n : Int) (hn : 0 < n) (hn2 : n ≤ 9223372036854775807) (W : World) (hT : TapeS W bt p len xs) (hb : W.heap[bt]? = some (tobj p len cap k)) :
    Cal Tryd.prog 56 [.pointer (some ⟨bt, 0, none⟩), .int .i64 n].toArray W fun v w' => v = .int .i64 (nxV xs k n) ∧ Mem [bt] W w' [(bt, tobj p len cap (nxK xs k))] := by
  have hlen := hT.lenE
  by_cases hk : k < len
  · obtain ⟨b, o, cs, t, fz, rfl, hne, hbb, hs⟩ := hT.mem (by omega)
    have hnt : nth cs.toList (o + (k : Int).toNat * 1) = some (.int .i64 (xs.getD k 0)) := by
      obtain ⟨h1, h2⟩ := seg_spec _ _ _ _ hs
      have h3 := h2 k hk
      rw [nth_spec, show o + (k : Int).toNat * 1 = o + k by omega, h3]
      have hl : k < xs.length := by omega
      simp [i64C, hl]
    have hxk := hT.bd (xs.getD k 0) (by rw [List.getD_eq_getElem?_getD, List.getElem?_eq_getElem (by omega)]; exact List.getElem_mem _)
    have hr := Int.tmod_lt_of_pos (xs.getD k 0) hn
    have hr2 : -n < (xs.getD k 0).tmod n := by have := Int.tmod_lt_of_pos (-(xs.getD k 0)) hn; rw [Int.neg_tmod] at this; omega
    have hsm := hT.small
    have hv : nxV xs k n = modI (xs.getD k 0) n := by unfold nxV; rw [if_pos (by omega)]
    have hkk : nxK xs k = k + 1 := by unfold nxK; rw [if_pos (by omega)]
    rw [hv, hkk]
    unfold modI
    refine fn_ofM (n := 41) [bt,b] Tryd.func56 rfl rfl rfl ?_
    intro a w F M hwW
    replace M := M.came hwW hb (by simp) (by simp)
    replace M := M.came hwW (o := .cells cs.toList.toArray t fz) (by simpa using hbb) (by simp) (by simp; exact fun h => hne h.symm)
    unfold tobj at M
    with_reducible refine c_seq ?_
    with_reducible refine c_region ?_
    refine stepD rfl F rfl (o_assign (F.ev rfl) ?_); clear F; clear a; intro a F
    with_reducible refine l_nil ?_
    with_reducible refine q_then ?_
    with_reducible refine c_seq ?_
    with_reducible refine c_seq ?_
    refine c_draw 10 F (by kernel_rfl) ?_
    intro w1 hE hok
    have M1 := M.later hE
    refine mK hok rfl rfl (fun a' w' F' E' => o_move (F'.ev rfl) ⟨Ext.refl _ _, rfl⟩) ?_
    refine mK hok rfl rfl (fun a' w' F' E' => o_nilCheck (F'.ev rfl) rfl ⟨Ext.refl _ _, rfl⟩) ?_
    refine mK hok rfl rfl (fun a' w' F' E' => o_fieldAddr (F'.ev rfl) ⟨Ext.refl _ _, rfl⟩) ?_
    refine mK hok rfl rfl (fun a' w' F' E' => o_load1 (M1.later E') (F'.ev rfl) (by repeat (first | exact .here | apply Has.there)) (by first | assumption | rfl) ⟨Ext.refl _ _, rfl⟩) ?_
    refine mK hok rfl rfl (fun a' w' F' E' => o_move (F'.ev rfl) ⟨Ext.refl _ _, rfl⟩) ?_
    refine mK hok rfl rfl (fun a' w' F' E' => o_nilCheck (F'.ev rfl) rfl ⟨Ext.refl _ _, rfl⟩) ?_
    refine mK hok rfl rfl (fun a' w' F' E' => o_fieldAddr (F'.ev rfl) ⟨Ext.refl _ _, rfl⟩) ?_
    refine mK hok rfl rfl (fun a' w' F' E' => o_load1 (M1.later E') (F'.ev rfl) (by repeat (first | exact .here | apply Has.there)) (by first | assumption | rfl) ⟨Ext.refl _ _, rfl⟩) ?_
    refine mK hok rfl rfl (fun a' w' F' E' => o_lenSl (F'.ev rfl) ⟨Ext.refl _ _, rfl⟩) ?_
    refine mK hok rfl rfl (fun a' w' F' E' => o_geqF (F'.ev rfl) (F'.ev rfl) (by omega) ⟨Ext.refl _ _, rfl⟩) ?_
    (refine mDone rfl rfl ?_; clear F; clear M; intro a w F hE2 hX hTT hDD hPP; have M := M1.later hE2; clear M1; clear hX; clear hE2; clear hok; clear hE; clear hTT; clear hDD; clear hPP; (try dsimp only at F))
    with_reducible refine l_nil ?_
    with_reducible refine q_then ?_
    refine c_false F rfl rfl ?_
    with_reducible refine c_skip ?_
    with_reducible refine q_then ?_
    with_reducible refine c_seq ?_
    refine c_draw 12 F (by kernel_rfl) ?_
    intro w1 hE hok
    have M1 := M.later hE
    refine mK hok rfl rfl (fun a' w' F' E' => o_move (F'.ev rfl) ⟨Ext.refl _ _, rfl⟩) ?_
    refine mK hok rfl rfl (fun a' w' F' E' => o_nilCheck (F'.ev rfl) rfl ⟨Ext.refl _ _, rfl⟩) ?_
    refine mK hok rfl rfl (fun a' w' F' E' => o_fieldAddr (F'.ev rfl) ⟨Ext.refl _ _, rfl⟩) ?_
    refine mK hok rfl rfl (fun a' w' F' E' => o_load1 (M1.later E') (F'.ev rfl) (by repeat (first | exact .here | apply Has.there)) (by first | assumption | rfl) ⟨Ext.refl _ _, rfl⟩) ?_
    refine mK hok rfl rfl (fun a' w' F' E' => o_move (F'.ev rfl) ⟨Ext.refl _ _, rfl⟩) ?_
    refine mK hok rfl rfl (fun a' w' F' E' => o_nilCheck (F'.ev rfl) rfl ⟨Ext.refl _ _, rfl⟩) ?_
    refine mK hok rfl rfl (fun a' w' F' E' => o_fieldAddr (F'.ev rfl) ⟨Ext.refl _ _, rfl⟩) ?_
    refine mK hok rfl rfl (fun a' w' F' E' => o_load1 (M1.later E') (F'.ev rfl) (by repeat (first | exact .here | apply Has.there)) (by first | assumption | rfl) ⟨Ext.refl _ _, rfl⟩) ?_
    refine mK hok rfl rfl (fun a' w' F' E' => o_indexSl (F'.ev rfl) (F'.ev rfl) (by omega) (by omega) ⟨Ext.refl _ _, rfl⟩) ?_
    refine mK hok rfl rfl (fun a' w' F' E' => o_load1 (M1.later E') (F'.ev rfl) (by repeat (first | exact .here | apply Has.there)) (by first | assumption | rfl) ⟨Ext.refl _ _, rfl⟩) ?_
    refine mK hok rfl rfl (fun a' w' F' E' => o_move (F'.ev rfl) ⟨Ext.refl _ _, rfl⟩) ?_
    refine mK hok rfl rfl (fun a' w' F' E' => o_rem (F'.ev rfl) (F'.ev rfl) (by omega) rfl ⟨Ext.refl _ _, rfl⟩) ?_
    (refine mDone rfl rfl ?_; clear F; clear M; intro a w F hE2 hX hTT hDD hPP; have M := M1.later hE2; clear M1; clear hX; clear hE2; clear hok; clear hE; clear hTT; clear hDD; clear hPP; (try dsimp only at F))
    refine stepD rfl F rfl (o_assign (F.ev rfl) ?_); clear F; clear a; intro a F
    with_reducible refine l_nil ?_
    with_reducible refine q_then ?_
    with_reducible refine c_seq ?_
    with_reducible refine c_region ?_
    refine stepD rfl F rfl (o_move (F.ev rfl) ?_); clear F; clear a; intro a F
    refine stepD rfl F rfl (o_nilCheck (F.ev rfl) rfl ?_); clear F; clear a; intro a F
    refine stepD rfl F rfl (o_fieldAddr (F.ev rfl) ?_); clear F; clear a; intro a F
    refine stepD rfl F rfl (o_load1 M (F.ev rfl) (by repeat (first | exact .here | apply Has.there)) (by first | assumption | rfl) ?_); clear F; clear a; intro a F
    refine stepD rfl F rfl (o_add (F.ev rfl) (F.ev rfl) (w_i64 (by omega) (by omega)) ?_); clear F; clear a; intro a F
    refine stepD rfl F rfl (o_nilCheck (F.ev rfl) rfl ?_); clear F; clear a; intro a F
    refine stepD rfl F rfl (o_fieldAddr (F.ev rfl) ?_); clear F; clear a; intro a F
    (refine stepN rfl F (o_store1 M (F.ev rfl) (F.ev rfl) rfl (by repeat (first | exact .here | apply Has.there)) (by rfl) (by repeat (first | exact .here | apply Upd.there)) ?_); clear F; clear M; intro w M a F)
    with_reducible refine l_nil ?_
    with_reducible refine q_then ?_
    with_reducible refine c_seq ?_
    with_reducible refine c_seq ?_
    with_reducible refine c_region ?_
    refine stepD rfl F rfl (o_move (F.ev rfl) ?_); clear F; clear a; intro a F
    refine stepD rfl F rfl (o_lss (F.ev rfl) (F.ev rfl) ?_); clear F; clear a; intro a F
    with_reducible refine l_nil ?_
    with_reducible refine q_then ?_
    generalize (xs.getD k 0).tmod n = r at *
    have fin : ∀ w', Mem [bt, b] W w' [(b, .cells cs.toList.toArray t fz), (bt, .cells [.slice (some ⟨b, o, none⟩) len cap, .int .i64 ((k : Int) + 1)].toArray 95 (0, 0))] → Mem [bt] W w' [(bt, tobj (some ⟨b, o, none⟩) len cap (k + 1))] := fun w' M' =>
      M'.less (fun q hq => by
        simp only [List.mem_cons, List.not_mem_nil, or_false] at hq
        rcases hq with rfl | rfl
        · exact .inl (by simp)
        · exact .inr ⟨_, .here, by simpa using hbb⟩) (List.sublist_cons_self _ _) (fun q hq _ => by simp at hq; subst hq; simp)
    refine c_if F rfl (fun hc => ?_) (fun hc => ?_)
    · replace hc := of_decide_eq_true hc
      rw [if_pos hc]
      with_reducible refine c_region ?_
      refine stepD rfl F rfl (o_move (F.ev rfl) ?_); clear F; clear a; intro a F
      refine stepD rfl F rfl (o_move (F.ev rfl) ?_); clear F; clear a; intro a F
      refine stepD rfl F rfl (o_add (F.ev rfl) (F.ev rfl) (w_i64 (by omega) (by omega)) ?_); clear F; clear a; intro a F
      refine stepD rfl F rfl (o_assign (F.ev rfl) ?_); clear F; clear a; intro a F
      with_reducible refine l_nil ?_
      with_reducible refine q_then ?_
      with_reducible refine c_seq ?_
      with_reducible refine c_region ?_
      refine stepD rfl F rfl (o_move (F.ev rfl) ?_); clear F; clear a; intro a F
      refine stepD rfl F rfl (o_assign (F.ev rfl) ?_); clear F; clear a; intro a F
      with_reducible refine l_nil ?_
      with_reducible refine q_then ?_
      with_reducible refine c_ret ?_
      refine p_ret F rfl (.cons (.tmp (F.ev rfl)) .nil) ?_
      exact ⟨rfl, fin _ M⟩
    · replace hc := of_decide_eq_false hc
      rw [if_neg hc]
      with_reducible refine c_skip ?_
      with_reducible refine q_then ?_
      with_reducible refine c_seq ?_
      with_reducible refine c_region ?_
      refine stepD rfl F rfl (o_move (F.ev rfl) ?_); clear F; clear a; intro a F
      refine stepD rfl F rfl (o_assign (F.ev rfl) ?_); clear F; clear a; intro a F
      with_reducible refine l_nil ?_
      with_reducible refine q_then ?_
      with_reducible refine c_ret ?_
      refine p_ret F rfl (.cons (.tmp (F.ev rfl)) .nil) ?_
      exact ⟨rfl, fin _ M⟩
  · have hv : nxV xs k n = 0 := by unfold nxV; rw [if_neg (by omega)]
    have hkk : nxK xs k = k := by unfold nxK; rw [if_neg (by omega)]
    rw [hv, hkk]
    refine fn_ofM (n := 41) [bt] Tryd.func56 rfl rfl rfl ?_
    intro a w F M hwW
    replace M := M.came hwW hb (by simp) (by simp)
    unfold tobj at M
    with_reducible refine c_seq ?_
    with_reducible refine c_region ?_
    refine stepD rfl F rfl (o_assign (F.ev rfl) ?_); clear F; clear a; intro a F
    with_reducible refine l_nil ?_
    with_reducible refine q_then ?_
    with_reducible refine c_seq ?_
    with_reducible refine c_seq ?_
    refine c_draw 10 F (by kernel_rfl) ?_
    intro w1 hE hok
    have M1 := M.later hE
    refine mK hok rfl rfl (fun a' w' F' E' => o_move (F'.ev rfl) ⟨Ext.refl _ _, rfl⟩) ?_
    refine mK hok rfl rfl (fun a' w' F' E' => o_nilCheck (F'.ev rfl) rfl ⟨Ext.refl _ _, rfl⟩) ?_
    refine mK hok rfl rfl (fun a' w' F' E' => o_fieldAddr (F'.ev rfl) ⟨Ext.refl _ _, rfl⟩) ?_
    refine mK hok rfl rfl (fun a' w' F' E' => o_load1 (M1.later E') (F'.ev rfl) (by repeat (first | exact .here | apply Has.there)) (by first | assumption | rfl) ⟨Ext.refl _ _, rfl⟩) ?_
    refine mK hok rfl rfl (fun a' w' F' E' => o_move (F'.ev rfl) ⟨Ext.refl _ _, rfl⟩) ?_
    refine mK hok rfl rfl (fun a' w' F' E' => o_nilCheck (F'.ev rfl) rfl ⟨Ext.refl _ _, rfl⟩) ?_
    refine mK hok rfl rfl (fun a' w' F' E' => o_fieldAddr (F'.ev rfl) ⟨Ext.refl _ _, rfl⟩) ?_
    refine mK hok rfl rfl (fun a' w' F' E' => o_load1 (M1.later E') (F'.ev rfl) (by repeat (first | exact .here | apply Has.there)) (by first | assumption | rfl) ⟨Ext.refl _ _, rfl⟩) ?_
    refine mK hok rfl rfl (fun a' w' F' E' => o_lenSl (F'.ev rfl) ⟨Ext.refl _ _, rfl⟩) ?_
    refine mK hok rfl rfl (fun a' w' F' E' => o_geqT (F'.ev rfl) (F'.ev rfl) (by omega) ⟨Ext.refl _ _, rfl⟩) ?_
    (refine mDone rfl rfl ?_; clear F; clear M; intro a w F hE2 hX hTT hDD hPP; have M := M1.later hE2; clear M1; clear hX; clear hE2; clear hok; clear hE; clear hTT; clear hDD; clear hPP; (try dsimp only at F))
    with_reducible refine l_nil ?_
    with_reducible refine q_then ?_
    refine c_true F rfl rfl ?_
    with_reducible refine c_seq ?_
    with_reducible refine c_region ?_
    refine stepD rfl F rfl (o_assign (F.ev rfl) ?_); clear F; clear a; intro a F
    with_reducible refine l_nil ?_
    with_reducible refine q_then ?_
    with_reducible refine c_ret ?_
    with_reducible refine q_thenR ?_
    refine p_ret F rfl (.cons (.tmp (F.ev rfl)) .nil) ?_
    exact ⟨rfl, M⟩
end Go.Proofs.YtadnpidadcgdcaaDoor

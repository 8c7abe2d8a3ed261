/-
  A tape of numbers: New, Bool, Device, Addr.
-/
import Derived.Test.YtadnpidadcgdcaaDoorT1
namespace Go.Proofs.YtadnpidadcgdcaaDoor
set_option linter.unusedVariables false
set_option linter.unusedSimpArgs false
open Go.RowKit
attribute [local irreducible] OpTo wpListIn Code.wpIn MW Cal

/-- Behind a call that turned one block of ours. -/
theorem Mem.turn1 {S : List Nat} {W0 w w' : World} {l l' : List (Nat × Obj)} {b : Nat} {o o' : Obj} (M : Mem S W0 w l) (N : Mem [b] w w' [(b, o')]) (hu : Upd l b o o' l') : Mem S W0 w' l' := M.turned hu N.ext (N.heap .here)

def boolV (xs : List Int) (k : Nat) (n : Int) : Bool := nxV xs k n == n - 1
theorem bool_c {bt : Nat} {p : Option Addr} {len cap k : Nat} {xs : List Int} (n : Int) (hn : 0 < n) (hn2 : n ≤ 9223372036854775807) (W : World) (hT : TapeS W bt p len xs) (hb : W.heap[bt]? = some (tobj p len cap k)) :
    Cal Tryd.prog 57 [.pointer (some ⟨bt, 0, none⟩), .int .i64 n].toArray W fun v w' => v = .bool (boolV xs k n) ∧ Mem [bt] W w' [(bt, tobj p len cap (nxK xs k))] := by
  refine fn_ofM (n := 11) [bt] Tryd.func57 rfl rfl rfl ?_
  intro a w F M hwW
  replace M := M.came hwW hb (by simp) (by simp)
  with_reducible refine c_seq ?_
  with_reducible refine c_region ?_
  refine stepD rfl F rfl (o_assign (F.ev rfl) ?_); clear F; clear a; intro a F
  with_reducible refine l_nil ?_
  with_reducible refine q_then ?_
  with_reducible refine c_seq ?_
  with_reducible refine c_region ?_
  refine stepD rfl F rfl (o_move (F.ev rfl) ?_); clear F; clear a; intro a F
  refine stepD rfl F rfl (o_move (F.ev rfl) ?_); clear F; clear a; intro a F
  (refine stepD rfl F rfl (o_call (F.ev rfl) (F.evs rfl) (Cal.mono (next_c n hn hn2 _ (hT.later M.ext) (M.heap .here) ) ?_)); clear F; clear a; have M0 := M; clear M; rintro _ w ⟨rfl, N⟩ a F)
  replace M := M0.turn1 N .here
  refine stepD rfl F rfl (o_move (F.ev rfl) ?_); clear F; clear a; intro a F
  refine stepD rfl F rfl (o_sub (F.ev rfl) (F.ev rfl) (w_i64 (by omega) (by omega)) ?_); clear F; clear a; intro a F
  refine stepD rfl F rfl (o_eql (F.ev rfl) (F.ev rfl) ?_); clear F; clear a; intro a F
  refine stepD rfl F rfl (o_assign (F.ev rfl) ?_); clear F; clear a; intro a F
  with_reducible refine l_nil ?_
  with_reducible refine q_then ?_
  with_reducible refine c_ret ?_
  refine p_ret F rfl (.cons (.tmp (F.ev rfl)) .nil) ?_
  exact ⟨rfl, M⟩

/-- a device's link address, off the tape -/
def devM (xs : List Int) (k : Nat) : Int := if boolV xs (nxK xs k) 2 then 3 else 2
def devS (xs : List Int) (k : Nat) : Int := if boolV xs (nxK xs k) 2 then 0 else nxV xs k 5
def devE (xs : List Int) (k : Nat) : Int := if boolV xs (nxK xs k) 2 then 144115188075855872 + nxV xs k 5 else 0
theorem device_c {bt : Nat} {p : Option Addr} {len cap k : Nat} {xs : List Int} (W : World) (hT : TapeS W bt p len xs) (hb : W.heap[bt]? = some (tobj p len cap k)) :
    Cal Tryd.prog 65 [.pointer (some ⟨bt, 0, none⟩)].toArray W fun v w' => v = .agg (adC (devM xs k) (devS xs k) (devE xs k)).toArray ∧ Mem [bt] W w' [(bt, tobj p len cap (nxK xs (nxK xs k)))] := by
  have hv := nxV_bd xs k (n := 5) (by omega)
  cases hbv : boolV xs (nxK xs k) 2
  · refine fn_ofM (n := 15) [bt] Tryd.func65 rfl rfl rfl ?_
    intro a w F M hwW
    replace M := M.came hwW hb (by simp) (by simp)
    refine c_seq ?_
    refine c_region ?_
    (refine stepD rfl F rfl (o_alloc M ?_); clear F; clear M; intro b2 w M a F)
    with_reducible refine l_nil ?_
    with_reducible refine q_then ?_
    with_reducible refine c_seq ?_
    with_reducible refine c_region ?_
    refine stepD rfl F rfl (o_move (F.ev rfl) ?_); clear F; clear a; intro a F
    (refine stepD rfl F rfl (o_call (F.ev rfl) (F.evs rfl) (Cal.mono (next_c 5 (by omega) (by omega) _ (hT.later M.ext) (M.heap (.there .here)) ) ?_)); clear F; clear a; have M0 := M; clear M; rintro _ w ⟨rfl, N⟩ a F)
    replace M := M0.turn1 N (.there .here)
    refine stepD rfl F rfl (o_assign (F.ev rfl) ?_); clear F; clear a; intro a F
    with_reducible refine l_nil ?_
    with_reducible refine q_then ?_
    with_reducible refine c_seq ?_
    with_reducible refine c_seq ?_
    with_reducible refine c_region ?_
    refine stepD rfl F rfl (o_move (F.ev rfl) ?_); clear F; clear a; intro a F
    (refine stepD rfl F rfl (o_call (F.ev rfl) (F.evs rfl) (Cal.mono (bool_c 2 (by omega) (by omega) _ (hT.later M.ext) (M.heap (.there .here)) ) ?_)); clear F; clear a; have M0 := M; clear M; rintro _ w ⟨rfl, N⟩ a F)
    replace M := M0.turn1 N (.there .here)
    rw [hbv] at F
    with_reducible refine l_nil ?_
    with_reducible refine q_then ?_
    refine c_false F rfl rfl ?_
    with_reducible refine c_skip ?_
    with_reducible refine q_then ?_
    with_reducible refine c_seq ?_
    with_reducible refine c_region ?_
    refine stepD rfl F rfl (o_move (F.ev rfl) ?_); clear F; clear a; intro a F
    refine stepD rfl F rfl (o_conv (F.ev rfl) (w_u16 (by omega) (by omega)) ?_); clear F; clear a; intro a F
    refine stepD rfl F rfl (o_build F rfl rfl ?_); clear F; clear a; intro a F
    (refine stepN rfl F (o_storeA M (F.ev rfl) (F.ev rfl) (by rfl) (by rfl) (by repeat (first | exact .here | apply Has.there)) (by rfl) (by repeat (first | exact .here | apply Upd.there)) ?_); clear F; clear M; intro w M a F)
    with_reducible refine l_nil ?_
    with_reducible refine q_then ?_
    with_reducible refine c_ret ?_
    refine p_ret F rfl (.cons (.cell (F.ev rfl) (run_loadVar_agg TAgg.h (M.heap .here) rfl)) .nil) ⟨by simp [devM, devS, devE, hbv, adC, oneOr], M.sub (List.sublist_cons_self _ _)⟩
  · refine fn_ofM (n := 15) [bt] Tryd.func65 rfl rfl rfl ?_
    intro a w F M hwW
    replace M := M.came hwW hb (by simp) (by simp)
    refine c_seq ?_
    refine c_region ?_
    (refine stepD rfl F rfl (o_alloc M ?_); clear F; clear M; intro b2 w M a F)
    with_reducible refine l_nil ?_
    with_reducible refine q_then ?_
    with_reducible refine c_seq ?_
    with_reducible refine c_region ?_
    refine stepD rfl F rfl (o_move (F.ev rfl) ?_); clear F; clear a; intro a F
    (refine stepD rfl F rfl (o_call (F.ev rfl) (F.evs rfl) (Cal.mono (next_c 5 (by omega) (by omega) _ (hT.later M.ext) (M.heap (.there .here)) ) ?_)); clear F; clear a; have M0 := M; clear M; rintro _ w ⟨rfl, N⟩ a F)
    replace M := M0.turn1 N (.there .here)
    refine stepD rfl F rfl (o_assign (F.ev rfl) ?_); clear F; clear a; intro a F
    with_reducible refine l_nil ?_
    with_reducible refine q_then ?_
    with_reducible refine c_seq ?_
    with_reducible refine c_seq ?_
    with_reducible refine c_region ?_
    refine stepD rfl F rfl (o_move (F.ev rfl) ?_); clear F; clear a; intro a F
    (refine stepD rfl F rfl (o_call (F.ev rfl) (F.evs rfl) (Cal.mono (bool_c 2 (by omega) (by omega) _ (hT.later M.ext) (M.heap (.there .here)) ) ?_)); clear F; clear a; have M0 := M; clear M; rintro _ w ⟨rfl, N⟩ a F)
    replace M := M0.turn1 N (.there .here)
    rw [hbv] at F
    with_reducible refine l_nil ?_
    with_reducible refine q_then ?_
    refine c_true F rfl rfl ?_
    with_reducible refine c_seq ?_
    with_reducible refine c_region ?_
    refine stepD rfl F rfl (o_move (F.ev rfl) ?_); clear F; clear a; intro a F
    refine stepD rfl F rfl (o_conv (F.ev rfl) (w_u64 (by omega) (by omega)) ?_); clear F; clear a; intro a F
    refine stepD rfl F rfl (o_add (F.ev rfl) (F.ev rfl) (w_u64 (by omega) (by omega)) ?_); clear F; clear a; intro a F
    refine stepD rfl F rfl (o_build F rfl rfl ?_); clear F; clear a; intro a F
    (refine stepN rfl F (o_storeA M (F.ev rfl) (F.ev rfl) (by rfl) (by rfl) (by repeat (first | exact .here | apply Has.there)) (by rfl) (by repeat (first | exact .here | apply Upd.there)) ?_); clear F; clear M; intro w M a F)
    with_reducible refine l_nil ?_
    with_reducible refine q_then ?_
    with_reducible refine c_ret ?_
    with_reducible refine q_thenR ?_
    refine p_ret F rfl (.cons (.cell (F.ev rfl) (run_loadVar_agg TAgg.h (M.heap .here) rfl)) .nil) ⟨by simp [devM, devS, devE, hbv, adC, oneOr], M.sub (List.sublist_cons_self _ _)⟩

/-- a link address, off the tape -/
def addM (xs : List Int) (k : Nat) : Int := if nxV xs k 6 = 4 then 2 else if nxV xs k 6 = 5 then 0 else devM xs (nxK xs k)
def addS (xs : List Int) (k : Nat) : Int := if nxV xs k 6 = 4 then 65535 else if nxV xs k 6 = 5 then 0 else devS xs (nxK xs k)
def addE (xs : List Int) (k : Nat) : Int := if nxV xs k 6 = 4 then 0 else if nxV xs k 6 = 5 then 0 else devE xs (nxK xs k)
def addK (xs : List Int) (k : Nat) : Nat := if nxV xs k 6 = 4 then nxK xs k else if nxV xs k 6 = 5 then nxK xs k else nxK xs (nxK xs (nxK xs k))
theorem addr_c {bt : Nat} {p : Option Addr} {len cap k : Nat} {xs : List Int} (W : World) (hT : TapeS W bt p len xs) (hb : W.heap[bt]? = some (tobj p len cap k)) :
    Cal Tryd.prog 24 [.pointer (some ⟨bt, 0, none⟩)].toArray W fun v w' => v = .agg (adC (addM xs k) (addS xs k) (addE xs k)).toArray ∧ Mem [bt] W w' [(bt, tobj p len cap (addK xs k))] := by
  have hcell : ∀ m s e, (adC m s e).length = 3 := fun _ _ _ => rfl
  by_cases h4 : nxV xs k 6 = 4
  · refine fn_ofM (n := 13) [bt] Tryd.func24 rfl rfl rfl ?_
    intro a w F M hwW
    replace M := M.came hwW hb (by simp) (by simp)
    refine c_seq ?_
    refine c_region ?_
    (refine stepD rfl F rfl (o_alloc M ?_); clear F; clear M; intro b2 w M a F)
    with_reducible refine l_nil ?_
    with_reducible refine q_then ?_
    with_reducible refine c_seq ?_
    with_reducible refine c_seq ?_
    with_reducible refine c_region ?_
    refine stepD rfl F rfl (o_move (F.ev rfl) ?_); clear F; clear a; intro a F
    (refine stepD rfl F rfl (o_call (F.ev rfl) (F.evs rfl) (Cal.mono (next_c 6 (by omega) (by omega) _ (hT.later M.ext) (M.heap (.there .here)) ) ?_)); clear F; clear a; have M0 := M; clear M; rintro _ w ⟨rfl, N⟩ a F)
    replace M := M0.turn1 N (.there .here)
    rw [h4] at F
    with_reducible refine l_nil ?_
    with_reducible refine q_then ?_
    with_reducible refine c_block ?_
    with_reducible refine c_seq ?_
    with_reducible refine c_region ?_
    refine stepD rfl F rfl (o_eqlT (F.ev rfl) (F.ev rfl) (by omega) ?_); clear F; clear a; intro a F
    refine stepD rfl F rfl (o_assign (F.ev rfl) ?_); clear F; clear a; intro a F
    with_reducible refine l_nil ?_
    with_reducible refine q_then ?_
    refine c_true F rfl rfl ?_
    with_reducible refine c_seq ?_
    with_reducible refine c_region ?_
    refine stepD rfl F rfl (o_build F rfl rfl ?_); clear F; clear a; intro a F
    (refine stepN rfl F (o_storeA M (F.ev rfl) (F.ev rfl) (by rfl) (by rfl) (by repeat (first | exact .here | apply Has.there)) (by rfl) (by repeat (first | exact .here | apply Upd.there)) ?_); clear F; clear M; intro w M a F)
    with_reducible refine l_nil ?_
    with_reducible refine q_then ?_
    with_reducible refine c_ret ?_
    with_reducible refine q_inBR ?_
    with_reducible refine q_thenR ?_
    refine p_ret F rfl (.cons (.cell (F.ev rfl) (run_loadVar_agg TAgg.h (M.heap .here) rfl)) .nil) ⟨by simp [addM, addS, addE, h4, adC, oneOr], ?_⟩
    simp only [addK, h4, if_true]
    exact M.sub (List.sublist_cons_self _ _)
  · by_cases h5 : nxV xs k 6 = 5
    · refine fn_ofM (n := 13) [bt] Tryd.func24 rfl rfl rfl ?_
      intro a w F M hwW
      replace M := M.came hwW hb (by simp) (by simp)
      refine c_seq ?_
      refine c_region ?_
      (refine stepD rfl F rfl (o_alloc M ?_); clear F; clear M; intro b2 w M a F)
      with_reducible refine l_nil ?_
      with_reducible refine q_then ?_
      with_reducible refine c_seq ?_
      with_reducible refine c_seq ?_
      with_reducible refine c_region ?_
      refine stepD rfl F rfl (o_move (F.ev rfl) ?_); clear F; clear a; intro a F
      (refine stepD rfl F rfl (o_call (F.ev rfl) (F.evs rfl) (Cal.mono (next_c 6 (by omega) (by omega) _ (hT.later M.ext) (M.heap (.there .here)) ) ?_)); clear F; clear a; have M0 := M; clear M; rintro _ w ⟨rfl, N⟩ a F)
      replace M := M0.turn1 N (.there .here)
      rw [h5] at F
      with_reducible refine l_nil ?_
      with_reducible refine q_then ?_
      with_reducible refine c_block ?_
      with_reducible refine c_seq ?_
      with_reducible refine c_region ?_
      refine stepD rfl F rfl (o_eqlF (F.ev rfl) (F.ev rfl) (by omega) ?_); clear F; clear a; intro a F
      refine stepD rfl F rfl (o_assign (F.ev rfl) ?_); clear F; clear a; intro a F
      with_reducible refine l_nil ?_
      with_reducible refine q_then ?_
      refine c_false F rfl rfl ?_
      with_reducible refine c_seq ?_
      with_reducible refine c_region ?_
      refine stepD rfl F rfl (o_eqlT (F.ev rfl) (F.ev rfl) (by omega) ?_); clear F; clear a; intro a F
      refine stepD rfl F rfl (o_assign (F.ev rfl) ?_); clear F; clear a; intro a F
      with_reducible refine l_nil ?_
      with_reducible refine q_then ?_
      refine c_true F rfl rfl ?_
      with_reducible refine c_seq ?_
      with_reducible refine c_region ?_
      refine stepD rfl F rfl (o_build F rfl rfl ?_); clear F; clear a; intro a F
      (refine stepN rfl F (o_storeA M (F.ev rfl) (F.ev rfl) (by rfl) (by rfl) (by repeat (first | exact .here | apply Has.there)) (by rfl) (by repeat (first | exact .here | apply Upd.there)) ?_); clear F; clear M; intro w M a F)
      with_reducible refine l_nil ?_
      with_reducible refine q_then ?_
      with_reducible refine c_ret ?_
      with_reducible refine q_inBR ?_
      with_reducible refine q_thenR ?_
      refine p_ret F rfl (.cons (.cell (F.ev rfl) (run_loadVar_agg TAgg.h (M.heap .here) rfl)) .nil) ⟨by simp [addM, addS, addE, h5, adC, oneOr], ?_⟩
      simp only [addK, h4, h5, if_true, if_false]
      exact M.sub (List.sublist_cons_self _ _)
    · refine fn_ofM (n := 13) [bt] Tryd.func24 rfl rfl rfl ?_
      intro a w F M hwW
      replace M := M.came hwW hb (by simp) (by simp)
      refine c_seq ?_
      refine c_region ?_
      (refine stepD rfl F rfl (o_alloc M ?_); clear F; clear M; intro b2 w M a F)
      with_reducible refine l_nil ?_
      with_reducible refine q_then ?_
      with_reducible refine c_seq ?_
      with_reducible refine c_seq ?_
      with_reducible refine c_region ?_
      refine stepD rfl F rfl (o_move (F.ev rfl) ?_); clear F; clear a; intro a F
      (refine stepD rfl F rfl (o_call (F.ev rfl) (F.evs rfl) (Cal.mono (next_c 6 (by omega) (by omega) _ (hT.later M.ext) (M.heap (.there .here)) ) ?_)); clear F; clear a; have M0 := M; clear M; rintro _ w ⟨rfl, N⟩ a F)
      replace M := M0.turn1 N (.there .here)
      with_reducible refine l_nil ?_
      with_reducible refine q_then ?_
      with_reducible refine c_block ?_
      with_reducible refine c_seq ?_
      with_reducible refine c_region ?_
      refine stepD rfl F rfl (o_eqlF (F.ev rfl) (F.ev rfl) (by omega) ?_); clear F; clear a; intro a F
      refine stepD rfl F rfl (o_assign (F.ev rfl) ?_); clear F; clear a; intro a F
      with_reducible refine l_nil ?_
      with_reducible refine q_then ?_
      refine c_false F rfl rfl ?_
      with_reducible refine c_seq ?_
      with_reducible refine c_region ?_
      refine stepD rfl F rfl (o_eqlF (F.ev rfl) (F.ev rfl) (by omega) ?_); clear F; clear a; intro a F
      refine stepD rfl F rfl (o_assign (F.ev rfl) ?_); clear F; clear a; intro a F
      with_reducible refine l_nil ?_
      with_reducible refine q_then ?_
      refine c_false F rfl rfl ?_
      with_reducible refine c_skip ?_
      with_reducible refine q_inB ?_
      with_reducible refine q_then ?_
      with_reducible refine c_seq ?_
      with_reducible refine c_region ?_
      refine stepD rfl F rfl (o_move (F.ev rfl) ?_); clear F; clear a; intro a F
      (refine stepD rfl F rfl (o_call (F.ev rfl) (F.evs rfl) (Cal.mono (device_c _ (hT.later M.ext) (M.heap (.there .here)) ) ?_)); clear F; clear a; have M0 := M; clear M; rintro _ w ⟨rfl, N⟩ a F)
      replace M := M0.turn1 N (.there .here)
      skip
      (refine stepN rfl F (o_storeA M (F.ev rfl) (F.ev rfl) (by rfl) (by rfl) (by repeat (first | exact .here | apply Has.there)) (by rfl) (by repeat (first | exact .here | apply Upd.there)) ?_); clear F; clear M; intro w M a F)
      with_reducible refine l_nil ?_
      with_reducible refine q_then ?_
      with_reducible refine c_ret ?_
      refine p_ret F rfl (.cons (.cell (F.ev rfl) (run_loadVar_agg TAgg.h (M.heap .here) rfl)) .nil) ⟨by simp [addM, addS, addE, h4, h5, oneOr, adC], ?_⟩
      simp only [addK, h4, h5, if_false]
      exact M.sub (List.sublist_cons_self _ _)

/-! New -/
/-- a slice of int that came in: its numbers -/
structure IntsAt (W : World) (v : Value) (xs : List Int) : Prop where
  ex : ∃ p cap, v = .slice p xs.length cap ∧ xs.length ≤ cap ∧ (0 < xs.length → ∃ b o cs t fz, p = some ⟨b, o, none⟩ ∧ W.heap[b]? = some (.cells cs t fz) ∧ seg cs.toList o xs.length = some (i64C xs))
  bd : ∀ x ∈ xs, -9223372036854775808 ≤ x ∧ x ≤ 9223372036854775807
  small : xs.length ≤ 9223372036854775807
def cut400 (xs : List Int) : List Int := xs.take 400
theorem seg_eq : ∀ (cs : List Value) (off n : Nat), seg cs off n = if off + n ≤ cs.length then some ((cs.drop off).take n) else none
  | [], 0, 0 => by simp [seg]
  | _ :: _, 0, 0 => by simp [seg]
  | [], 0, n + 1 => by simp [seg]
  | [], off + 1, n => by cases n <;> simp [seg]
  | x :: xs, 0, n + 1 => by
    simp only [seg]
    rw [seg_eq xs 0 n]
    by_cases h : n ≤ xs.length
    · rw [if_pos (by omega), if_pos (by simp; omega)]; simp
    · rw [if_neg (by omega), if_neg (by simp; omega)]
  | x :: xs, off + 1, n => by
    have : seg (x :: xs) (off + 1) n = seg xs off n := by cases n <;> rfl
    rw [this, seg_eq xs off n]
    by_cases h : off + n ≤ xs.length
    · rw [if_pos h, if_pos (by simp; omega)]; simp
    · rw [if_neg h, if_neg (by simp; omega)]
theorem seg_take {cs ys : List Value} {off n m : Nat} (h : seg cs off n = some ys) (hm : m ≤ n) : seg cs off m = some (ys.take m) := by
  rw [seg_eq] at h ⊢
  split at h
  · rename_i hle
    rw [if_pos (by omega)]
    simp only [Option.some.injEq] at h
    subst h
    rw [List.take_take, Nat.min_eq_left hm]
  · cases h
theorem tape_new {W w' : World} {bt : Nat} {p : Option Addr} {xs : List Int} (hE : Ext [] W w') (hbt : W.heap.size ≤ bt) (hbd : ∀ x ∈ xs, -9223372036854775808 ≤ x ∧ x ≤ 9223372036854775807)
    (hm : 0 < xs.length → ∃ b o cs t fz, p = some ⟨b, o, none⟩ ∧ W.heap[b]? = some (.cells cs t fz) ∧ seg cs.toList o xs.length = some (i64C xs)) : TapeS w' bt p (cut400 xs).length (cut400 xs) := by
  refine ⟨rfl, by unfold cut400; rw [List.length_take]; omega, fun x hx => hbd x (List.mem_of_mem_take hx), fun hl => ?_⟩
  have hl0 : 0 < xs.length := by unfold cut400 at hl; rw [List.length_take] at hl; omega
  obtain ⟨b, o, cs, t, fz, h1, h2, h3⟩ := hm hl0
  have hlt := (Array.getElem?_eq_some_iff.1 h2).1
  refine ⟨b, o, cs, t, fz, h1, by omega, by rw [hE.block b hlt (by simp)]; exact h2, ?_⟩
  have := seg_take h3 (show (cut400 xs).length ≤ xs.length by unfold cut400; rw [List.length_take]; omega)
  rw [this]
  unfold i64C cut400
  rw [← List.map_take, List.length_take, Nat.min_comm, ← List.take_take, List.take_of_length_le (show (List.take 400 xs).length ≤ xs.length by rw [List.length_take]; omega)]
set_option maxHeartbeats 400000 in
theorem new_c {p : Option Addr} {cap : Nat} (xs : List Int) (W : World) (hI : IntsAt W (.slice p xs.length cap) xs) (hcap : xs.length ≤ cap) : Cal Tryd.prog 23 [.slice p xs.length cap].toArray W fun x w' => ∃ bt, x = .pointer (some ⟨bt, 0, none⟩) ∧ Mem [] W w' [(bt, tobj p (cut400 xs).length cap 0)] := by
  have hsm := hI.small
  by_cases h4 : 400 < xs.length
  · obtain ⟨b, o, hpp⟩ : ∃ b o, p = some ⟨b, o, none⟩ := by
      obtain ⟨p', cap', h1, _, h3⟩ := hI.ex
      cases h1
      obtain ⟨b, o, _, _, _, h5, _⟩ := h3 (by omega)
      exact ⟨b, o, h5⟩
    have hl : (cut400 xs).length = 400 := by unfold cut400; rw [List.length_take]; omega
    refine fn_ofM (n := 11) [] Tryd.func23 rfl rfl rfl ?_
    intro a w F M hwW
    with_reducible refine c_seq ?_
    with_reducible refine c_region ?_
    refine stepD rfl F rfl (o_assign (F.ev rfl) ?_); clear F; clear a; intro a F
    with_reducible refine l_nil ?_
    with_reducible refine q_then ?_
    with_reducible refine c_seq ?_
    with_reducible refine c_seq ?_
    with_reducible refine c_region ?_
    refine stepD rfl F rfl (o_move (F.ev rfl) ?_); clear F; clear a; intro a F
    refine stepD rfl F rfl (o_lenSl (F.ev rfl) ?_); clear F; clear a; intro a F
    refine stepD rfl F rfl (o_gtrT (F.ev rfl) (F.ev rfl) (by omega) ?_); clear F; clear a; intro a F
    with_reducible refine l_nil ?_
    with_reducible refine q_then ?_
    refine c_true F rfl rfl ?_
    with_reducible refine c_region ?_
    refine stepD rfl F rfl (o_move (F.ev rfl) ?_); clear F; clear a; intro a F
    (refine stepD rfl F rfl (o_slH (F.ev rfl) (F.ev rfl) (fun a ha => by rw [hpp] at ha; cases ha; rfl) (by omega) (by omega) ?_); clear F; clear a; intro a F)
    refine stepD rfl F rfl (o_assign (F.ev rfl) ?_); clear F; clear a; intro a F
    with_reducible refine l_nil ?_
    with_reducible refine q_then ?_
    with_reducible refine c_seq ?_
    with_reducible refine c_region ?_
    refine stepD rfl F rfl (o_move (F.ev rfl) ?_); clear F; clear a; intro a F
    refine stepD rfl F rfl (o_build F rfl rfl ?_); clear F; clear a; intro a F
    (refine stepD rfl F rfl (o_box M (F.ev rfl) rfl ?_); clear F; clear M; intro bt w M a F)
    refine stepD rfl F rfl (o_assign (F.ev rfl) ?_); clear F; clear a; intro a F
    with_reducible refine l_nil ?_
    with_reducible refine q_then ?_
    with_reducible refine c_ret ?_
    refine p_ret F rfl (.cons (.tmp (F.ev rfl)) .nil) ?_
    refine ⟨bt, rfl, ?_⟩
    rw [hl]; exact M
  · have hl : (cut400 xs).length = xs.length := by unfold cut400; rw [List.length_take]; omega
    refine fn_ofM (n := 11) [] Tryd.func23 rfl rfl rfl ?_
    intro a w F M hwW
    with_reducible refine c_seq ?_
    with_reducible refine c_region ?_
    refine stepD rfl F rfl (o_assign (F.ev rfl) ?_); clear F; clear a; intro a F
    with_reducible refine l_nil ?_
    with_reducible refine q_then ?_
    with_reducible refine c_seq ?_
    with_reducible refine c_seq ?_
    with_reducible refine c_region ?_
    refine stepD rfl F rfl (o_move (F.ev rfl) ?_); clear F; clear a; intro a F
    refine stepD rfl F rfl (o_lenSl (F.ev rfl) ?_); clear F; clear a; intro a F
    refine stepD rfl F rfl (o_gtrF (F.ev rfl) (F.ev rfl) (by omega) ?_); clear F; clear a; intro a F
    with_reducible refine l_nil ?_
    with_reducible refine q_then ?_
    refine c_false F rfl rfl ?_
    with_reducible refine c_skip ?_
    with_reducible refine q_then ?_
    with_reducible refine c_seq ?_
    with_reducible refine c_region ?_
    refine stepD rfl F rfl (o_move (F.ev rfl) ?_); clear F; clear a; intro a F
    refine stepD rfl F rfl (o_build F rfl rfl ?_); clear F; clear a; intro a F
    (refine stepD rfl F rfl (o_box M (F.ev rfl) rfl ?_); clear F; clear M; intro bt w M a F)
    refine stepD rfl F rfl (o_assign (F.ev rfl) ?_); clear F; clear a; intro a F
    with_reducible refine l_nil ?_
    with_reducible refine q_then ?_
    with_reducible refine c_ret ?_
    refine p_ret F rfl (.cons (.tmp (F.ev rfl)) .nil) ?_
    refine ⟨bt, rfl, ?_⟩
    rw [hl]; exact M
theorem IntsAt.later {W w : World} {v : Value} {xs : List Int} (h : IntsAt W v xs) (E : Ext [] W w) : IntsAt w v xs := by
  refine ⟨?_, h.bd, h.small⟩
  obtain ⟨p, cap, h1, h2, h3⟩ := h.ex
  refine ⟨p, cap, h1, h2, fun hl => ?_⟩
  obtain ⟨b, o, cs, t, fz, g1, g2, g3⟩ := h3 hl
  exact ⟨b, o, cs, t, fz, g1, by rw [E.block b (Array.getElem?_eq_some_iff.1 g2).1 (by simp)]; exact g2, g3⟩
end Go.Proofs.YtadnpidadcgdcaaDoor

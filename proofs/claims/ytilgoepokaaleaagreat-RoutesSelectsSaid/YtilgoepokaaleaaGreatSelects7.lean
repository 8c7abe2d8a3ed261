/-
  PROVED: for every input RoutesSelects answers true, and each argument reads afterwards as it read before.
-/
import Derived.Test.YtilgoepokaaleaaGreatSelects6
/-! YL -/
namespace Go.Proofs.YtilgoepokaaleaaGreat
set_option linter.unusedVariables false
set_option linter.unusedSimpArgs false
open Go.RowKit
attribute [local irreducible] OpTo wpListIn Code.wpIn MW Cal
/-- one block may be turned, but keeps C -/
def keepRv (b : Nat) (t : TypeId) (C : List Value → Prop) : Keep where
 r := Ext []
 e w w' := Ext [b] w w' ∧ ∀ cs, C cs → w.heap[b]? = some (.cells cs.toArray t (0, 0)) → ∃ cs', C cs' ∧ w'.heap[b]? = some (.cells cs'.toArray t (0, 0))
 refl w := Ext.refl [] w
 re h := ⟨h.any, fun cs hc hb => ⟨cs, hc, by rw [h.block b (Array.getElem?_eq_some_iff.1 hb).1 (by simp)];exact hb⟩⟩
 trans h k := ⟨h.1.trans k.1, fun cs hc hb => by
  obtain ⟨c1, h1, h2⟩ := h.2 cs hc hb
  exact k.2 c1 h1 h2⟩
 size h := h.1.size
def RvC {α : Type} (Is : α → Prop) (enc : α → List Value) (n : Nat) (junk : List Value) (cs : List Value) : Prop := ∃ l : List α, l.length = n ∧ (∀ x ∈ l, Is x) ∧ cs = encL enc l ++ junk
def ElP {α : Type} (Is : α → Prop) (enc : α → List Value) : Pred := fun v _ => ∃ x, Is x ∧ v = .agg (enc x).toArray
theorem ElP.stays {α : Type} {Is : α → Prop} {enc : α → List Value} (K : Keep) : Stays K (ElP Is enc) := fun _ _ _ h _ => h
theorem mem_set {α : Type} {Is : α → Prop} {l : List α} {q : Nat} {x : α} (h : ∀ y ∈ l, Is y) (hx : Is x) : ∀ y ∈ l.set q x, Is y := fun y hy => by
 rcases List.mem_or_eq_of_mem_set hy with h1 | rfl
 ·exact h y h1
 ·exact hx
theorem kS_ip : IsIP [255, 0, 0, 0, 0, 0, 0, 0, 0, 0, 0, 0, 0, 0, 0, 0] := ⟨rfl, by intro x hx;simp at hx;omega⟩
def kSI : InsV := ⟨⟨[255, 0, 0, 0, 0, 0, 0, 0, 0, 0, 0, 0, 0, 0, 0, 0], 8, nul16, 0, 1⟩, 1, di0, -1, 0⟩
def kSR : RouV := ⟨⟨[255, 0, 0, 0, 0, 0, 0, 0, 0, 0, 0, 0, 0, 0, 0, 0], 8, nul16, 0, 1⟩, 1, di0, 0⟩
set_option maxHeartbeats 4000000 in
theorem reverseI_c {l : List InsV} (hx : ∀ x ∈ l, IsIn x) (hlen : l.length ≤ 100000) {b cp : Nat} (junk : List Value) (W : World) (hb : W.heap[b]? = some (.cells (insC l ++ junk).toArray 50 (0, 0))) :
  Cal Tryz.prog 65 [.slice (some ⟨b, 0, none⟩) l.length cp].toArray W fun _ w' => ∃ l', l'.length = l.length ∧ (∀ x ∈ l', IsIn x) ∧ Mem [b] W w' [(b, .cells (insC l' ++ junk).toArray 50 (0, 0))] := by
 refine fn_ofM (n := 28) [b] Tryz.func65 rfl rfl rfl ?_
 intro a w F M hwW
 replace M := M.came hwW hb (by simp) (by simp)
 clear hb
 refine c_seq (c_region ?_)
 refine sD F (o_move (F.e rfl) ?_);clear F a;intro a F
 refine sD F (o_lenSl (F.e rfl) ?_);clear F a;intro a F
 refine sD F (o_sub (F.e rfl) (F.e rfl) (w_i64 (by omega) (by omega)) ?_);clear F a;intro a F
 refine sD F (o_assign (F.e rfl) ?_);clear F a;intro a F
 refine sD F (o_assign (F.e rfl) ?_);clear F a;intro a F
 with_reducible refine l_nil (q_then (c_block ?_))
 refine c_loop (fun m a w => ∃ (i : Nat) (j : Int) (l' : List InsV), m = (j + 1 - i).toNat ∧ j < l.length ∧ -1 ≤ j ∧ l'.length = l.length ∧ (∀ x ∈ l', IsIn x) ∧ Frm a 28 [] [(2, .int .i64 i), (3, .int .i64 j), (0, .slice (some ⟨b, 0, none⟩) l.length cp)] ∧ Mem [b] W w [(b, .cells (insC l' ++ junk).toArray 50 (0, 0))]) _ ⟨0, (l.length : Int) - 1, l, rfl, by omega, by omega, rfl, hx, F.only [2, 3, 0] rfl, M⟩ ?_
 clear F M a
 rintro m a w ⟨i, j, l1, rfl, hj1, hj0, hl1, hx1, F, M⟩
 by_cases hlt : (i : Int) < j
 ·refine c_seq ?_
  refine c_seq (c_region ?_)
  refine sD F (o_move (F.e rfl) ?_);clear F a;intro a F
  refine sD F (o_move (F.e rfl) ?_);clear F a;intro a F
  refine sD F (o_lssT (F.e rfl) (F.e rfl) (by omega) ?_);clear F a;intro a F
  with_reducible refine l_nil (q_then ?_)
  refine c_true F rfl rfl ?_
  with_reducible refine c_skip (q_then (c_seq (c_block ?_)))
  replace F := F.only [2, 3, 0] rfl
  ·refine c_drawK (keepRv b 50 (RvC IsIn inC l.length junk)) [13, 15] [] noT 16 F (by kernel_rfl) rfl (fun h => absurd rfl h) (fun h => absurd rfl h) (noT.stays _) (fun _ _ _ => trivial) ?_
   intro w1 hE hsz hok hef
   have M1 := M.later hE
   have blk : ∀ w', (keepRv b 50 (RvC IsIn inC l.length junk)).e w1 w' → ∃ cs, RvC IsIn inC l.length junk cs ∧ w'.heap[b]? = some (.cells cs.toArray 50 (0, 0)) := fun w' e => e.2 _ ⟨l1, hl1, hx1, rfl⟩ (M1.heap .here)
   refine mK hok rfl rfl (fun a' w' F' E' => o_move (F'.e rfl) ⟨Ext.refl _ _, rfl⟩) ?_
   refine mK hok rfl rfl (fun a' w' F' E' => o_move (F'.e rfl) ⟨Ext.refl _ _, rfl⟩) ?_
   refine mK hok rfl rfl (fun a' w' F' E' => o_move (F'.e rfl) ⟨Ext.refl _ _, rfl⟩) ?_
   refine mK hok rfl rfl (fun a' w' F' E' => o_move (F'.e rfl) ⟨Ext.refl _ _, rfl⟩) ?_
   refine mK hok rfl rfl (fun a' w' F' E' => o_move (F'.e rfl) ⟨Ext.refl _ _, rfl⟩) ?_
   refine mK hok rfl rfl (fun a' w' F' E' => o_move (F'.e rfl) ⟨Ext.refl _ _, rfl⟩) ?_
   refine mK hok rfl rfl (fun a' w' F' E' => o_indexSl (F'.e rfl) (F'.e rfl) (by omega) (by omega) ⟨Ext.refl _ _, rfl⟩) ?_
   refine mX (V := ElP IsIn inC) hok rfl rfl (ElP.stays _) (fun a' w' F' E' D' => by
    obtain ⟨cs, ⟨l', h1, h2, rfl⟩, hh⟩ := blk w' E'
    exact o_loadHA (F'.e rfl) hh (own_el (ins_len h2) junk (i := j.toNat) (by omega) (by omega)) ⟨Ext.refl _ _, _, h2 _ (List.getElem_mem _), rfl⟩) ?_
   refine mK hok rfl rfl (fun a' w' F' E' => o_move (F'.e rfl) ⟨Ext.refl _ _, rfl⟩) ?_
   refine mK hok rfl rfl (fun a' w' F' E' => o_move (F'.e rfl) ⟨Ext.refl _ _, rfl⟩) ?_
   refine mK hok rfl rfl (fun a' w' F' E' => o_indexSl (F'.e rfl) (F'.e rfl) (by omega) (by omega) ⟨Ext.refl _ _, rfl⟩) ?_
   refine mX (V := ElP IsIn inC) hok rfl rfl (ElP.stays _) (fun a' w' F' E' D' => by
    obtain ⟨cs, ⟨l', h1, h2, rfl⟩, hh⟩ := blk w' E'
    exact o_loadHA (F'.e rfl) hh (own_el (ins_len h2) junk (i := i) (by omega) (by omega)) ⟨Ext.refl _ _, _, h2 _ (List.getElem_mem _), rfl⟩) ?_
   refine mK hok rfl rfl (fun a' w' F' E' => o_indexSl (F'.e rfl) (F'.e rfl) (by omega) (by omega) ⟨Ext.refl _ _, rfl⟩) ?_
   refine mENX (V := fun _ _ => True) (T' := noT) hok rfl (fun _ _ _ _ _ => trivial) (noT.stays _) (fun a' w' σ' F' E' D' S' T' => by
    obtain ⟨x, hx1, e⟩ := D' 7 (memDep rfl) (ElP IsIn inC) (by kernel_rfl)
    have F2 := F'.know (d := 21) e
    obtain ⟨cs, ⟨l', h1, h2, rfl⟩, hh⟩ := blk w' E'
    exact o_storeA ((Mem.start [b] w').came rfl hh (by simp) (by simp)) (F2.e rfl) (F2.e rfl) (in_len hx1) (in_one x) .here (encL_put (enc := inC) (ins_len h2) junk (i := i) (by omega) (put_all (by rw [in_len hx1, in_len (h2 _ (List.getElem_mem _))])) (by omega)) .here fun w'' M' => ⟨⟨M'.ext, fun _ _ _ => ⟨_, ⟨_, by simpa using h1, mem_set h2 hx1, rfl⟩, M'.heap .here⟩⟩, trivial, trivial⟩) ?_
   refine mK hok rfl rfl (fun a' w' F' E' => o_indexSl (F'.e rfl) (F'.e rfl) (by omega) (by omega) ⟨Ext.refl _ _, rfl⟩) ?_
   refine mENX (V := fun _ _ => True) (T' := noT) hok rfl (fun _ _ _ _ _ => trivial) (noT.stays _) (fun a' w' σ' F' E' D' S' T' => by
    obtain ⟨x, hx1, e⟩ := D' 11 (memDep rfl) (ElP IsIn inC) (by kernel_rfl)
    have F2 := F'.know (d := 25) e
    obtain ⟨cs, ⟨l', h1, h2, rfl⟩, hh⟩ := blk w' E'
    exact o_storeA ((Mem.start [b] w').came rfl hh (by simp) (by simp)) (F2.e rfl) (F2.e rfl) (in_len hx1) (in_one x) .here (encL_put (enc := inC) (ins_len h2) junk (i := j.toNat) (by omega) (put_all (by rw [in_len hx1, in_len (h2 _ (List.getElem_mem _))])) (by omega)) .here fun w'' M' => ⟨⟨M'.ext, fun _ _ _ => ⟨_, ⟨_, by simpa using h1, mem_set h2 hx1, rfl⟩, M'.heap .here⟩⟩, trivial, trivial⟩) ?_
   refine mDone rfl hef ?_
   clear F M
   intro a w F hE2 hX MT hDD hPP
   obtain ⟨cs, ⟨l2, h1, h2, rfl⟩, hh⟩ := blk w hE2
   have M : Mem [b] W w [(b, .cells (insC l2 ++ junk).toArray 50 (0, 0))] := M1.turned .here hE2.1 hh
   clear hX hDD hPP MT hE2 M1 hE hsz hok hef blk hh
   (try dsimp only at F)
   with_reducible refine l_nil (q_inB (q_then (c_region ?_)))
   refine sD F (o_move (F.e rfl) ?_);clear F a;intro a F
   refine sD F (o_add (F.e rfl) (F.e rfl) (w_i64 (by omega) (by omega)) ?_);clear F a;intro a F
   refine sD F (o_move (F.e rfl) ?_);clear F a;intro a F
   refine sD F (o_sub (F.e rfl) (F.e rfl) (w_i64 (by omega) (by omega)) ?_);clear F a;intro a F
   refine sD F (o_assign (F.e rfl) ?_);clear F a;intro a F
   refine sD F (o_assign (F.e rfl) ?_);clear F a;intro a F
   with_reducible refine l_nil (q_then ?_)
   exact ⟨_, by omega, i + 1, j - 1, l2, rfl, by omega, by omega, h1, h2, F.only [2, 3, 0] rfl, M⟩
 ·refine c_seq ?_
  refine c_seq (c_region ?_)
  refine sD F (o_move (F.e rfl) ?_);clear F a;intro a F
  refine sD F (o_move (F.e rfl) ?_);clear F a;intro a F
  refine sD F (o_lssF (F.e rfl) (F.e rfl) (by omega) ?_);clear F a;intro a F
  with_reducible refine l_nil (q_then ?_)
  refine c_false F rfl rfl ?_
  with_reducible refine c_exit (q_thenX (q_thenX (q_inBX ?_)))
  refine p_ret F rfl .nil ?_
  exact ⟨l1, hl1, hx1, M⟩
set_option maxHeartbeats 2000000 in
theorem cloneI_c (l : List InsV) (hlen : l.length ≤ 100000) (v : Value) (W : World) (hS : SlAt W 40 v l.length (insC l)) :
  Cal Tryz.prog 64 [v].toArray W fun r w' => ∃ ent, OwnS 50 40 r l.length (insC l) ent ∧ (∀ b o s c, r = .slice (some ⟨b, o, s⟩) l.length c → l.length = 0 → c = 0) ∧ Mem [] W w' ent := by
 obtain ⟨q, cap, hq, _⟩ := id hS
 cases q with
 | none =>
  have hn : l.length = 0 := by
   obtain ⟨q', cap', h2, _, _, _, h3⟩ := hS
   rw [hq] at h2
   cases h2
   rcases Nat.eq_zero_or_pos l.length with h | h
   ·exact h
   ·obtain ⟨_, _, _, _, _, h4, _⟩ := h3 h
    cases h4
  have hxs : l = [] := List.length_eq_zero_iff.1 hn
  subst hxs
  rw [hq]
  refine fn_ofM (n := 8) [] Tryz.func64 rfl rfl rfl ?_
  intro a w F M hwW
  refine c_seq (c_region ?_)
  refine sD F (o_assign (F.e rfl) ?_);clear F a;intro a F
  with_reducible refine l_nil (q_then (c_seq (c_seq (c_region ?_))))
  refine sD F (o_move (F.e rfl) ?_);clear F a;intro a F
  (refine sD F (o_eqlNil (F.e rfl) (F.e rfl) ?_);clear F a;intro a F)
  with_reducible refine l_nil (q_then ?_)
  refine c_true F rfl rfl ?_
  refine c_seq (c_region ?_)
  refine sD F (o_assign (F.e rfl) ?_);clear F a;intro a F
  with_reducible refine l_nil (q_then (c_ret (q_thenR ?_)))
  refine p_ret F rfl (.cons (.tmp (F.e rfl)) .nil) ?_
  exact ⟨[], OwnS.nil _ _, fun b o s c h => (by cases h), M⟩
 | some a0 =>
  rw [hq] at hS ⊢
  refine fn_ofM (n := 8) [] Tryz.func64 rfl rfl rfl ?_
  intro a w F M hwW
  refine c_seq (c_region ?_)
  refine sD F (o_assign (F.e rfl) ?_);clear F a;intro a F
  with_reducible refine l_nil (q_then (c_seq (c_seq (c_region ?_))))
  refine sD F (o_move (F.e rfl) ?_);clear F a;intro a F
  (refine sD F (o_eqlNil (F.e rfl) (F.e rfl) ?_);clear F a;intro a F)
  with_reducible refine l_nil (q_then ?_)
  refine c_false F rfl rfl ?_
  with_reducible refine c_skip (q_then (c_seq (c_region ?_)))
  (refine sD F (o_buildSlice F M rfl rfl rfl rfl ?_);clear F M;intro b5 w M a F)
  refine sD F (o_move (F.e rfl) ?_);clear F a;intro a F
  have hSw := hS.later M.ext
  by_cases hn : l.length = 0
  ·have hxs : l = [] := List.length_eq_zero_iff.1 hn
   subst hxs
   (refine sD F (o_append0 (F.e rfl) (F.e rfl) (by omega) (hSw.src (by simp [encL])) ?_);clear F a;intro a F)
   refine sD F (o_assign (F.e rfl) ?_);clear F a;intro a F
   with_reducible refine l_nil (q_then (c_ret ?_))
   refine p_ret F rfl (.cons (.tmp (F.e rfl)) .nil) ?_
   exact ⟨[(b5, _)], .inr ⟨b5, 0, [], rfl, rfl, by simp [encL], by simp, by simp⟩, fun b o s c h _ => (by cases h;rfl), M⟩
  ·have hO5 : OwnS 50 40 (.slice (some ⟨b5, 0, none⟩) 0 0) 0 [] [(b5, .cells ([] : List Value).toArray 50 (0, 0))] := .inr ⟨b5, 0, [], rfl, rfl, by simp, by simp, by simp⟩
   (refine sD F (o_append hO5 M .here (F.e rfl) (F.e rfl) (hSw.src ins_one) (by omega) (by omega) ?_);clear F M;intro u ent w hO M a F)
   rw [Nat.zero_add, List.nil_append] at hO
   refine sD F (o_assign (F.e rfl) ?_);clear F a;intro a F
   with_reducible refine l_nil (q_then (c_ret ?_))
   refine p_ret F rfl (.cons (.tmp (F.e rfl)) .nil) ?_
   exact ⟨ent, hO, fun b o s c _ h => absurd h hn, M⟩
set_option maxHeartbeats 16000000 in
theorem spoiledI_c {bt : Nat} {p : Option Addr} {len cap k : Nat} {xs : List Int} (l : List InsV) (hx : ∀ x ∈ l, IsIn x) (hlen : l.length ≤ 1000) (v : Value) (W : World) (hS : SlAt W 40 v l.length (insC l)) (hnb : ∀ b o s k c, v = .slice (some ⟨b, o, s⟩) k c → b ∉ [bt]) (hT : TapeS W bt p len xs) (hb : W.heap[bt]? = some (tobj p len cap k)) :
  Cal Tryz.prog 25 [.pointer (some ⟨bt, 0, none⟩), v].toArray W fun r w' => ∃ (m : List InsV) (k' : Nat), SlN W.heap.size w' 40 r m.length (insC m) ∧ (∀ x ∈ m, IsIn x) ∧ m.length ≤ l.length + 1 ∧ Mem [bt] W w' [(bt, tobj p len cap k')] := by
 have hbt : bt < W.heap.size := (Array.getElem?_eq_some_iff.1 hb).1
 have kI : IsIn kSI := ⟨⟨kS_ip, nul16_is⟩, trivial⟩
 refine fn_ofM (n := 63) [bt] Tryz.func25 rfl rfl rfl ?_
 intro a w F M hwW
 replace M := M.came hwW hb (by simp) (by simp)
 refine c_seq (c_region ?_)
 refine sD F (o_assign (F.e rfl) ?_);clear F a;intro a F
 with_reducible refine l_nil (q_then (c_seq (c_region ?_)))
 refine sD F (o_move (F.e rfl) ?_);clear F a;intro a F
 (refine sD F (o_call (F.e rfl) (F.evs rfl) (Cal.mono (cloneI_c l (by omega) v _ (hS.laterB hnb M.ext) ) ?_));clear F;clear a;rintro _ w ⟨es, hO, _, N⟩ a F;replace M := M.joins N;clear N)
 obtain ⟨p0, c0, rfl⟩ := hO.slice
 replace M := M.perm (l' := (bt, tobj p len cap k) :: es) (by classical exact List.perm_iff_count.2 fun _ => by simp only [List.count_append, List.count_cons, List.count_nil, Nat.add_zero, Nat.zero_add] <;> ac_rfl)
 refine sD F (o_build F rfl rfl ?_);clear F a;intro a F
 refine sD F (o_build F rfl rfl ?_);clear F a;intro a F
 refine sD F (o_build F rfl rfl ?_);clear F a;intro a F
 refine sD F (o_build F rfl rfl ?_);clear F a;intro a F
 (refine sD F (o_buildSlice F M rfl rfl rfl (in_build1 kI) ?_);clear F M;intro b13 w M a F)
 (refine sD F (o_append hO M (.cons (.cons .here)) (F.e rfl) (F.e rfl) (SrcOf.cells' (M.heap .here) (sg_all (in_len kI)) (in_one _)) (by omega) (by omega) ?_);clear F M;intro u es1 w hO1 M a F)
 replace hO1 : OwnS 50 40 u (l ++ [kSI]).length (insC (l ++ [kSI])) es1 := by
  show OwnS _ 40 _ (l ++ [kSI]).length (encL inC (l ++ [kSI])) _
  rw [show (l ++ [kSI]).length = l.length + 1 by simp, encL_app, encL_one]
  exact hO1
 have hoi : ∀ y ∈ l ++ [kSI], IsIn y := fun y hy => by
  rcases List.mem_append.1 hy with h | h
  ·exact hx y h
  ·simp only [List.mem_singleton] at h
   rw [h];exact kI
 have hol : (l ++ [kSI]).length = l.length + 1 := by simp
 generalize l ++ [kSI] = out at *
 rcases hO1 with ⟨_, h0, _, _⟩ | ⟨b, cp, junk, rfl, rfl, hxl, hjl, hnc⟩
 ·omega
 replace M := M.sub (l' := [(bt, tobj p len cap k), (b, .cells (insC out ++ junk).toArray 50 (0, 0))]) (.cons _ (.refl _))
 replace F := F.only [14, 0] rfl
 have hol2 : (0 : Int) < out.length := by omega
 refine sD F (o_assign (F.e rfl) ?_);clear F a;intro a F
 with_reducible refine l_nil (q_then (c_seq (c_region ?_)))
 refine sD F (o_move (F.e rfl) ?_);clear F a;intro a F
 refine sD F (o_move (F.e rfl) ?_);clear F a;intro a F
 refine sD F (o_move (F.e rfl) ?_);clear F a;intro a F
 refine sD F (o_lenSl (F.e rfl) ?_);clear F a;intro a F
 (refine sD F (o_call (F.e rfl) (F.evs rfl) (Cal.mono (nextE_c out.length hol2 (by omega) _ (hT.later M.ext) (M.heap .here) ) ?_));clear F;clear a;have M0 := M;clear M;rintro _ w ⟨q, k2, rfl, hq, N⟩ a F)
 replace M := M0.turn1 N .here
 clear M0 N
 obtain ⟨qn, rfl⟩ := Int.eq_ofNat_of_zero_le hq.1
 have hqn : qn < out.length := by omega
 have hqi : IsIn out[qn] := hoi _ (List.getElem_mem hqn)
 have hsz := ins_len hoi
 refine sD F (o_indexSl (F.e rfl) (F.e rfl) (by omega) (by omega) ?_);clear F a;intro a F
 refine sD F (o_assign (F.e rfl) ?_);clear F a;intro a F
 with_reducible refine l_nil (q_then (c_seq (c_seq (c_region ?_))))
 refine sD F (o_move (F.e rfl) ?_);clear F a;intro a F
 (refine sD F (o_call (F.e rfl) (F.evs rfl) (Cal.mono (nextE_c 7 (by omega) (by omega) _ (hT.later M.ext) (M.heap .here) ) ?_));clear F;clear a;have M0 := M;clear M;rintro _ w ⟨z, k3, rfl, hz, N⟩ a F)
 replace M := M0.turn1 N .here
 clear M0 N
 have fin : ∀ o' : List InsV, o'.length = out.length → (∀ y ∈ o', IsIn y) → OwnS 50 40 (.slice (some ⟨b, 0, none⟩) out.length cp) o'.length (insC o') [(b, .cells (insC o' ++ junk).toArray 50 (0, 0))] := fun o' e i => .inr ⟨b, cp, junk, by rw [e], rfl, encL_len (ins_len i), by rw [e];exact hjl, by rw [e];exact hnc⟩
 refine l_nil ?_
 refine q_then ?_
 repeat (refine c_seq ?_)
 refine c_cut (fun a w => ∃ (k4 : Nat) (m : List InsV), m.length = out.length ∧ (∀ x ∈ m, IsIn x) ∧ Frm a 63 [] [(5, .slice (some ⟨b, 0, none⟩) out.length cp)] ∧ Mem [bt] W w [(bt, tobj p len cap k4), (b, .cells (insC m ++ junk).toArray 50 (0, 0))]) ?_ ?_
 ·by_cases z0 : z = 0
  ·have ph : put (insC out ++ junk) (0 + (qn : Int).toNat * 40 + 35) [.int .u64 0] = some (insC (out.set qn { out[qn] with nb := 0 }) ++ junk) := encL_put (enc := inC) hsz junk hqn (in_put_nb hqi 0) (by omega)
   with_reducible refine c_block (c_seq (c_region ?_))
   refine sD F (o_eqlT (F.e rfl) (F.e rfl) (by omega) ?_);clear F a;intro a F
   refine sD F (o_assign (F.e rfl) ?_);clear F a;intro a F
   with_reducible refine l_nil (q_then ?_)
   refine c_true F rfl rfl ?_
   refine c_region ?_
   refine sD F (o_move (F.e rfl) ?_);clear F a;intro a F
   refine sD F (o_nilCheck (F.e rfl) rfl ?_);clear F a;intro a F
   refine sD F (o_fieldAddr (F.e rfl) ?_);clear F a;intro a F
   (refine stepN rfl F (o_store1 M (F.e rfl) (F.e rfl) rfl (by repeat constructor) (ph) (by repeat constructor) ?_);clear F M;intro w M a F)
   with_reducible refine l_nil (q_inB ?_)
   exact ⟨k3, _, by simp, mem_set hoi (x := { out[qn] with nb := 0 }) hqi, F.only [5] rfl, M⟩
  by_cases z1 : z = 1
  ·have ph : put (insC out ++ junk) (0 + (qn : Int).toNat * 40 + 36 + 1) [.int .i64 65535] = some (insC (out.set qn { out[qn] with own := { out[qn].own with met := 65535 } }) ++ junk) := encL_put (enc := inC) hsz junk hqn (in_put_own_met hqi 65535) (by omega)
   with_reducible refine c_block (c_seq (c_region ?_))
   refine sD F (o_eqlF (F.e rfl) (F.e rfl) (by omega) ?_);clear F a;intro a F
   refine sD F (o_assign (F.e rfl) ?_);clear F a;intro a F
   with_reducible refine l_nil (q_then ?_)
   refine c_false F rfl rfl ?_
   refine c_seq (c_region ?_)
   refine sD F (o_eqlT (F.e rfl) (F.e rfl) (by omega) ?_);clear F a;intro a F
   refine sD F (o_assign (F.e rfl) ?_);clear F a;intro a F
   with_reducible refine l_nil (q_then ?_)
   refine c_true F rfl rfl ?_
   refine c_region ?_
   refine sD F (o_move (F.e rfl) ?_);clear F a;intro a F
   refine sD F (o_nilCheck (F.e rfl) rfl ?_);clear F a;intro a F
   refine sD F (o_fieldAddr (F.e rfl) ?_);clear F a;intro a F
   refine sD F (o_fieldAddr (F.e rfl) ?_);clear F a;intro a F
   (refine stepN rfl F (o_store1 M (F.e rfl) (F.e rfl) rfl (by repeat constructor) (ph) (by repeat constructor) ?_);clear F M;intro w M a F)
   with_reducible refine l_nil (q_inB ?_)
   exact ⟨k3, _, by simp, mem_set hoi (x := { out[qn] with own := { out[qn].own with met := 65535 } }) hqi, F.only [5] rfl, M⟩
  by_cases z2 : z = 2
  ·refine c_block ?_
   refine c_seq (c_region ?_)
   refine sD F (o_eqlF (F.e rfl) (F.e rfl) (by omega) ?_);clear F a;intro a F
   refine sD F (o_assign (F.e rfl) ?_);clear F a;intro a F
   with_reducible refine l_nil (q_then ?_)
   refine c_false F rfl rfl ?_
   refine c_seq (c_region ?_)
   refine sD F (o_eqlF (F.e rfl) (F.e rfl) (by omega) ?_);clear F a;intro a F
   refine sD F (o_assign (F.e rfl) ?_);clear F a;intro a F
   with_reducible refine l_nil (q_then ?_)
   refine c_false F rfl rfl ?_
   refine c_seq (c_region ?_)
   refine sD F (o_eqlT (F.e rfl) (F.e rfl) (by omega) ?_);clear F a;intro a F
   refine sD F (o_assign (F.e rfl) ?_);clear F a;intro a F
   with_reducible refine l_nil (q_then ?_)
   refine c_true F rfl rfl ?_
   refine c_region ?_
   refine sD F (o_move (F.e rfl) ?_);clear F a;intro a F
   refine sD F (o_move (F.e rfl) ?_);clear F a;intro a F
   (refine sD F (o_call (F.e rfl) (F.evs rfl) (Cal.mono (nextE_c 2 (by omega) (by omega) _ (hT.later M.ext) (M.heap .here) ) ?_));clear F;clear a;have M0 := M;clear M;rintro _ w ⟨z9, k9, rfl, hz9, N⟩ a F)
   replace M := M0.turn1 N .here
   clear M0 N
   have ph : put (insC out ++ junk) (0 + (qn : Int).toNat * 40 + 39) [.int .i64 (5 - 6 * z9)] = some (insC (out.set qn { out[qn] with til := (5 - 6 * z9) }) ++ junk) := encL_put (enc := inC) hsz junk hqn (in_put_til hqi (5 - 6 * z9)) (by omega)
   refine sD F (o_mul (F.e rfl) (F.e rfl) (w_i64 (by omega) (by omega)) ?_);clear F a;intro a F
   refine sD F (o_sub (F.e rfl) (F.e rfl) (w_i64 (by omega) (by omega)) ?_);clear F a;intro a F
   refine sD F (o_nilCheck (F.e rfl) rfl ?_);clear F a;intro a F
   refine sD F (o_fieldAddr (F.e rfl) ?_);clear F a;intro a F
   (refine stepN rfl F (o_store1 M (F.e rfl) (F.e rfl) rfl (by repeat constructor) (ph) (by repeat constructor) ?_);clear F M;intro w M a F)
   with_reducible refine l_nil (q_inB ?_)
   exact ⟨k9, _, by simp, mem_set hoi (x := { out[qn] with til := (5 - 6 * z9) }) hqi, F.only [5] rfl, M⟩
  by_cases z3 : z = 3
  ·have ph : put (insC out ++ junk) (0 + (qn : Int).toNat * 40 + 0 + 34) [.int .u64 0] = some (insC (out.set qn { out[qn] with to := { out[qn].to with rt := 0 } }) ++ junk) := encL_put (enc := inC) hsz junk hqn (in_put_to_rt hqi 0) (by omega)
   with_reducible refine c_block (c_seq (c_region ?_))
   refine sD F (o_eqlF (F.e rfl) (F.e rfl) (by omega) ?_);clear F a;intro a F
   refine sD F (o_assign (F.e rfl) ?_);clear F a;intro a F
   with_reducible refine l_nil (q_then ?_)
   refine c_false F rfl rfl ?_
   refine c_seq (c_region ?_)
   refine sD F (o_eqlF (F.e rfl) (F.e rfl) (by omega) ?_);clear F a;intro a F
   refine sD F (o_assign (F.e rfl) ?_);clear F a;intro a F
   with_reducible refine l_nil (q_then ?_)
   refine c_false F rfl rfl ?_
   refine c_seq (c_region ?_)
   refine sD F (o_eqlF (F.e rfl) (F.e rfl) (by omega) ?_);clear F a;intro a F
   refine sD F (o_assign (F.e rfl) ?_);clear F a;intro a F
   with_reducible refine l_nil (q_then ?_)
   refine c_false F rfl rfl ?_
   refine c_seq (c_region ?_)
   refine sD F (o_eqlT (F.e rfl) (F.e rfl) (by omega) ?_);clear F a;intro a F
   refine sD F (o_assign (F.e rfl) ?_);clear F a;intro a F
   with_reducible refine l_nil (q_then ?_)
   refine c_true F rfl rfl ?_
   refine c_region ?_
   refine sD F (o_move (F.e rfl) ?_);clear F a;intro a F
   refine sD F (o_nilCheck (F.e rfl) rfl ?_);clear F a;intro a F
   refine sD F (o_fieldAddr (F.e rfl) ?_);clear F a;intro a F
   refine sD F (o_fieldAddr (F.e rfl) ?_);clear F a;intro a F
   (refine stepN rfl F (o_store1 M (F.e rfl) (F.e rfl) rfl (by repeat constructor) (ph) (by repeat constructor) ?_);clear F M;intro w M a F)
   with_reducible refine l_nil (q_inB ?_)
   exact ⟨k3, _, by simp, mem_set hoi (x := { out[qn] with to := { out[qn].to with rt := 0 } }) hqi, F.only [5] rfl, M⟩
  by_cases z4 : z = 4
  ·have ph : put (insC out ++ junk) (0 + (qn : Int).toNat * 40 + 38) [.int .i64 (-2)] = some (insC (out.set qn { out[qn] with btn := (-2) }) ++ junk) := encL_put (enc := inC) hsz junk hqn (in_put_btn hqi (-2)) (by omega)
   with_reducible refine c_block (c_seq (c_region ?_))
   refine sD F (o_eqlF (F.e rfl) (F.e rfl) (by omega) ?_);clear F a;intro a F
   refine sD F (o_assign (F.e rfl) ?_);clear F a;intro a F
   with_reducible refine l_nil (q_then ?_)
   refine c_false F rfl rfl ?_
   refine c_seq (c_region ?_)
   refine sD F (o_eqlF (F.e rfl) (F.e rfl) (by omega) ?_);clear F a;intro a F
   refine sD F (o_assign (F.e rfl) ?_);clear F a;intro a F
   with_reducible refine l_nil (q_then ?_)
   refine c_false F rfl rfl ?_
   refine c_seq (c_region ?_)
   refine sD F (o_eqlF (F.e rfl) (F.e rfl) (by omega) ?_);clear F a;intro a F
   refine sD F (o_assign (F.e rfl) ?_);clear F a;intro a F
   with_reducible refine l_nil (q_then ?_)
   refine c_false F rfl rfl ?_
   refine c_seq (c_region ?_)
   refine sD F (o_eqlF (F.e rfl) (F.e rfl) (by omega) ?_);clear F a;intro a F
   refine sD F (o_assign (F.e rfl) ?_);clear F a;intro a F
   with_reducible refine l_nil (q_then ?_)
   refine c_false F rfl rfl ?_
   refine c_seq (c_region ?_)
   refine sD F (o_eqlT (F.e rfl) (F.e rfl) (by omega) ?_);clear F a;intro a F
   refine sD F (o_assign (F.e rfl) ?_);clear F a;intro a F
   with_reducible refine l_nil (q_then ?_)
   refine c_true F rfl rfl ?_
   refine c_region ?_
   refine sD F (o_move (F.e rfl) ?_);clear F a;intro a F
   refine sD F (o_nilCheck (F.e rfl) rfl ?_);clear F a;intro a F
   refine sD F (o_fieldAddr (F.e rfl) ?_);clear F a;intro a F
   (refine stepN rfl F (o_store1 M (F.e rfl) (F.e rfl) rfl (by repeat constructor) (ph) (by repeat constructor) ?_);clear F M;intro w M a F)
   with_reducible refine l_nil (q_inB ?_)
   exact ⟨k3, _, by simp, mem_set hoi (x := { out[qn] with btn := (-2) }) hqi, F.only [5] rfl, M⟩
  by_cases z5 : z = 5
  ·have ph : put (insC out ++ junk) (0 + (qn : Int).toNat * 40 + 36 + 1) [.int .i64 5] = some (insC (out.set qn { out[qn] with own := { out[qn].own with met := 5 } }) ++ junk) := encL_put (enc := inC) hsz junk hqn (in_put_own_met hqi 5) (by omega)
   with_reducible refine c_block (c_seq (c_region ?_))
   refine sD F (o_eqlF (F.e rfl) (F.e rfl) (by omega) ?_);clear F a;intro a F
   refine sD F (o_assign (F.e rfl) ?_);clear F a;intro a F
   with_reducible refine l_nil (q_then ?_)
   refine c_false F rfl rfl ?_
   refine c_seq (c_region ?_)
   refine sD F (o_eqlF (F.e rfl) (F.e rfl) (by omega) ?_);clear F a;intro a F
   refine sD F (o_assign (F.e rfl) ?_);clear F a;intro a F
   with_reducible refine l_nil (q_then ?_)
   refine c_false F rfl rfl ?_
   refine c_seq (c_region ?_)
   refine sD F (o_eqlF (F.e rfl) (F.e rfl) (by omega) ?_);clear F a;intro a F
   refine sD F (o_assign (F.e rfl) ?_);clear F a;intro a F
   with_reducible refine l_nil (q_then ?_)
   refine c_false F rfl rfl ?_
   refine c_seq (c_region ?_)
   refine sD F (o_eqlF (F.e rfl) (F.e rfl) (by omega) ?_);clear F a;intro a F
   refine sD F (o_assign (F.e rfl) ?_);clear F a;intro a F
   with_reducible refine l_nil (q_then ?_)
   refine c_false F rfl rfl ?_
   refine c_seq (c_region ?_)
   refine sD F (o_eqlF (F.e rfl) (F.e rfl) (by omega) ?_);clear F a;intro a F
   refine sD F (o_assign (F.e rfl) ?_);clear F a;intro a F
   with_reducible refine l_nil (q_then ?_)
   refine c_false F rfl rfl ?_
   refine c_seq (c_region ?_)
   refine sD F (o_eqlT (F.e rfl) (F.e rfl) (by omega) ?_);clear F a;intro a F
   refine sD F (o_assign (F.e rfl) ?_);clear F a;intro a F
   with_reducible refine l_nil (q_then ?_)
   refine c_true F rfl rfl ?_
   refine c_region ?_
   refine sD F (o_move (F.e rfl) ?_);clear F a;intro a F
   refine sD F (o_nilCheck (F.e rfl) rfl ?_);clear F a;intro a F
   refine sD F (o_fieldAddr (F.e rfl) ?_);clear F a;intro a F
   refine sD F (o_fieldAddr (F.e rfl) ?_);clear F a;intro a F
   (refine stepN rfl F (o_store1 M (F.e rfl) (F.e rfl) rfl (by repeat constructor) (ph) (by repeat constructor) ?_);clear F M;intro w M a F)
   with_reducible refine l_nil (q_inB ?_)
   exact ⟨k3, _, by simp, mem_set hoi (x := { out[qn] with own := { out[qn].own with met := 5 } }) hqi, F.only [5] rfl, M⟩
  ·refine c_block ?_
   refine c_seq (c_region ?_)
   refine sD F (o_eqlF (F.e rfl) (F.e rfl) (by omega) ?_);clear F a;intro a F
   refine sD F (o_assign (F.e rfl) ?_);clear F a;intro a F
   with_reducible refine l_nil (q_then ?_)
   refine c_false F rfl rfl ?_
   refine c_seq (c_region ?_)
   refine sD F (o_eqlF (F.e rfl) (F.e rfl) (by omega) ?_);clear F a;intro a F
   refine sD F (o_assign (F.e rfl) ?_);clear F a;intro a F
   with_reducible refine l_nil (q_then ?_)
   refine c_false F rfl rfl ?_
   refine c_seq (c_region ?_)
   refine sD F (o_eqlF (F.e rfl) (F.e rfl) (by omega) ?_);clear F a;intro a F
   refine sD F (o_assign (F.e rfl) ?_);clear F a;intro a F
   with_reducible refine l_nil (q_then ?_)
   refine c_false F rfl rfl ?_
   refine c_seq (c_region ?_)
   refine sD F (o_eqlF (F.e rfl) (F.e rfl) (by omega) ?_);clear F a;intro a F
   refine sD F (o_assign (F.e rfl) ?_);clear F a;intro a F
   with_reducible refine l_nil (q_then ?_)
   refine c_false F rfl rfl ?_
   refine c_seq (c_region ?_)
   refine sD F (o_eqlF (F.e rfl) (F.e rfl) (by omega) ?_);clear F a;intro a F
   refine sD F (o_assign (F.e rfl) ?_);clear F a;intro a F
   with_reducible refine l_nil (q_then ?_)
   refine c_false F rfl rfl ?_
   refine c_seq (c_region ?_)
   refine sD F (o_eqlF (F.e rfl) (F.e rfl) (by omega) ?_);clear F a;intro a F
   refine sD F (o_assign (F.e rfl) ?_);clear F a;intro a F
   with_reducible refine l_nil (q_then ?_)
   refine c_false F rfl rfl ?_
   refine c_region ?_
   refine sD F (o_move (F.e rfl) ?_);clear F a;intro a F
   (refine sD F (o_call (F.e rfl) (F.evs rfl) (Cal.mono (reverseI_c hoi (by omega) junk _ (M.heap (.there .here)) ) ?_));clear F;clear a;have M0 := M;clear M;rintro _ w ⟨o', l1, i1, N⟩ a F)
   replace M := M0.turn1 N (.there .here)
   clear M0 N
   with_reducible refine l_nil (q_inB ?_)
   exact ⟨k3, o', l1, i1, F.only [5] rfl, M⟩
 clear F M a
 rintro a w ⟨k4, m, hm1, hm2, F, M⟩
 have hO3 := (fin m hm1 hm2).slN M (fun q hq => by simp [hq]) (nd_not M.nd (fun q hq => hq))
 with_reducible refine q_then (c_seq (c_region ?_))
 refine sD F (o_move (F.e rfl) ?_);clear F a;intro a F
 refine sD F (o_assign (F.e rfl) ?_);clear F a;intro a F
 with_reducible refine l_nil (q_then (c_ret ?_))
 refine p_ret F rfl (.cons (.tmp (F.e rfl)) .nil) ?_
 exact ⟨m, k4, hO3, hm2, by omega, M.sub (.cons_cons _ (List.nil_sublist _))⟩
set_option maxHeartbeats 4000000 in
theorem reverseR_c {l : List RouV} (hx : ∀ x ∈ l, IsRo x) (hlen : l.length ≤ 100000) {b cp : Nat} (junk : List Value) (W : World) (hb : W.heap[b]? = some (.cells (rosC l ++ junk).toArray 53 (0, 0))) :
  Cal Tryz.prog 73 [.slice (some ⟨b, 0, none⟩) l.length cp].toArray W fun _ w' => ∃ l', l'.length = l.length ∧ (∀ x ∈ l', IsRo x) ∧ Mem [b] W w' [(b, .cells (rosC l' ++ junk).toArray 53 (0, 0))] := by
 refine fn_ofM (n := 28) [b] Tryz.func73 rfl rfl rfl ?_
 intro a w F M hwW
 replace M := M.came hwW hb (by simp) (by simp)
 clear hb
 refine c_seq (c_region ?_)
 refine sD F (o_move (F.e rfl) ?_);clear F a;intro a F
 refine sD F (o_lenSl (F.e rfl) ?_);clear F a;intro a F
 refine sD F (o_sub (F.e rfl) (F.e rfl) (w_i64 (by omega) (by omega)) ?_);clear F a;intro a F
 refine sD F (o_assign (F.e rfl) ?_);clear F a;intro a F
 refine sD F (o_assign (F.e rfl) ?_);clear F a;intro a F
 with_reducible refine l_nil (q_then (c_block ?_))
 refine c_loop (fun m a w => ∃ (i : Nat) (j : Int) (l' : List RouV), m = (j + 1 - i).toNat ∧ j < l.length ∧ -1 ≤ j ∧ l'.length = l.length ∧ (∀ x ∈ l', IsRo x) ∧ Frm a 28 [] [(2, .int .i64 i), (3, .int .i64 j), (0, .slice (some ⟨b, 0, none⟩) l.length cp)] ∧ Mem [b] W w [(b, .cells (rosC l' ++ junk).toArray 53 (0, 0))]) _ ⟨0, (l.length : Int) - 1, l, rfl, by omega, by omega, rfl, hx, F.only [2, 3, 0] rfl, M⟩ ?_
 clear F M a
 rintro m a w ⟨i, j, l1, rfl, hj1, hj0, hl1, hx1, F, M⟩
 by_cases hlt : (i : Int) < j
 ·refine c_seq ?_
  refine c_seq (c_region ?_)
  refine sD F (o_move (F.e rfl) ?_);clear F a;intro a F
  refine sD F (o_move (F.e rfl) ?_);clear F a;intro a F
  refine sD F (o_lssT (F.e rfl) (F.e rfl) (by omega) ?_);clear F a;intro a F
  with_reducible refine l_nil (q_then ?_)
  refine c_true F rfl rfl ?_
  with_reducible refine c_skip (q_then (c_seq (c_block ?_)))
  replace F := F.only [2, 3, 0] rfl
  ·refine c_drawK (keepRv b 53 (RvC IsRo roC l.length junk)) [13, 15] [] noT 16 F (by kernel_rfl) rfl (fun h => absurd rfl h) (fun h => absurd rfl h) (noT.stays _) (fun _ _ _ => trivial) ?_
   intro w1 hE hsz hok hef
   have M1 := M.later hE
   have blk : ∀ w', (keepRv b 53 (RvC IsRo roC l.length junk)).e w1 w' → ∃ cs, RvC IsRo roC l.length junk cs ∧ w'.heap[b]? = some (.cells cs.toArray 53 (0, 0)) := fun w' e => e.2 _ ⟨l1, hl1, hx1, rfl⟩ (M1.heap .here)
   refine mK hok rfl rfl (fun a' w' F' E' => o_move (F'.e rfl) ⟨Ext.refl _ _, rfl⟩) ?_
   refine mK hok rfl rfl (fun a' w' F' E' => o_move (F'.e rfl) ⟨Ext.refl _ _, rfl⟩) ?_
   refine mK hok rfl rfl (fun a' w' F' E' => o_move (F'.e rfl) ⟨Ext.refl _ _, rfl⟩) ?_
   refine mK hok rfl rfl (fun a' w' F' E' => o_move (F'.e rfl) ⟨Ext.refl _ _, rfl⟩) ?_
   refine mK hok rfl rfl (fun a' w' F' E' => o_move (F'.e rfl) ⟨Ext.refl _ _, rfl⟩) ?_
   refine mK hok rfl rfl (fun a' w' F' E' => o_move (F'.e rfl) ⟨Ext.refl _ _, rfl⟩) ?_
   refine mK hok rfl rfl (fun a' w' F' E' => o_indexSl (F'.e rfl) (F'.e rfl) (by omega) (by omega) ⟨Ext.refl _ _, rfl⟩) ?_
   refine mX (V := ElP IsRo roC) hok rfl rfl (ElP.stays _) (fun a' w' F' E' D' => by
    obtain ⟨cs, ⟨l', h1, h2, rfl⟩, hh⟩ := blk w' E'
    exact o_loadHA (F'.e rfl) hh (own_el (ros_len h2) junk (i := j.toNat) (by omega) (by omega)) ⟨Ext.refl _ _, _, h2 _ (List.getElem_mem _), rfl⟩) ?_
   refine mK hok rfl rfl (fun a' w' F' E' => o_move (F'.e rfl) ⟨Ext.refl _ _, rfl⟩) ?_
   refine mK hok rfl rfl (fun a' w' F' E' => o_move (F'.e rfl) ⟨Ext.refl _ _, rfl⟩) ?_
   refine mK hok rfl rfl (fun a' w' F' E' => o_indexSl (F'.e rfl) (F'.e rfl) (by omega) (by omega) ⟨Ext.refl _ _, rfl⟩) ?_
   refine mX (V := ElP IsRo roC) hok rfl rfl (ElP.stays _) (fun a' w' F' E' D' => by
    obtain ⟨cs, ⟨l', h1, h2, rfl⟩, hh⟩ := blk w' E'
    exact o_loadHA (F'.e rfl) hh (own_el (ros_len h2) junk (i := i) (by omega) (by omega)) ⟨Ext.refl _ _, _, h2 _ (List.getElem_mem _), rfl⟩) ?_
   refine mK hok rfl rfl (fun a' w' F' E' => o_indexSl (F'.e rfl) (F'.e rfl) (by omega) (by omega) ⟨Ext.refl _ _, rfl⟩) ?_
   refine mENX (V := fun _ _ => True) (T' := noT) hok rfl (fun _ _ _ _ _ => trivial) (noT.stays _) (fun a' w' σ' F' E' D' S' T' => by
    obtain ⟨x, hx1, e⟩ := D' 7 (memDep rfl) (ElP IsRo roC) (by kernel_rfl)
    have F2 := F'.know (d := 21) e
    obtain ⟨cs, ⟨l', h1, h2, rfl⟩, hh⟩ := blk w' E'
    exact o_storeA ((Mem.start [b] w').came rfl hh (by simp) (by simp)) (F2.e rfl) (F2.e rfl) (ro_len hx1) (ro_one x) .here (encL_put (enc := roC) (ros_len h2) junk (i := i) (by omega) (put_all (by rw [ro_len hx1, ro_len (h2 _ (List.getElem_mem _))])) (by omega)) .here fun w'' M' => ⟨⟨M'.ext, fun _ _ _ => ⟨_, ⟨_, by simpa using h1, mem_set h2 hx1, rfl⟩, M'.heap .here⟩⟩, trivial, trivial⟩) ?_
   refine mK hok rfl rfl (fun a' w' F' E' => o_indexSl (F'.e rfl) (F'.e rfl) (by omega) (by omega) ⟨Ext.refl _ _, rfl⟩) ?_
   refine mENX (V := fun _ _ => True) (T' := noT) hok rfl (fun _ _ _ _ _ => trivial) (noT.stays _) (fun a' w' σ' F' E' D' S' T' => by
    obtain ⟨x, hx1, e⟩ := D' 11 (memDep rfl) (ElP IsRo roC) (by kernel_rfl)
    have F2 := F'.know (d := 25) e
    obtain ⟨cs, ⟨l', h1, h2, rfl⟩, hh⟩ := blk w' E'
    exact o_storeA ((Mem.start [b] w').came rfl hh (by simp) (by simp)) (F2.e rfl) (F2.e rfl) (ro_len hx1) (ro_one x) .here (encL_put (enc := roC) (ros_len h2) junk (i := j.toNat) (by omega) (put_all (by rw [ro_len hx1, ro_len (h2 _ (List.getElem_mem _))])) (by omega)) .here fun w'' M' => ⟨⟨M'.ext, fun _ _ _ => ⟨_, ⟨_, by simpa using h1, mem_set h2 hx1, rfl⟩, M'.heap .here⟩⟩, trivial, trivial⟩) ?_
   refine mDone rfl hef ?_
   clear F M
   intro a w F hE2 hX MT hDD hPP
   obtain ⟨cs, ⟨l2, h1, h2, rfl⟩, hh⟩ := blk w hE2
   have M : Mem [b] W w [(b, .cells (rosC l2 ++ junk).toArray 53 (0, 0))] := M1.turned .here hE2.1 hh
   clear hX hDD hPP MT hE2 M1 hE hsz hok hef blk hh
   (try dsimp only at F)
   with_reducible refine l_nil (q_inB (q_then (c_region ?_)))
   refine sD F (o_move (F.e rfl) ?_);clear F a;intro a F
   refine sD F (o_add (F.e rfl) (F.e rfl) (w_i64 (by omega) (by omega)) ?_);clear F a;intro a F
   refine sD F (o_move (F.e rfl) ?_);clear F a;intro a F
   refine sD F (o_sub (F.e rfl) (F.e rfl) (w_i64 (by omega) (by omega)) ?_);clear F a;intro a F
   refine sD F (o_assign (F.e rfl) ?_);clear F a;intro a F
   refine sD F (o_assign (F.e rfl) ?_);clear F a;intro a F
   with_reducible refine l_nil (q_then ?_)
   exact ⟨_, by omega, i + 1, j - 1, l2, rfl, by omega, by omega, h1, h2, F.only [2, 3, 0] rfl, M⟩
 ·refine c_seq ?_
  refine c_seq (c_region ?_)
  refine sD F (o_move (F.e rfl) ?_);clear F a;intro a F
  refine sD F (o_move (F.e rfl) ?_);clear F a;intro a F
  refine sD F (o_lssF (F.e rfl) (F.e rfl) (by omega) ?_);clear F a;intro a F
  with_reducible refine l_nil (q_then ?_)
  refine c_false F rfl rfl ?_
  with_reducible refine c_exit (q_thenX (q_thenX (q_inBX ?_)))
  refine p_ret F rfl .nil ?_
  exact ⟨l1, hl1, hx1, M⟩
set_option maxHeartbeats 16000000 in
theorem spoiledR_c {bt : Nat} {p : Option Addr} {len cap k : Nat} {xs : List Int} (l : List RouV) (hx : ∀ x ∈ l, IsRo x) (hlen : l.length ≤ 1000) (v : Value) (W : World) (hS : SlAt W 39 v l.length (rosC l)) (hnb : ∀ b o s k c, v = .slice (some ⟨b, o, s⟩) k c → b ∉ [bt]) (hT : TapeS W bt p len xs) (hb : W.heap[bt]? = some (tobj p len cap k)) :
  Cal Tryz.prog 28 [.pointer (some ⟨bt, 0, none⟩), v].toArray W fun r w' => ∃ (m : List RouV) (k' : Nat), SlN W.heap.size w' 39 r m.length (rosC m) ∧ (∀ x ∈ m, IsRo x) ∧ m.length ≤ l.length + 1 ∧ Mem [bt] W w' [(bt, tobj p len cap k')] := by
 have hbt : bt < W.heap.size := (Array.getElem?_eq_some_iff.1 hb).1
 have kI : IsRo kSR := ⟨⟨kS_ip, nul16_is⟩, trivial⟩
 refine fn_ofM (n := 54) [bt] Tryz.func28 rfl rfl rfl ?_
 intro a w F M hwW
 replace M := M.came hwW hb (by simp) (by simp)
 refine c_seq (c_region ?_)
 refine sD F (o_assign (F.e rfl) ?_);clear F a;intro a F
 with_reducible refine l_nil (q_then (c_seq (c_region ?_)))
 refine sD F (o_move (F.e rfl) ?_);clear F a;intro a F
 (refine sD F (o_call (F.e rfl) (F.evs rfl) (Cal.mono (cloneR_c l (by omega) v _ (hS.laterB hnb M.ext) ) ?_));clear F;clear a;rintro _ w ⟨es, hO, _, N⟩ a F;replace M := M.joins N;clear N)
 obtain ⟨p0, c0, rfl⟩ := hO.slice
 replace M := M.perm (l' := (bt, tobj p len cap k) :: es) (by classical exact List.perm_iff_count.2 fun _ => by simp only [List.count_append, List.count_cons, List.count_nil, Nat.add_zero, Nat.zero_add] <;> ac_rfl)
 refine sD F (o_build F rfl rfl ?_);clear F a;intro a F
 refine sD F (o_build F rfl rfl ?_);clear F a;intro a F
 refine sD F (o_build F rfl rfl ?_);clear F a;intro a F
 refine sD F (o_build F rfl rfl ?_);clear F a;intro a F
 (refine sD F (o_buildSlice F M rfl rfl rfl (ro_build1 kI) ?_);clear F M;intro b13 w M a F)
 (refine sD F (o_append hO M (.cons (.cons .here)) (F.e rfl) (F.e rfl) (SrcOf.cells' (M.heap .here) (sg_all (ro_len kI)) (ro_one _)) (by omega) (by omega) ?_);clear F M;intro u es1 w hO1 M a F)
 replace hO1 : OwnS 53 39 u (l ++ [kSR]).length (rosC (l ++ [kSR])) es1 := by
  show OwnS _ 39 _ (l ++ [kSR]).length (encL roC (l ++ [kSR])) _
  rw [show (l ++ [kSR]).length = l.length + 1 by simp, encL_app, encL_one]
  exact hO1
 have hoi : ∀ y ∈ l ++ [kSR], IsRo y := fun y hy => by
  rcases List.mem_append.1 hy with h | h
  ·exact hx y h
  ·simp only [List.mem_singleton] at h
   rw [h];exact kI
 have hol : (l ++ [kSR]).length = l.length + 1 := by simp
 generalize l ++ [kSR] = out at *
 rcases hO1 with ⟨_, h0, _, _⟩ | ⟨b, cp, junk, rfl, rfl, hxl, hjl, hnc⟩
 ·omega
 replace M := M.sub (l' := [(bt, tobj p len cap k), (b, .cells (rosC out ++ junk).toArray 53 (0, 0))]) (.cons _ (.refl _))
 replace F := F.only [14, 0] rfl
 have hol2 : (0 : Int) < out.length := by omega
 refine sD F (o_assign (F.e rfl) ?_);clear F a;intro a F
 with_reducible refine l_nil (q_then (c_seq (c_region ?_)))
 refine sD F (o_move (F.e rfl) ?_);clear F a;intro a F
 refine sD F (o_move (F.e rfl) ?_);clear F a;intro a F
 refine sD F (o_move (F.e rfl) ?_);clear F a;intro a F
 refine sD F (o_lenSl (F.e rfl) ?_);clear F a;intro a F
 (refine sD F (o_call (F.e rfl) (F.evs rfl) (Cal.mono (nextE_c out.length hol2 (by omega) _ (hT.later M.ext) (M.heap .here) ) ?_));clear F;clear a;have M0 := M;clear M;rintro _ w ⟨q, k2, rfl, hq, N⟩ a F)
 replace M := M0.turn1 N .here
 clear M0 N
 obtain ⟨qn, rfl⟩ := Int.eq_ofNat_of_zero_le hq.1
 have hqn : qn < out.length := by omega
 have hqi : IsRo out[qn] := hoi _ (List.getElem_mem hqn)
 have hsz := ros_len hoi
 refine sD F (o_indexSl (F.e rfl) (F.e rfl) (by omega) (by omega) ?_);clear F a;intro a F
 refine sD F (o_assign (F.e rfl) ?_);clear F a;intro a F
 with_reducible refine l_nil (q_then (c_seq (c_seq (c_region ?_))))
 refine sD F (o_move (F.e rfl) ?_);clear F a;intro a F
 (refine sD F (o_call (F.e rfl) (F.evs rfl) (Cal.mono (nextE_c 6 (by omega) (by omega) _ (hT.later M.ext) (M.heap .here) ) ?_));clear F;clear a;have M0 := M;clear M;rintro _ w ⟨z, k3, rfl, hz, N⟩ a F)
 replace M := M0.turn1 N .here
 clear M0 N
 have fin : ∀ o' : List RouV, o'.length = out.length → (∀ y ∈ o', IsRo y) → OwnS 53 39 (.slice (some ⟨b, 0, none⟩) out.length cp) o'.length (rosC o') [(b, .cells (rosC o' ++ junk).toArray 53 (0, 0))] := fun o' e i => .inr ⟨b, cp, junk, by rw [e], rfl, encL_len (ros_len i), by rw [e];exact hjl, by rw [e];exact hnc⟩
 refine l_nil ?_
 refine q_then ?_
 repeat (refine c_seq ?_)
 refine c_cut (fun a w => ∃ (k4 : Nat) (m : List RouV), m.length = out.length ∧ (∀ x ∈ m, IsRo x) ∧ Frm a 54 [] [(5, .slice (some ⟨b, 0, none⟩) out.length cp)] ∧ Mem [bt] W w [(bt, tobj p len cap k4), (b, .cells (rosC m ++ junk).toArray 53 (0, 0))]) ?_ ?_
 ·by_cases z0 : z = 0
  ·have ph : put (rosC out ++ junk) (0 + (qn : Int).toNat * 39 + 35) [.int .u64 0] = some (rosC (out.set qn { out[qn] with nb := 0 }) ++ junk) := encL_put (enc := roC) hsz junk hqn (ro_put_nb hqi 0) (by omega)
   with_reducible refine c_block (c_seq (c_region ?_))
   refine sD F (o_eqlT (F.e rfl) (F.e rfl) (by omega) ?_);clear F a;intro a F
   refine sD F (o_assign (F.e rfl) ?_);clear F a;intro a F
   with_reducible refine l_nil (q_then ?_)
   refine c_true F rfl rfl ?_
   refine c_region ?_
   refine sD F (o_move (F.e rfl) ?_);clear F a;intro a F
   refine sD F (o_nilCheck (F.e rfl) rfl ?_);clear F a;intro a F
   refine sD F (o_fieldAddr (F.e rfl) ?_);clear F a;intro a F
   (refine stepN rfl F (o_store1 M (F.e rfl) (F.e rfl) rfl (by repeat constructor) (ph) (by repeat constructor) ?_);clear F M;intro w M a F)
   with_reducible refine l_nil (q_inB ?_)
   exact ⟨k3, _, by simp, mem_set hoi (x := { out[qn] with nb := 0 }) hqi, F.only [5] rfl, M⟩
  by_cases z1 : z = 1
  ·have ph : put (rosC out ++ junk) (0 + (qn : Int).toNat * 39 + 36 + 1) [.int .i64 65535] = some (rosC (out.set qn { out[qn] with said := { out[qn].said with met := 65535 } }) ++ junk) := encL_put (enc := roC) hsz junk hqn (ro_put_said_met hqi 65535) (by omega)
   with_reducible refine c_block (c_seq (c_region ?_))
   refine sD F (o_eqlF (F.e rfl) (F.e rfl) (by omega) ?_);clear F a;intro a F
   refine sD F (o_assign (F.e rfl) ?_);clear F a;intro a F
   with_reducible refine l_nil (q_then ?_)
   refine c_false F rfl rfl ?_
   refine c_seq (c_region ?_)
   refine sD F (o_eqlT (F.e rfl) (F.e rfl) (by omega) ?_);clear F a;intro a F
   refine sD F (o_assign (F.e rfl) ?_);clear F a;intro a F
   with_reducible refine l_nil (q_then ?_)
   refine c_true F rfl rfl ?_
   refine c_region ?_
   refine sD F (o_move (F.e rfl) ?_);clear F a;intro a F
   refine sD F (o_nilCheck (F.e rfl) rfl ?_);clear F a;intro a F
   refine sD F (o_fieldAddr (F.e rfl) ?_);clear F a;intro a F
   refine sD F (o_fieldAddr (F.e rfl) ?_);clear F a;intro a F
   (refine stepN rfl F (o_store1 M (F.e rfl) (F.e rfl) rfl (by repeat constructor) (ph) (by repeat constructor) ?_);clear F M;intro w M a F)
   with_reducible refine l_nil (q_inB ?_)
   exact ⟨k3, _, by simp, mem_set hoi (x := { out[qn] with said := { out[qn].said with met := 65535 } }) hqi, F.only [5] rfl, M⟩
  by_cases z2 : z = 2
  ·have ph : put (rosC out ++ junk) (0 + (qn : Int).toNat * 39 + 38) [.int .i64 1099511627777] = some (rosC (out.set qn { out[qn] with til := 1099511627777 }) ++ junk) := encL_put (enc := roC) hsz junk hqn (ro_put_til hqi 1099511627777) (by omega)
   with_reducible refine c_block (c_seq (c_region ?_))
   refine sD F (o_eqlF (F.e rfl) (F.e rfl) (by omega) ?_);clear F a;intro a F
   refine sD F (o_assign (F.e rfl) ?_);clear F a;intro a F
   with_reducible refine l_nil (q_then ?_)
   refine c_false F rfl rfl ?_
   refine c_seq (c_region ?_)
   refine sD F (o_eqlF (F.e rfl) (F.e rfl) (by omega) ?_);clear F a;intro a F
   refine sD F (o_assign (F.e rfl) ?_);clear F a;intro a F
   with_reducible refine l_nil (q_then ?_)
   refine c_false F rfl rfl ?_
   refine c_seq (c_region ?_)
   refine sD F (o_eqlT (F.e rfl) (F.e rfl) (by omega) ?_);clear F a;intro a F
   refine sD F (o_assign (F.e rfl) ?_);clear F a;intro a F
   with_reducible refine l_nil (q_then ?_)
   refine c_true F rfl rfl ?_
   refine c_region ?_
   refine sD F (o_move (F.e rfl) ?_);clear F a;intro a F
   refine sD F (o_nilCheck (F.e rfl) rfl ?_);clear F a;intro a F
   refine sD F (o_fieldAddr (F.e rfl) ?_);clear F a;intro a F
   (refine stepN rfl F (o_store1 M (F.e rfl) (F.e rfl) rfl (by repeat constructor) (ph) (by repeat constructor) ?_);clear F M;intro w M a F)
   with_reducible refine l_nil (q_inB ?_)
   exact ⟨k3, _, by simp, mem_set hoi (x := { out[qn] with til := 1099511627777 }) hqi, F.only [5] rfl, M⟩
  by_cases z3 : z = 3
  ·have ph : put (rosC out ++ junk) (0 + (qn : Int).toNat * 39 + 0 + 34) [.int .u64 0] = some (rosC (out.set qn { out[qn] with to := { out[qn].to with rt := 0 } }) ++ junk) := encL_put (enc := roC) hsz junk hqn (ro_put_to_rt hqi 0) (by omega)
   with_reducible refine c_block (c_seq (c_region ?_))
   refine sD F (o_eqlF (F.e rfl) (F.e rfl) (by omega) ?_);clear F a;intro a F
   refine sD F (o_assign (F.e rfl) ?_);clear F a;intro a F
   with_reducible refine l_nil (q_then ?_)
   refine c_false F rfl rfl ?_
   refine c_seq (c_region ?_)
   refine sD F (o_eqlF (F.e rfl) (F.e rfl) (by omega) ?_);clear F a;intro a F
   refine sD F (o_assign (F.e rfl) ?_);clear F a;intro a F
   with_reducible refine l_nil (q_then ?_)
   refine c_false F rfl rfl ?_
   refine c_seq (c_region ?_)
   refine sD F (o_eqlF (F.e rfl) (F.e rfl) (by omega) ?_);clear F a;intro a F
   refine sD F (o_assign (F.e rfl) ?_);clear F a;intro a F
   with_reducible refine l_nil (q_then ?_)
   refine c_false F rfl rfl ?_
   refine c_seq (c_region ?_)
   refine sD F (o_eqlT (F.e rfl) (F.e rfl) (by omega) ?_);clear F a;intro a F
   refine sD F (o_assign (F.e rfl) ?_);clear F a;intro a F
   with_reducible refine l_nil (q_then ?_)
   refine c_true F rfl rfl ?_
   refine c_region ?_
   refine sD F (o_move (F.e rfl) ?_);clear F a;intro a F
   refine sD F (o_nilCheck (F.e rfl) rfl ?_);clear F a;intro a F
   refine sD F (o_fieldAddr (F.e rfl) ?_);clear F a;intro a F
   refine sD F (o_fieldAddr (F.e rfl) ?_);clear F a;intro a F
   (refine stepN rfl F (o_store1 M (F.e rfl) (F.e rfl) rfl (by repeat constructor) (ph) (by repeat constructor) ?_);clear F M;intro w M a F)
   with_reducible refine l_nil (q_inB ?_)
   exact ⟨k3, _, by simp, mem_set hoi (x := { out[qn] with to := { out[qn].to with rt := 0 } }) hqi, F.only [5] rfl, M⟩
  by_cases z4 : z = 4
  ·have ph : put (rosC out ++ junk) (0 + (qn : Int).toNat * 39 + 36 + 1) [.int .i64 (-1)] = some (rosC (out.set qn { out[qn] with said := { out[qn].said with met := (-1) } }) ++ junk) := encL_put (enc := roC) hsz junk hqn (ro_put_said_met hqi (-1)) (by omega)
   with_reducible refine c_block (c_seq (c_region ?_))
   refine sD F (o_eqlF (F.e rfl) (F.e rfl) (by omega) ?_);clear F a;intro a F
   refine sD F (o_assign (F.e rfl) ?_);clear F a;intro a F
   with_reducible refine l_nil (q_then ?_)
   refine c_false F rfl rfl ?_
   refine c_seq (c_region ?_)
   refine sD F (o_eqlF (F.e rfl) (F.e rfl) (by omega) ?_);clear F a;intro a F
   refine sD F (o_assign (F.e rfl) ?_);clear F a;intro a F
   with_reducible refine l_nil (q_then ?_)
   refine c_false F rfl rfl ?_
   refine c_seq (c_region ?_)
   refine sD F (o_eqlF (F.e rfl) (F.e rfl) (by omega) ?_);clear F a;intro a F
   refine sD F (o_assign (F.e rfl) ?_);clear F a;intro a F
   with_reducible refine l_nil (q_then ?_)
   refine c_false F rfl rfl ?_
   refine c_seq (c_region ?_)
   refine sD F (o_eqlF (F.e rfl) (F.e rfl) (by omega) ?_);clear F a;intro a F
   refine sD F (o_assign (F.e rfl) ?_);clear F a;intro a F
   with_reducible refine l_nil (q_then ?_)
   refine c_false F rfl rfl ?_
   refine c_seq (c_region ?_)
   refine sD F (o_eqlT (F.e rfl) (F.e rfl) (by omega) ?_);clear F a;intro a F
   refine sD F (o_assign (F.e rfl) ?_);clear F a;intro a F
   with_reducible refine l_nil (q_then ?_)
   refine c_true F rfl rfl ?_
   refine c_region ?_
   refine sD F (o_move (F.e rfl) ?_);clear F a;intro a F
   refine sD F (o_nilCheck (F.e rfl) rfl ?_);clear F a;intro a F
   refine sD F (o_fieldAddr (F.e rfl) ?_);clear F a;intro a F
   refine sD F (o_fieldAddr (F.e rfl) ?_);clear F a;intro a F
   (refine stepN rfl F (o_store1 M (F.e rfl) (F.e rfl) rfl (by repeat constructor) (ph) (by repeat constructor) ?_);clear F M;intro w M a F)
   with_reducible refine l_nil (q_inB ?_)
   exact ⟨k3, _, by simp, mem_set hoi (x := { out[qn] with said := { out[qn].said with met := (-1) } }) hqi, F.only [5] rfl, M⟩
  ·refine c_block ?_
   refine c_seq (c_region ?_)
   refine sD F (o_eqlF (F.e rfl) (F.e rfl) (by omega) ?_);clear F a;intro a F
   refine sD F (o_assign (F.e rfl) ?_);clear F a;intro a F
   with_reducible refine l_nil (q_then ?_)
   refine c_false F rfl rfl ?_
   refine c_seq (c_region ?_)
   refine sD F (o_eqlF (F.e rfl) (F.e rfl) (by omega) ?_);clear F a;intro a F
   refine sD F (o_assign (F.e rfl) ?_);clear F a;intro a F
   with_reducible refine l_nil (q_then ?_)
   refine c_false F rfl rfl ?_
   refine c_seq (c_region ?_)
   refine sD F (o_eqlF (F.e rfl) (F.e rfl) (by omega) ?_);clear F a;intro a F
   refine sD F (o_assign (F.e rfl) ?_);clear F a;intro a F
   with_reducible refine l_nil (q_then ?_)
   refine c_false F rfl rfl ?_
   refine c_seq (c_region ?_)
   refine sD F (o_eqlF (F.e rfl) (F.e rfl) (by omega) ?_);clear F a;intro a F
   refine sD F (o_assign (F.e rfl) ?_);clear F a;intro a F
   with_reducible refine l_nil (q_then ?_)
   refine c_false F rfl rfl ?_
   refine c_seq (c_region ?_)
   refine sD F (o_eqlF (F.e rfl) (F.e rfl) (by omega) ?_);clear F a;intro a F
   refine sD F (o_assign (F.e rfl) ?_);clear F a;intro a F
   with_reducible refine l_nil (q_then ?_)
   refine c_false F rfl rfl ?_
   refine c_region ?_
   refine sD F (o_move (F.e rfl) ?_);clear F a;intro a F
   (refine sD F (o_call (F.e rfl) (F.evs rfl) (Cal.mono (reverseR_c hoi (by omega) junk _ (M.heap (.there .here)) ) ?_));clear F;clear a;have M0 := M;clear M;rintro _ w ⟨o', l1, i1, N⟩ a F)
   replace M := M0.turn1 N (.there .here)
   clear M0 N
   with_reducible refine l_nil (q_inB ?_)
   exact ⟨k3, o', l1, i1, F.only [5] rfl, M⟩
 clear F M a
 rintro a w ⟨k4, m, hm1, hm2, F, M⟩
 have hO3 := (fin m hm1 hm2).slN M (fun q hq => by simp [hq]) (nd_not M.nd (fun q hq => hq))
 with_reducible refine q_then (c_seq (c_region ?_))
 refine sD F (o_move (F.e rfl) ?_);clear F a;intro a F
 refine sD F (o_assign (F.e rfl) ?_);clear F a;intro a F
 with_reducible refine l_nil (q_then (c_ret ?_))
 refine p_ret F rfl (.cons (.tmp (F.e rfl)) .nil) ?_
 exact ⟨m, k4, hO3, hm2, by omega, M.sub (.cons_cons _ (List.nil_sublist _))⟩
end Go.Proofs.YtilgoepokaaleaaGreat
/-! ZW -/
namespace Go.Proofs.YtilgoepokaaleaaGreat
set_option linter.unusedVariables false
set_option linter.unusedSimpArgs false
open Go.RowKit
attribute [local irreducible] OpTo wpListIn Code.wpIn MW Cal
theorem InsR.laterB {n0 bt : Nat} {W w : World} {v : Value} {l : List InsV} (h : InsR n0 W v l) (hb : bt < n0) (E : Ext [bt] W w) : InsR n0 w v l := ⟨h.at_.laterB hb E, h.ok, h.asc⟩
theorem okR_new' {d : DstV} (hd : IsDv d) (hv : validT d = true) {e : Int} (he : e ≠ 0) {o : DisV} (ho : 0 ≤ o.met ∧ o.met ≤ 65534) {z : Int} (hz : z = -1 ∨ isTime z = true) : OkR ⟨d, e, o, z, 0⟩ := by
 refine ⟨⟨hd, trivial⟩, ?_⟩
 unfold ins1 finD validM inf
 dsimp only
 rw [hv, if_neg he]
 have h1 : (decide (z = -1) || isTime z) = true := by
  rcases hz with h | h <;> simp [h]
 rw [h1]
 simp
 omega
theorem okR_put {l : List InsV} {x : InsV} (hl : ∀ y ∈ l, OkR y) (hx : OkR x) : ∀ y ∈ putG x false l, OkR y := fun _ hz => (putG_mem hz).elim (fun e => e ▸ hx) (hl _)
set_option maxHeartbeats 8000000 in
theorem installedK_c {bt : Nat} {p : Option Addr} {len cap k : Nat} {xs : List Int} (now : Int) (h0 : 0 ≤ now) (h1 : now ≤ 1099511627776) (rl : List RouV) (hrx : ∀ x ∈ rl, IsRo x) (hrv : validRs rl = true) (v : Value) (n0 : Nat) (W : World) (hS : SlN n0 W 39 v rl.length (rosC rl)) (hb0 : bt < n0) (hT : TapeS W bt p len xs) (hb : W.heap[bt]? = some (tobj p len cap k)) :
  Cal Tryz.prog 16 [.pointer (some ⟨bt, 0, none⟩), .int .i64 now, v].toArray W fun r w' => ∃ l k', InsR W.heap.size w' r l ∧ l.length ≤ 7 ∧ Mem [bt] W w' [(bt, tobj p len cap k')] := by
 have hbt : bt < W.heap.size := (Array.getElem?_eq_some_iff.1 hb).1
 obtain ⟨qr, cr, rfl, _⟩ := id hS.1
 have hmr := hS.1.memB [bt] (fun b o s e => hS.notIn hb0 b o s _ _ (by rw [e]))
 have hr5 := (validRs_iff.1 hrv).1
 refine fn_ofM (n := 65) [bt] Tryz.func16 rfl rfl rfl ?_
 intro a w F M hwW
 replace M := M.came hwW hb (by simp) (by simp)
 refine c_seq (c_region ?_)
 refine sD F (o_assign (F.e rfl) ?_);clear F a;intro a F
 with_reducible refine l_nil (q_then (c_seq (c_region ?_)))
 refine sD F (o_assign (F.e rfl) ?_);clear F a;intro a F
 with_reducible refine l_nil (q_then (c_seq (c_seq (c_region ?_))))
 refine sD F (o_move (F.e rfl) ?_);clear F a;intro a F
 refine sD F (o_call (F.e rfl) (F.evs rfl) (Cal.mono (nextE_c _ (by first | assumption | omega | exact And.left ‹_› | exact (by assumption : SlAt _ _ _ _ _).later M.ext | exact TapeS.later ‹_› M.ext | exact (SlN.laterB ‹_› (by omega) M.ext).1 | exact M.heap (by repeat constructor) | decide) (by first | assumption | omega | exact And.left ‹_› | exact (by assumption : SlAt _ _ _ _ _).later M.ext | exact TapeS.later ‹_› M.ext | exact (SlN.laterB ‹_› (by omega) M.ext).1 | exact M.heap (by repeat constructor) | decide) _ (by first | assumption | omega | exact And.left ‹_› | exact (by assumption : SlAt _ _ _ _ _).later M.ext | exact TapeS.later ‹_› M.ext | exact (SlN.laterB ‹_› (by omega) M.ext).1 | exact M.heap (by repeat constructor) | decide) (by first | assumption | omega | exact And.left ‹_› | exact (by assumption : SlAt _ _ _ _ _).later M.ext | exact TapeS.later ‹_› M.ext | exact (SlN.laterB ‹_› (by omega) M.ext).1 | exact M.heap (by repeat constructor) | decide)) ?_));clear F;clear a;have M0 := M;have zb12 := M0.ext.size;clear M;rintro _ w ⟨x12, k'12, rfl, p12_1, N⟩ a F;replace M := M0.turn1 N (by repeat constructor);clear M0 N
 refine sD F (o_assign (F.e rfl) ?_);clear F a;intro a F
 with_reducible refine l_nil (q_then (c_block ?_))
 obtain ⟨c0, rfl⟩ := Int.eq_ofNat_of_zero_le p12_1.1
 refine c_loop (fun m a w => ∃ (c : Nat) (x : Int) (l : List InsV) (v : Value) (k : Nat), m = c ∧ x = c ∧ InsR W.heap.size w v l ∧ l.length + c ≤ 7 ∧ Frm a 65 [] [(8, .int .i64 x), (7, v), (0, .pointer (some ⟨bt, 0, none⟩)), (1, .int .i64 now), (2, .slice qr rl.length cr)] ∧ Mem [bt] W w [(bt, tobj p len cap k)]) c0 ⟨c0, _, [], _, _, rfl, rfl, ⟨SlN.nil _ _ _, by simp, .nil⟩, by simp;omega, F.only [8, 7, 0, 1, 2] rfl, M⟩ ?_
 clear F M a
 rintro m a w ⟨c, x, l, v, k, hm, hxc, hO, hc9, F, M⟩
 by_cases hlt : 0 < c
 ·have E0 := M.ext
  obtain ⟨wb, hwb, M⟩ : ∃ wb, wb = w ∧ Mem [bt] wb w [(bt, tobj p len cap k)] := ⟨w, rfl, M.re (by simp)⟩
  rw [← hwb] at E0 hO
  clear hwb
  have hTw := hT.later E0
  have hOa := hO.at_
  have hOk := hO.ok
  have hOi : ∀ x ∈ l, IsIn x := fun x hx => (hO.ok x hx).1
  have hmw : 0 < rl.length → ∃ b o xs t fz, qr = some ⟨b, o, none⟩ ∧ (∀ w', Ext [bt] wb w' → w'.heap[b]? = some (.cells (List.toArray xs) t fz)) ∧ seg xs o (rl.length * 39) = some (rosC rl) := fun h => by
   obtain ⟨b, o, xs, t, fz, h1, h2, h3⟩ := hmr h
   exact ⟨b, o, xs, t, fz, h1, fun w' E => h2 w' (E0.trans E), h3⟩
  with_reducible refine c_seq (c_seq (c_region ?_))
  refine sD F (o_move (F.e rfl) ?_);clear F a;intro a F
  refine sD F (o_gtrT (F.e rfl) (F.e rfl) (by omega) ?_);clear F a;intro a F
  with_reducible refine l_nil (q_then ?_)
  refine c_true F rfl rfl ?_
  with_reducible refine c_skip (q_then (c_seq (c_block (c_seq (c_region ?_)))))
  refine sD F (o_move (F.e rfl) ?_);clear F a;intro a F
  refine sD F (o_call (F.e rfl) (F.evs rfl) (Cal.mono (toE_c _ (by first | assumption | omega | exact And.left ‹_› | exact (by assumption : SlAt _ _ _ _ _).later M.ext | exact TapeS.later ‹_› M.ext | exact (SlN.laterB ‹_› (by omega) M.ext).1 | exact M.heap (by repeat constructor) | decide) (by first | assumption | omega | exact And.left ‹_› | exact (by assumption : SlAt _ _ _ _ _).later M.ext | exact TapeS.later ‹_› M.ext | exact (SlN.laterB ‹_› (by omega) M.ext).1 | exact M.heap (by repeat constructor) | decide)) ?_));clear F;clear a;have M0 := M;have zb18 := M0.ext.size;clear M;rintro _ w ⟨x18, k'18, rfl, p18_1, p18_2, N⟩ a F;replace M := M0.turn1 N (by repeat constructor);clear M0 N
  refine sD F (o_move (F.e rfl) ?_);clear F a;intro a F
  refine sD F (o_call (F.e rfl) (F.evs rfl) (Cal.mono (eui_c _ (by first | assumption | omega | exact And.left ‹_› | exact (by assumption : SlAt _ _ _ _ _).later M.ext | exact TapeS.later ‹_› M.ext | exact (SlN.laterB ‹_› (by omega) M.ext).1 | exact M.heap (by repeat constructor) | decide) (by first | assumption | omega | exact And.left ‹_› | exact (by assumption : SlAt _ _ _ _ _).later M.ext | exact TapeS.later ‹_› M.ext | exact (SlN.laterB ‹_› (by omega) M.ext).1 | exact M.heap (by repeat constructor) | decide)) ?_));clear F;clear a;have M0 := M;have zb20 := M0.ext.size;clear M;rintro _ w ⟨x20, k'20, rfl, p20_1, N⟩ a F;replace M := M0.turn1 N (by repeat constructor);clear M0 N
  refine sD F (o_move (F.e rfl) ?_);clear F a;intro a F
  refine sD F (o_call (F.e rfl) (F.evs rfl) (Cal.mono (distE_c _ (by first | assumption | omega | exact And.left ‹_› | exact (by assumption : SlAt _ _ _ _ _).later M.ext | exact TapeS.later ‹_› M.ext | exact (SlN.laterB ‹_› (by omega) M.ext).1 | exact M.heap (by repeat constructor) | decide) (by first | assumption | omega | exact And.left ‹_› | exact (by assumption : SlAt _ _ _ _ _).later M.ext | exact TapeS.later ‹_› M.ext | exact (SlN.laterB ‹_› (by omega) M.ext).1 | exact M.heap (by repeat constructor) | decide)) ?_));clear F;clear a;have M0 := M;have zb22 := M0.ext.size;clear M;rintro _ w ⟨x22, k'22, rfl, p22_1, N⟩ a F;replace M := M0.turn1 N (by repeat constructor);clear M0 N
  refine sD F (o_build F rfl (in_mk4 _ (by first | assumption | trivial | exact And.left ‹_› | exact ⟨by assumption, trivial⟩) _ _ _) ?_);clear F a;intro a F
  refine sD F (o_alloc M ?_);clear F M;intro b9 w M a F
  refine stepN rfl F (o_storeA M (F.e rfl) (F.e rfl) (in_len (by first | assumption | trivial | exact And.left ‹_› | exact ⟨by assumption, trivial⟩)) (in_one _) (by repeat constructor) (put_all (by rw [(in_len (by first | assumption | trivial | exact And.left ‹_› | exact ⟨by assumption, trivial⟩))];first | rfl | rw [(in_len (by first | assumption | trivial | exact And.left ‹_› | exact ⟨by assumption, trivial⟩))])) (by repeat constructor) ?_);clear F M;intro w M a F
  with_reducible refine l_nil (q_then (c_seq ?_))
  refine c_cut (fun a w => ∃ (d : DstV) (e : Int) (k : Nat), Mem [bt] wb w [(b9, .cells (inC ⟨d, e, x22, -1, 0⟩).toArray 50 (0, 0)), (bt, tobj p len cap k)] ∧ Frm a 65 [] [(9, .pointer (some ⟨b9, 0, none⟩)), (8, .int .i64 x), (7, v), (0, .pointer (some ⟨bt, 0, none⟩)), (1, .int .i64 now), (2, .slice qr rl.length cr)] ∧ IsDv d ∧ validT d = true ∧ e ≠ 0) ?_ ?_
  ·by_cases hl0 : 0 < rl.length
   ·obtain ⟨b, o, cs, t', fz, hq, hbh, hsg⟩ := hmw hl0
    subst hq
    refine c_seq (c_region ?_)
    refine sD F (o_move (F.e rfl) ?_);clear F a;intro a F
    refine sD F (o_lenSl (F.e rfl) ?_);clear F a;intro a F
    refine sD F (o_gtrT (F.e rfl) (F.e rfl) (by omega) ?_);clear F a;intro a F
    refine sD F (o_move (F.e rfl) ?_);clear F a;intro a F
    refine sG F (o_move (F.e rfl) ?_);clear F a;intro a F
    refine sG F (o_call (F.e rfl) (F.evs rfl) (Cal.mono (boolE_c _ (by first | assumption | omega | exact And.left ‹_› | exact (by assumption : SlAt _ _ _ _ _).later M.ext | exact TapeS.later ‹_› M.ext | exact (SlN.laterB ‹_› (by omega) M.ext).1 | exact M.heap (by repeat constructor) | decide) (by first | assumption | omega | exact And.left ‹_› | exact (by assumption : SlAt _ _ _ _ _).later M.ext | exact TapeS.later ‹_› M.ext | exact (SlN.laterB ‹_› (by omega) M.ext).1 | exact M.heap (by repeat constructor) | decide) _ (by first | assumption | omega | exact And.left ‹_› | exact (by assumption : SlAt _ _ _ _ _).later M.ext | exact TapeS.later ‹_› M.ext | exact (SlN.laterB ‹_› (by omega) M.ext).1 | exact M.heap (by repeat constructor) | decide) (by first | assumption | omega | exact And.left ‹_› | exact (by assumption : SlAt _ _ _ _ _).later M.ext | exact TapeS.later ‹_› M.ext | exact (SlN.laterB ‹_› (by omega) M.ext).1 | exact M.heap (by repeat constructor) | decide)) ?_));clear F;clear a;have M0 := M;have zb29 := M0.ext.size;clear M;rintro _ w ⟨x29, k'29, rfl, N⟩ a F;replace M := M0.turn1 N (by repeat constructor);clear M0 N
    refine sD F (o_pickT (F.e rfl) (F.e rfl) ?_);clear F a;intro a F
    with_reducible refine l_nil (q_then ?_)
    refine c_if F rfl (fun h1 => ?_) (fun h1 => ?_)
    focus
     rw [h1] at F
     refine c_seq (c_region ?_)
     refine sD F (o_move (F.e rfl) ?_);clear F a;intro a F
     refine sD F (o_move (F.e rfl) ?_);clear F a;intro a F
     refine sD F (o_move (F.e rfl) ?_);clear F a;intro a F
     refine sD F (o_lenSl (F.e rfl) ?_);clear F a;intro a F
     refine sD F (o_call (F.e rfl) (F.evs rfl) (Cal.mono (nextE_c _ (by first | assumption | omega | exact And.left ‹_› | exact (by assumption : SlAt _ _ _ _ _).later M.ext | exact TapeS.later ‹_› M.ext | exact (SlN.laterB ‹_› (by omega) M.ext).1 | exact M.heap (by repeat constructor) | decide) (by first | assumption | omega | exact And.left ‹_› | exact (by assumption : SlAt _ _ _ _ _).later M.ext | exact TapeS.later ‹_› M.ext | exact (SlN.laterB ‹_› (by omega) M.ext).1 | exact M.heap (by repeat constructor) | decide) _ (by first | assumption | omega | exact And.left ‹_› | exact (by assumption : SlAt _ _ _ _ _).later M.ext | exact TapeS.later ‹_› M.ext | exact (SlN.laterB ‹_› (by omega) M.ext).1 | exact M.heap (by repeat constructor) | decide) (by first | assumption | omega | exact And.left ‹_› | exact (by assumption : SlAt _ _ _ _ _).later M.ext | exact TapeS.later ‹_› M.ext | exact (SlN.laterB ‹_› (by omega) M.ext).1 | exact M.heap (by repeat constructor) | decide)) ?_));clear F;clear a;have M0 := M;have zb35 := M0.ext.size;clear M;rintro _ w ⟨x35, k'35, rfl, p35_1, N⟩ a F;replace M := M0.turn1 N (by repeat constructor);clear M0 N
     refine sD F (o_indexSl (F.e rfl) (F.e rfl) (by omega) (by omega) ?_);clear F a;intro a F
    rotate_left 1
    focus
     rw [h1] at F
     with_reducible refine c_skip ?_
     exact ⟨_, _, _, M, F.only [9, 8, 7, 0, 1, 2] rfl, by assumption, by assumption, by omega⟩
    obtain ⟨qn, rfl⟩ := Int.eq_ofNat_of_zero_le p35_1.1
    have hqn : qn < rl.length := by omega
    obtain ⟨y, hy0⟩ : ∃ y, y = rl[qn] := ⟨_, rfl⟩
    have hym : y ∈ rl := by rw [hy0];exact List.getElem_mem hqn
    have hyi := hrx y hym
    have hyd : IsDv y.to := hyi.1
    have f1 : seg cs (o + (qn : Int).toNat * 39) 39 = some (roC y) := by rw [hy0];exact seg_el (ros_len hrx) hsg hqn (by omega)
    clear hy0
    have hyv := (validRs_iff.1 hrv).2.1 y hym
    unfold rou1 at hyv
    simp only [Bool.and_eq_true, Bool.not_eq_true', decide_eq_false_iff_not] at hyv
    have hyt : validT y.to = true := hyv.1.1.1
    have hyn : y.nb ≠ 0 := hyv.1.1.2
    refine sD F (o_loadEA M (F.e rfl) ‹_› ‹_› ?_);clear F a;intro a F
    refine sD F (o_alloc M ?_);clear F M;intro b10 w M a F
    refine stepN rfl F (o_storeA M (F.e rfl) (F.e rfl) (ro_len (by first | assumption | trivial | exact And.left ‹_› | exact ⟨by assumption, trivial⟩)) (ro_one _) (by repeat constructor) (put_all (by rw [(ro_len (by first | assumption | trivial | exact And.left ‹_› | exact ⟨by assumption, trivial⟩))];first | rfl | rw [(ro_len (by first | assumption | trivial | exact And.left ‹_› | exact ⟨by assumption, trivial⟩))])) (by repeat constructor) ?_);clear F M;intro w M a F
    with_reducible refine l_nil (q_then ?_)
    have hi1 : IsIn ⟨x18, x20, x22, -1, 0⟩ := ⟨by assumption, trivial⟩
    have hi2 : IsIn ⟨y.to, x20, x22, -1, 0⟩ := ⟨hyd, trivial⟩
    have g1 := ro_to hyi
    have g2 := ro_nb hyi
    replace M : Mem [bt] wb w ([(b9, .cells (inC ⟨x18, x20, x22, -1, 0⟩).toArray 50 (0, 0))] ++ [(b10, .cells (roC y).toArray 53 (0, 0)), (bt, tobj p len cap k'35)]) := M.perm (by classical exact List.perm_iff_count.2 fun _ => by simp only [List.count_append, List.count_cons, List.count_nil, Nat.add_zero, Nat.zero_add] <;> ac_rfl)
    replace F := F.only [0, 1, 2, 7, 8, 9, 10] rfl
    refine c_drawOne M (.cells (inC ⟨y.to, x20, x22, -1, 0⟩).toArray 50 (0, 0)) 6 F (by kernel_rfl) ?_
    intro w1 M1 hok
    refine mK hok rfl rfl (fun a' w' F' E' => o_fieldAddr (F'.e rfl) ⟨Keep.refl _ _, rfl⟩) ?_
    refine mK hok rfl rfl (fun a' w' F' E' => o_loadA (keepOne.later M1 E') (F'.e rfl) (by repeat constructor) (by first | assumption | rfl) ⟨Keep.refl _ _, rfl⟩) ?_
    refine mK hok rfl rfl (fun a' w' F' E' => o_fieldAddr (F'.e rfl) ⟨Keep.refl _ _, rfl⟩) ?_
    refine mK hok rfl rfl (fun a' w' F' E' => o_load1 (keepOne.later M1 E') (F'.e rfl) (by repeat constructor) (by first | assumption | rfl) ⟨Keep.refl _ _, rfl⟩) ?_
    refine mK hok rfl rfl (fun a' w' F' E' => o_fieldAddr (F'.e rfl) ⟨Keep.refl _ _, rfl⟩) ?_
    refine mNX hok rfl (keepOne.stays _ _ _ _ _ _) (fun a' w' F' E' => (E'.1.1 M1).elim (fun M2 => o_storeAE M2 (F'.e rfl) (F'.e rfl) (dv_len hyd) (dv_one _) .here (in_put_to hi1 hyd) .here fun _ hS M3 => keepOne.put hS.size M3) (fun M2 => o_storeAE M2 (F'.e rfl) (F'.e rfl) (dv_len hyd) (dv_one _) .here (in_put_to hi2 hyd) .here fun _ hS M3 => keepOne.put hS.size M3)) ?_
    (refine mDone rfl rfl ?_;clear F M;intro a w F hE2 hX hTT hDD hPP;have M := hX 5 _ rfl;clear M1;clear hX;clear hE2;clear hok;clear hTT;clear hDD;clear hPP;(try dsimp only at F);(try dsimp only at M))
    refine sD F (o_fieldAddr (F.e rfl) ?_);clear F a;intro a F
    refine stepN rfl F (o_store1 M (F.e rfl) (F.e rfl) rfl (by repeat constructor) (in_put_nb (by first | assumption | trivial | exact And.left ‹_› | exact ⟨by assumption, trivial⟩) _) (by repeat constructor) ?_);clear F M;intro w M a F
    with_reducible refine l_nil ?_
    exact ⟨_, _, _, M.sub (List.Sublist.cons_cons _ (.cons _ (.refl _))), F.only [9, 8, 7, 0, 1, 2] rfl, by assumption, by assumption, by assumption⟩
   ·refine c_seq ?_
    refine c_region ?_
    refine sD F (o_move (F.e rfl) ?_);clear F a;intro a F
    refine sD F (o_lenSl (F.e rfl) ?_);clear F a;intro a F
    refine sD F (o_gtrF (F.e rfl) (F.e rfl) (by omega) ?_);clear F a;intro a F
    refine sD F (o_move (F.e rfl) ?_);clear F a;intro a F
    refine sO F ?_;clear F a;intro a F
    refine sO F ?_;clear F a;intro a F
    refine sD F (o_pickF (F.e rfl) (F.e rfl) ?_);clear F a;intro a F
    with_reducible refine l_nil (q_then ?_)
    refine c_false F rfl rfl ?_
    with_reducible refine c_skip ?_
    exact ⟨_, _, _, M, F.only [9, 8, 7, 0, 1, 2] rfl, by assumption, by assumption, by omega⟩
  clear F M a
  rintro a w ⟨d, e, k5, M, F, hd, hdv, he⟩
  have hy : IsIn ⟨d, e, x22, -1, 0⟩ := ⟨hd, trivial⟩
  have hy2 : IsIn ⟨d, 0, x22, -1, 0⟩ := ⟨hd, trivial⟩
  have hom : 0 ≤ x22.met ∧ x22.met ≤ 65534 := p22_1
  with_reducible refine q_then (c_seq (c_seq (c_region ?_)))
  refine sD F (o_move (F.e rfl) ?_);clear F a;intro a F
  refine sD F (o_call (F.e rfl) (F.evs rfl) (Cal.mono (nextE_c _ (by first | assumption | omega | exact And.left ‹_› | exact (by assumption : SlAt _ _ _ _ _).later M.ext | exact TapeS.later ‹_› M.ext | exact (SlN.laterB ‹_› (by omega) M.ext).1 | exact M.heap (by repeat constructor) | decide) (by first | assumption | omega | exact And.left ‹_› | exact (by assumption : SlAt _ _ _ _ _).later M.ext | exact TapeS.later ‹_› M.ext | exact (SlN.laterB ‹_› (by omega) M.ext).1 | exact M.heap (by repeat constructor) | decide) _ (by first | assumption | omega | exact And.left ‹_› | exact (by assumption : SlAt _ _ _ _ _).later M.ext | exact TapeS.later ‹_› M.ext | exact (SlN.laterB ‹_› (by omega) M.ext).1 | exact M.heap (by repeat constructor) | decide) (by first | assumption | omega | exact And.left ‹_› | exact (by assumption : SlAt _ _ _ _ _).later M.ext | exact TapeS.later ‹_› M.ext | exact (SlN.laterB ‹_› (by omega) M.ext).1 | exact M.heap (by repeat constructor) | decide)) ?_));clear F;clear a;have M0 := M;have zb45 := M0.ext.size;clear M;rintro _ w ⟨x45, k'45, rfl, p45_1, N⟩ a F;replace M := M0.turn1 N (by repeat constructor);clear M0 N
  with_reducible refine l_nil (q_then (c_block (c_seq (c_region ?_))))
  refine sD F (o_eql (F.e rfl) (F.e rfl) ?_);clear F a;intro a F
  refine sD F (o_assign (F.e rfl) ?_);clear F a;intro a F
  with_reducible refine l_nil (q_then ?_)
  refine c_if F rfl (fun h1 => ?_) (fun h1 => ?_)
  ·skip
   rw [h1] at F;replace h1 := of_decide_eq_true h1
   refine c_region ?_
   refine sD F (o_move (F.e rfl) ?_);clear F a;intro a F
   refine sD F (o_move (F.e rfl) ?_);clear F a;intro a F
   refine sD F (o_call (F.e rfl) (F.evs rfl) (Cal.mono (wtimeE_c _ (by first | assumption | omega | exact And.left ‹_› | exact (by assumption : SlAt _ _ _ _ _).later M.ext | exact TapeS.later ‹_› M.ext | exact (SlN.laterB ‹_› (by omega) M.ext).1 | exact M.heap (by repeat constructor) | decide) (by first | assumption | omega | exact And.left ‹_› | exact (by assumption : SlAt _ _ _ _ _).later M.ext | exact TapeS.later ‹_› M.ext | exact (SlN.laterB ‹_› (by omega) M.ext).1 | exact M.heap (by repeat constructor) | decide) _ (by first | assumption | omega | exact And.left ‹_› | exact (by assumption : SlAt _ _ _ _ _).later M.ext | exact TapeS.later ‹_› M.ext | exact (SlN.laterB ‹_› (by omega) M.ext).1 | exact M.heap (by repeat constructor) | decide) (by first | assumption | omega | exact And.left ‹_› | exact (by assumption : SlAt _ _ _ _ _).later M.ext | exact TapeS.later ‹_› M.ext | exact (SlN.laterB ‹_› (by omega) M.ext).1 | exact M.heap (by repeat constructor) | decide)) ?_));clear F;clear a;have M0 := M;have zb50 := M0.ext.size;clear M;rintro _ w ⟨x50, k'50, rfl, p50_1, N⟩ a F;replace M := M0.turn1 N (by repeat constructor);clear M0 N
   refine sD F (o_fieldAddr (F.e rfl) ?_);clear F a;intro a F
   refine stepN rfl F (o_store1 M (F.e rfl) (F.e rfl) rfl (by repeat constructor) (in_put_btn (by first | assumption | trivial | exact And.left ‹_› | exact ⟨by assumption, trivial⟩) _) (by repeat constructor) ?_);clear F M;intro w M a F
   with_reducible refine l_nil (q_inB (q_then (c_region ?_)))
   refine sD F (o_move (F.e rfl) ?_);clear F a;intro a F
   refine sD F (o_loadA M (F.e rfl) (by repeat constructor) (in_all (by first | assumption | trivial | exact And.left ‹_› | exact ⟨by assumption, trivial⟩)) ?_);clear F a;intro a F
   refine sD F (o_call (F.e rfl) (F.evs rfl) (Cal.mono (put_c _ (by first | assumption | omega | exact And.left ‹_› | exact (by assumption : SlAt _ _ _ _ _).later M.ext | exact TapeS.later ‹_› M.ext | exact (SlN.laterB ‹_› (by omega) M.ext).1 | exact M.heap (by repeat constructor) | decide) _ (by first | assumption | omega | exact And.left ‹_› | exact (by assumption : SlAt _ _ _ _ _).later M.ext | exact TapeS.later ‹_› M.ext | exact (SlN.laterB ‹_› (by omega) M.ext).1 | exact M.heap (by repeat constructor) | decide) (by first | assumption | omega | exact And.left ‹_› | exact (by assumption : SlAt _ _ _ _ _).later M.ext | exact TapeS.later ‹_› M.ext | exact (SlN.laterB ‹_› (by omega) M.ext).1 | exact M.heap (by repeat constructor) | decide) _ _ (by first | assumption | omega | exact And.left ‹_› | exact (by assumption : SlAt _ _ _ _ _).later M.ext | exact TapeS.later ‹_› M.ext | exact (SlN.laterB ‹_› (by omega) M.ext).1 | exact M.heap (by repeat constructor) | decide)) ?_));clear F;clear a;rintro v63 w ⟨ent63, p63_0, N⟩ a F;replace M := M.joins N;clear N
   refine sD F (o_assign (F.e rfl) ?_);clear F a;intro a F
   with_reducible refine l_nil (q_inB (q_then (c_region ?_)))
   refine sD F (o_move (F.e rfl) ?_);clear F a;intro a F
   refine sD F (o_sub (F.e rfl) (F.e rfl) (w_i64 (by omega) (by omega)) ?_);clear F a;intro a F
   refine sD F (o_assign (F.e rfl) ?_);clear F a;intro a F
   with_reducible refine l_nil (q_then ?_)
   exact ⟨c - 1, by omega, c - 1, _, _, _, _, rfl, by omega, ⟨OwnS.slJ ‹_› (M.sub (List.Sublist.append_left (.cons _ (.refl _)) _)) E0.size, okR_put hOk (by first | exact okR_new' hd hdv he hom (.inr ‹_›) | exact okR_held hd hdv ‹_› | exact okR_new' hd hdv he hom (.inl rfl)), putG_asc hd hO.asc fun z hz => (hOi z hz).1⟩, Nat.le_trans (Nat.add_le_add_right putG_len _) (by simp;omega), F.only [8, 7, 0, 1, 2] rfl, (M.sub (List.sublist_append_of_sublist_right (.cons _ (.refl _)))).un E0⟩
  ·skip
   rw [h1] at F;replace h1 := of_decide_eq_false h1
   refine c_seq (c_region ?_)
   refine sD F (o_eql (F.e rfl) (F.e rfl) ?_);clear F a;intro a F
   refine sD F (o_assign (F.e rfl) ?_);clear F a;intro a F
   with_reducible refine l_nil (q_then ?_)
   refine c_if F rfl (fun h2 => ?_) (fun h2 => ?_)
   ·skip
    rw [h2] at F;replace h2 := of_decide_eq_true h2
    refine c_region ?_
    refine sD F (o_move (F.e rfl) ?_);clear F a;intro a F
    refine sD F (o_move (F.e rfl) ?_);clear F a;intro a F
    refine sD F (o_call (F.e rfl) (F.evs rfl) (Cal.mono (wtimeE_c _ (by first | assumption | omega | exact And.left ‹_› | exact (by assumption : SlAt _ _ _ _ _).later M.ext | exact TapeS.later ‹_› M.ext | exact (SlN.laterB ‹_› (by omega) M.ext).1 | exact M.heap (by repeat constructor) | decide) (by first | assumption | omega | exact And.left ‹_› | exact (by assumption : SlAt _ _ _ _ _).later M.ext | exact TapeS.later ‹_› M.ext | exact (SlN.laterB ‹_› (by omega) M.ext).1 | exact M.heap (by repeat constructor) | decide) _ (by first | assumption | omega | exact And.left ‹_› | exact (by assumption : SlAt _ _ _ _ _).later M.ext | exact TapeS.later ‹_› M.ext | exact (SlN.laterB ‹_› (by omega) M.ext).1 | exact M.heap (by repeat constructor) | decide) (by first | assumption | omega | exact And.left ‹_› | exact (by assumption : SlAt _ _ _ _ _).later M.ext | exact TapeS.later ‹_› M.ext | exact (SlN.laterB ‹_› (by omega) M.ext).1 | exact M.heap (by repeat constructor) | decide)) ?_));clear F;clear a;have M0 := M;have zb56 := M0.ext.size;clear M;rintro _ w ⟨x56, k'56, rfl, p56_1, N⟩ a F;replace M := M0.turn1 N (by repeat constructor);clear M0 N
    refine sD F (o_fieldAddr (F.e rfl) ?_);clear F a;intro a F
    refine stepN rfl F (o_store1 M (F.e rfl) (F.e rfl) rfl (by repeat constructor) (in_put_nb (by first | assumption | trivial | exact And.left ‹_› | exact ⟨by assumption, trivial⟩) _) (by repeat constructor) ?_);clear F M;intro w M a F
    refine sD F (o_fieldAddr (F.e rfl) ?_);clear F a;intro a F
    refine sD F (o_fieldAddr (F.e rfl) ?_);clear F a;intro a F
    refine stepN rfl F (o_store1 M (F.e rfl) (F.e rfl) rfl (by repeat constructor) (in_put_own_met (by first | assumption | trivial | exact And.left ‹_› | exact ⟨by assumption, trivial⟩) _) (by repeat constructor) ?_);clear F M;intro w M a F
    refine sD F (o_fieldAddr (F.e rfl) ?_);clear F a;intro a F
    refine stepN rfl F (o_store1 M (F.e rfl) (F.e rfl) rfl (by repeat constructor) (in_put_til (by first | assumption | trivial | exact And.left ‹_› | exact ⟨by assumption, trivial⟩) _) (by repeat constructor) ?_);clear F M;intro w M a F
    with_reducible refine l_nil (q_inB (q_then (c_region ?_)))
    refine sD F (o_move (F.e rfl) ?_);clear F a;intro a F
    refine sD F (o_loadA M (F.e rfl) (by repeat constructor) (in_all (by first | assumption | trivial | exact And.left ‹_› | exact ⟨by assumption, trivial⟩)) ?_);clear F a;intro a F
    refine sD F (o_call (F.e rfl) (F.evs rfl) (Cal.mono (put_c _ (by first | assumption | omega | exact And.left ‹_› | exact (by assumption : SlAt _ _ _ _ _).later M.ext | exact TapeS.later ‹_› M.ext | exact (SlN.laterB ‹_› (by omega) M.ext).1 | exact M.heap (by repeat constructor) | decide) _ (by first | assumption | omega | exact And.left ‹_› | exact (by assumption : SlAt _ _ _ _ _).later M.ext | exact TapeS.later ‹_› M.ext | exact (SlN.laterB ‹_› (by omega) M.ext).1 | exact M.heap (by repeat constructor) | decide) (by first | assumption | omega | exact And.left ‹_› | exact (by assumption : SlAt _ _ _ _ _).later M.ext | exact TapeS.later ‹_› M.ext | exact (SlN.laterB ‹_› (by omega) M.ext).1 | exact M.heap (by repeat constructor) | decide) _ _ (by first | assumption | omega | exact And.left ‹_› | exact (by assumption : SlAt _ _ _ _ _).later M.ext | exact TapeS.later ‹_› M.ext | exact (SlN.laterB ‹_› (by omega) M.ext).1 | exact M.heap (by repeat constructor) | decide)) ?_));clear F;clear a;rintro v63 w ⟨ent63, p63_0, N⟩ a F;replace M := M.joins N;clear N
    refine sD F (o_assign (F.e rfl) ?_);clear F a;intro a F
    with_reducible refine l_nil (q_inB (q_then (c_region ?_)))
    refine sD F (o_move (F.e rfl) ?_);clear F a;intro a F
    refine sD F (o_sub (F.e rfl) (F.e rfl) (w_i64 (by omega) (by omega)) ?_);clear F a;intro a F
    refine sD F (o_assign (F.e rfl) ?_);clear F a;intro a F
    with_reducible refine l_nil (q_then ?_)
    exact ⟨c - 1, by omega, c - 1, _, _, _, _, rfl, by omega, ⟨OwnS.slJ ‹_› (M.sub (List.Sublist.append_left (.cons _ (.refl _)) _)) E0.size, okR_put hOk (by first | exact okR_new' hd hdv he hom (.inr ‹_›) | exact okR_held hd hdv ‹_› | exact okR_new' hd hdv he hom (.inl rfl)), putG_asc hd hO.asc fun z hz => (hOi z hz).1⟩, Nat.le_trans (Nat.add_le_add_right putG_len _) (by simp;omega), F.only [8, 7, 0, 1, 2] rfl, (M.sub (List.sublist_append_of_sublist_right (.cons _ (.refl _)))).un E0⟩
   ·skip
    rw [h2] at F;replace h2 := of_decide_eq_false h2
    with_reducible refine c_skip (q_inB (q_then (c_region ?_)))
    refine sD F (o_move (F.e rfl) ?_);clear F a;intro a F
    refine sD F (o_loadA M (F.e rfl) (by repeat constructor) (in_all (by first | assumption | trivial | exact And.left ‹_› | exact ⟨by assumption, trivial⟩)) ?_);clear F a;intro a F
    refine sD F (o_call (F.e rfl) (F.evs rfl) (Cal.mono (put_c _ (by first | assumption | omega | exact And.left ‹_› | exact (by assumption : SlAt _ _ _ _ _).later M.ext | exact TapeS.later ‹_› M.ext | exact (SlN.laterB ‹_› (by omega) M.ext).1 | exact M.heap (by repeat constructor) | decide) _ (by first | assumption | omega | exact And.left ‹_› | exact (by assumption : SlAt _ _ _ _ _).later M.ext | exact TapeS.later ‹_› M.ext | exact (SlN.laterB ‹_› (by omega) M.ext).1 | exact M.heap (by repeat constructor) | decide) (by first | assumption | omega | exact And.left ‹_› | exact (by assumption : SlAt _ _ _ _ _).later M.ext | exact TapeS.later ‹_› M.ext | exact (SlN.laterB ‹_› (by omega) M.ext).1 | exact M.heap (by repeat constructor) | decide) _ _ (by first | assumption | omega | exact And.left ‹_› | exact (by assumption : SlAt _ _ _ _ _).later M.ext | exact TapeS.later ‹_› M.ext | exact (SlN.laterB ‹_› (by omega) M.ext).1 | exact M.heap (by repeat constructor) | decide)) ?_));clear F;clear a;rintro v63 w ⟨ent63, p63_0, N⟩ a F;replace M := M.joins N;clear N
    refine sD F (o_assign (F.e rfl) ?_);clear F a;intro a F
    with_reducible refine l_nil (q_inB (q_then (c_region ?_)))
    refine sD F (o_move (F.e rfl) ?_);clear F a;intro a F
    refine sD F (o_sub (F.e rfl) (F.e rfl) (w_i64 (by omega) (by omega)) ?_);clear F a;intro a F
    refine sD F (o_assign (F.e rfl) ?_);clear F a;intro a F
    with_reducible refine l_nil (q_then ?_)
    exact ⟨c - 1, by omega, c - 1, _, _, _, _, rfl, by omega, ⟨OwnS.slJ ‹_› (M.sub (List.Sublist.append_left (.cons _ (.refl _)) _)) E0.size, okR_put hOk (by first | exact okR_new' hd hdv he hom (.inr ‹_›) | exact okR_held hd hdv ‹_› | exact okR_new' hd hdv he hom (.inl rfl)), putG_asc hd hO.asc fun z hz => (hOi z hz).1⟩, Nat.le_trans (Nat.add_le_add_right putG_len _) (by simp;omega), F.only [8, 7, 0, 1, 2] rfl, (M.sub (List.sublist_append_of_sublist_right (.cons _ (.refl _)))).un E0⟩
 ·refine c_seq ?_
  refine c_seq (c_region ?_)
  refine sD F (o_move (F.e rfl) ?_);clear F a;intro a F
  refine sD F (o_gtrF (F.e rfl) (F.e rfl) (by omega) ?_);clear F a;intro a F
  with_reducible refine l_nil (q_then ?_)
  refine c_false F rfl rfl ?_
  with_reducible refine c_exit (q_thenX (q_thenX (q_inBX (q_then (c_seq (c_region ?_))))))
  refine sD F (o_move (F.e rfl) ?_);clear F a;intro a F
  refine sD F (o_assign (F.e rfl) ?_);clear F a;intro a F
  with_reducible refine l_nil (q_then (c_ret ?_))
  refine p_ret F rfl (.cons (.tmp (F.e rfl)) .nil) ?_;(try dsimp only [oneOr])
  exact ⟨_, _, hO, by omega, M⟩
end Go.Proofs.YtilgoepokaaleaaGreat
/-! YN -/
namespace Go.Proofs.YtilgoepokaaleaaGreat
set_option linter.unusedVariables false
set_option linter.unusedSimpArgs false
open Go.RowKit
attribute [local irreducible] OpTo wpListIn Code.wpIn MW Cal
theorem filter_step {α : Type} {p : α → Bool} {ls : List α} {j : Nat} (h : j < ls.length) : (ls.take (j + 1)).filter p = (ls.take j).filter p ++ if p ls[j] = true then [ls[j]] else [] := by
 rw [List.take_add_one, List.getElem?_eq_getElem h, List.filter_append]
 simp only [Option.toList_some, List.filter_cons, List.filter_nil]
def withoutV (l : List RouV) (p : RouV → Bool) : List RouV := if validRs l then l.filter (fun x => !p x) else []
def expireV (l : List RouV) (now : Int) : List RouV := if isTime now then withoutV l (fun x => decide (x.til ≤ now)) else []
end Go.Proofs.YtilgoepokaaleaaGreat
/-! YQ -/
namespace Go.Proofs.YtilgoepokaaleaaGreat
set_option linter.unusedVariables false
set_option linter.unusedSimpArgs false
open Go.RowKit
attribute [local irreducible] OpTo wpListIn Code.wpIn MW Cal
set_option maxHeartbeats 8000000 in
theorem rexpire_c (l : List RouV) (hx : ∀ x ∈ l, IsRo x) (v : Value) (now : Int) (W : World) (hS : SlAt W 39 v l.length (rosC l)) :
  Cal Tryz.prog 91 [v, .int .i64 now].toArray W fun r w' => ∃ ent, OwnS 53 39 r (expireV l now).length (rosC (expireV l now)) ent ∧ Mem [] W w' ent := by
 obtain ⟨q, cap, rfl, _⟩ := id hS
 have hm := hS.memB [] (by simp)
 have c1 : expireV l now = [] → ∀ w, Ext [] W w → ∃ ent, OwnS 53 39 (.slice none 0 0) (expireV l now).length (rosC (expireV l now)) ent ∧ Mem [] W w ent := fun h w E => by rw [h];exact ⟨[], OwnS.nil _ _, Mem.nil E⟩
 refine g_start (n := 32) (S := []) fldT_ok slcT_ok Tryz.func91 rfl rfl rfl ?_
 cases hv : validRs l
 ·refine gR 9 rfl ?_
  refine g_call rfl rfl (fun w M => refvalidR_c _ ‹_› _ _ ((by assumption : SlAt _ _ _ _ _).later M.ext)) ?_
  refine gR 2 rfl ?_
  refine g_know 11 rfl (notT ‹_›) ?_
  refine gR 14 rfl ?_
  refine g_ret1 rfl rfl rfl fun w M => ?_
  exact c1 (by unfold expireV withoutV;simp [hv]) _ M.ext
 cases ht : isTime now
 ·refine gR 9 rfl ?_
  refine g_call rfl rfl (fun w M => refvalidR_c _ ‹_› _ _ ((by assumption : SlAt _ _ _ _ _).later M.ext)) ?_
  refine gR 2 rfl ?_
  refine g_know 11 rfl (notF ‹_›) ?_
  refine gR 1 rfl ?_
  refine g_call rfl rfl (fun w M => risTime_c _ _) ?_
  refine gR 4 rfl ?_
  refine g_ifT rfl (notT ‹_›) ?_
  refine gR 7 rfl ?_
  refine g_ret1 rfl rfl rfl fun w M => ?_
  exact c1 (by unfold expireV;simp [ht]) _ M.ext
 have hl512 := (validRs_iff.1 hv).1
 refine gR 9 rfl ?_
 refine g_call rfl rfl (fun w M => refvalidR_c _ ‹_› _ _ ((by assumption : SlAt _ _ _ _ _).later M.ext)) ?_
 refine gR 2 rfl ?_
 refine g_know 11 rfl (notF ‹_›) ?_
 refine gR 1 rfl ?_
 refine g_call rfl rfl (fun w M => risTime_c _ _) ?_
 refine gR 4 rfl ?_
 refine g_ifF rfl (notF ‹_›) ?_
 refine gR 16 rfl ?_
 refine g_pad ?_
 refine g_loop (ι := Nat × (List RouV) × Value × (List (Nat × Obj))) ⟨fun (i, out, u, es) => l.length - i, fun (i, out, u, es) => i ≤ l.length ∧ (OwnS 53 39 u out.length (rosC out) es) ∧ (out = (l.take i).filter (fun x => !decide (x.til ≤ now))), fun (i, out, u, es) => [(18, .int .i64 i), (17, .int .i64 l.length), (16, .slice q l.length cap), (5, u), (1, .int .i64 now)], fun (i, out, u, es) => [es]⟩ (0, [], _, []) ⟨by omega, OwnS.nilL _ _ _, rfl⟩ (fun a F => F.only [18, 17, 16, 5, 1] rfl) (by repeat (first | exact .refl _ | apply sC2 | apply sC1)) ?_
 rintro ⟨i, out, u, es⟩ ⟨hi_i, hOs, ho⟩
 dsimp only
 by_cases hlt_i : i < l.length
 ·obtain ⟨b, o, cs, t', fz, rfl, hb, hs⟩ := hm (by omega)
  obtain ⟨x, hx0⟩ : ∃ x, x = l[i] := ⟨_, rfl⟩
  have hxm : x ∈ l := by rw [hx0];exact List.getElem_mem hlt_i
  have hxi : IsRo x := hx _ hxm
  have f1 : seg cs (o + (i : Int).toNat * 39) 39 = some (roC x) := by rw [hx0];exact seg_el (ros_len hx) hs hlt_i (by omega)
  have hx0' := hx0
  clear hx0
  have hst := filter_step (p := fun x => !decide (x.til ≤ now)) hlt_i
  rw [← ho, ← hx0'] at hst
  have hol : out.length ≤ i := by rw [ho];exact Nat.le_trans (List.length_filter_le _ _) (by rw [List.length_take];omega)
  clear ho hx0' c1
  by_cases k : now < x.til
  ·rw [if_pos (by simp;omega)] at hst
   refine gR 6 rfl ?_
   refine g_ifT rfl (decide_eq_true (by omega)) ?_
   refine gR 6 rfl ?_
   refine g_ixS rfl rfl (by omega) (by omega) ?_
   refine g_leA rfl ‹_› (by with_reducible assumption) ?_
   refine g_alloc fun b7 => ?_
   refine g_stA 0 rfl rfl (ro_len ‹_›) (ro_one _) rfl (put_all (by rw [ro_len ‹_›];first | rfl | rw [ro_len ‹_›])) rfl ?_
   refine gR 5 rfl ?_
   refine g_ld1 0 rfl rfl (ro_til ‹_›) ?_
   refine gR 4 rfl ?_
   refine g_ifT rfl (decide_eq_true (by omega)) ?_
   refine gR 2 rfl ?_
   refine g_ldA 0 rfl rfl (ro_all ‹_›) ?_
   refine g_bs rfl rfl rfl (ro_build1 ‹_›) fun b28 => ?_
   refine g_app 2 0 (enc := roC) rfl rfl ‹_› rfl rfl (ro_len ‹_›) (by first | omega | (simp only [List.length_nil];omega)) (fun _ => rfl) (fun v29 es29 hO29 => ?_) (ro_one _)
   refine gR 5 rfl ?_
   refine g_add rfl rfl (w_i64 (by omega) (by omega)) ?_
   refine gR 2 rfl ?_
   exact g_next (i + 1, _, _, _) ⟨by omega, by assumption, hst.symm⟩ (by dsimp only;omega) (fun a F => F.only [18, 17, 16, 5, 1] rfl) (by (try dsimp only);repeat (first | exact .refl _ | with_reducible exact sC0 _ | with_reducible apply sC2 | apply sC1))
  ·rw [if_neg (by simp;omega), List.append_nil] at hst
   refine gR 6 rfl ?_
   refine g_ifT rfl (decide_eq_true (by omega)) ?_
   refine gR 6 rfl ?_
   refine g_ixS rfl rfl (by omega) (by omega) ?_
   refine g_leA rfl ‹_› (by with_reducible assumption) ?_
   refine g_alloc fun b7 => ?_
   refine g_stA 0 rfl rfl (ro_len ‹_›) (ro_one _) rfl (put_all (by rw [ro_len ‹_›];first | rfl | rw [ro_len ‹_›])) rfl ?_
   refine gR 5 rfl ?_
   refine g_ld1 0 rfl rfl (ro_til ‹_›) ?_
   refine gR 4 rfl ?_
   refine g_ifF rfl (decide_eq_false (by omega)) ?_
   refine gR 4 rfl ?_
   refine g_add rfl rfl (w_i64 (by omega) (by omega)) ?_
   refine gR 2 rfl ?_
   exact g_next (i + 1, out, u, es) ⟨by omega, hOs, hst.symm⟩ (by dsimp only;omega) (fun a F => F.only [18, 17, 16, 5, 1] rfl) (by (try dsimp only);repeat (first | exact .refl _ | with_reducible exact sC0 _ | with_reducible apply sC2 | apply sC1))
 ·have hil : i = l.length := by omega
  rw [hil, List.take_length] at ho
  have he : expireV l now = out := by unfold expireV withoutV;rw [if_pos ht, if_pos hv, ho]
  rw [he]
  clear c1
  refine gR 6 rfl ?_
  refine g_ifF rfl (decide_eq_false (by omega)) ?_
  refine gR 2 rfl ?_
  refine g_outX ?_
  refine gR 9 rfl ?_
  refine g_ret1 rfl rfl rfl fun w M => ?_
  exact ⟨es, hOs, M.sub (List.sublist_append_left _ _)⟩
end Go.Proofs.YtilgoepokaaleaaGreat
/-! WA -/
namespace Go.Proofs.YtilgoepokaaleaaGreat
set_option linter.unusedVariables false
set_option linter.unusedSimpArgs false
open Go.RowKit
attribute [local irreducible] OpTo wpListIn Code.wpIn MW Cal
def hungry (inn : List InsV) (t : DstV) : Bool := match getV inn t with
 | none => true
 | some x => decide (x.nb = 0)
def starvedV (now : Int) (l : List RouV) (s : List SrcV) (inn : List InsV) : List DstV := if !validRs l || !validSs s || !validIs inn || !isTime now then [] else (destsV (expireV l now) []).filter (hungry inn)
theorem expire_is {l : List RouV} {now : Int} (hx : ∀ x ∈ l, IsRo x) : ∀ x ∈ expireV l now, IsRo x := fun x h => by
 unfold expireV withoutV at h
 split at h
 ·split at h
  ·exact hx x (List.mem_filter.1 h).1
  ·cases h
 ·cases h
theorem expire_val {l : List RouV} {now : Int} (h1 : validRs l = true) (h2 : isTime now = true) : expireV l now = l.filter (fun x => !decide (x.til ≤ now)) := by
 unfold expireV withoutV
 rw [if_pos h2, if_pos h1]
set_option maxHeartbeats 16000000 in
theorem rstarved_c (now : Int) (l : List RouV) (hx : ∀ x ∈ l, IsRo x) (s : List SrcV) (hsr : ∀ x ∈ s, IsSr x) (inn : List InsV) (hy : ∀ x ∈ inn, IsIn x) (vl vs vi : Value) (W : World) (hS : SlAt W 39 vl l.length (rosC l)) (hSs : SlAt W 38 vs s.length (srsC s)) (hSi : SlAt W 40 vi inn.length (insC inn)) :
  Cal Tryz.prog 69 [.int .i64 now, vl, vs, vi].toArray W fun r w' => ∃ ent, OwnS 45 35 r (starvedV now l s inn).length (dvsC (starvedV now l s inn)) ent ∧ Mem [] W w' ent := by
 obtain ⟨ql, cl, rfl, _⟩ := id hS
 obtain ⟨qs, cs0, rfl, _⟩ := id hSs
 obtain ⟨qi, ci, rfl, _⟩ := id hSi
 have c1 : starvedV now l s inn = [] → ∀ w, Ext [] W w → ∃ ent, OwnS 45 35 (.slice none 0 0) (starvedV now l s inn).length (dvsC (starvedV now l s inn)) ent ∧ Mem [] W w ent := fun h w E => by
  rw [h]
  exact ⟨[], OwnS.nil _ _, Mem.nil E⟩
 refine g_start (n := 60) (S := []) fldT_ok slcT_ok Tryz.func69 rfl rfl rfl ?_
 cases hv : validRs l
 ·refine gR 9 rfl ?_
  refine g_call rfl rfl (fun w M => refvalidR_c _ ‹_› _ _ ((by assumption : SlAt _ _ _ _ _).later M.ext)) ?_
  refine gR 2 rfl ?_
  refine g_know 17 rfl (notT ‹_›) ?_
  refine gR 24 rfl ?_
  refine g_ret1 rfl rfl rfl fun w M => ?_
  exact c1 (by unfold starvedV;simp [*]) _ M.ext
 cases hs : validSs s
 ·refine gR 9 rfl ?_
  refine g_call rfl rfl (fun w M => refvalidR_c _ ‹_› _ _ ((by assumption : SlAt _ _ _ _ _).later M.ext)) ?_
  refine gR 2 rfl ?_
  refine g_know 17 rfl (notF ‹_›) ?_
  refine gR 1 rfl ?_
  refine g_call rfl rfl (fun w M => refvalidS_c _ ‹_› _ _ ((by assumption : SlAt _ _ _ _ _).later M.ext)) ?_
  refine gR 3 rfl ?_
  refine g_know 22 rfl (notT ‹_›) ?_
  refine gR 19 rfl ?_
  refine g_ret1 rfl rfl rfl fun w M => ?_
  exact c1 (by unfold starvedV;simp [*]) _ M.ext
 cases ho : validIs inn
 ·refine gR 9 rfl ?_
  refine g_call rfl rfl (fun w M => refvalidR_c _ ‹_› _ _ ((by assumption : SlAt _ _ _ _ _).later M.ext)) ?_
  refine gR 2 rfl ?_
  refine g_know 17 rfl (notF ‹_›) ?_
  refine gR 1 rfl ?_
  refine g_call rfl rfl (fun w M => refvalidS_c _ ‹_› _ _ ((by assumption : SlAt _ _ _ _ _).later M.ext)) ?_
  refine gR 3 rfl ?_
  refine g_know 22 rfl (notF ‹_›) ?_
  refine gR 1 rfl ?_
  refine g_call rfl rfl (fun w M => refvalidI_c _ ‹_› _ _ ((by assumption : SlAt _ _ _ _ _).later M.ext)) ?_
  refine gR 3 rfl ?_
  refine g_know 27 rfl (notT ‹_›) ?_
  refine gR 14 rfl ?_
  refine g_ret1 rfl rfl rfl fun w M => ?_
  exact c1 (by unfold starvedV;simp [*]) _ M.ext
 cases hn : isTime now
 ·refine gR 9 rfl ?_
  refine g_call rfl rfl (fun w M => refvalidR_c _ ‹_› _ _ ((by assumption : SlAt _ _ _ _ _).later M.ext)) ?_
  refine gR 2 rfl ?_
  refine g_know 17 rfl (notF ‹_›) ?_
  refine gR 1 rfl ?_
  refine g_call rfl rfl (fun w M => refvalidS_c _ ‹_› _ _ ((by assumption : SlAt _ _ _ _ _).later M.ext)) ?_
  refine gR 3 rfl ?_
  refine g_know 22 rfl (notF ‹_›) ?_
  refine gR 1 rfl ?_
  refine g_call rfl rfl (fun w M => refvalidI_c _ ‹_› _ _ ((by assumption : SlAt _ _ _ _ _).later M.ext)) ?_
  refine gR 3 rfl ?_
  refine g_know 27 rfl (notF ‹_›) ?_
  refine gR 1 rfl ?_
  refine g_call rfl rfl (fun w M => risTime_c _ _) ?_
  refine gR 4 rfl ?_
  refine g_ifT rfl (notT ‹_›) ?_
  refine gR 7 rfl ?_
  refine g_ret1 rfl rfl rfl fun w M => ?_
  exact c1 (by unfold starvedV;simp [*]) _ M.ext
 have hrs : starvedV now l s inn = (destsV (expireV l now) []).filter (hungry inn) := by
  unfold starvedV
  rw [hv, hs, ho, hn]
  rfl
 rw [hrs]
 clear c1 hrs
 obtain ⟨l1, _, hA⟩ := validRs_iff.1 hv
 obtain ⟨l2, _, _⟩ := validIs_iff.1 ho
 refine gR 9 rfl ?_
 refine g_call rfl rfl (fun w M => refvalidR_c _ ‹_› _ _ ((by assumption : SlAt _ _ _ _ _).later M.ext)) ?_
 refine gR 2 rfl ?_
 refine g_know 17 rfl (notF ‹_›) ?_
 refine gR 1 rfl ?_
 refine g_call rfl rfl (fun w M => refvalidS_c _ ‹_› _ _ ((by assumption : SlAt _ _ _ _ _).later M.ext)) ?_
 refine gR 3 rfl ?_
 refine g_know 22 rfl (notF ‹_›) ?_
 refine gR 1 rfl ?_
 refine g_call rfl rfl (fun w M => refvalidI_c _ ‹_› _ _ ((by assumption : SlAt _ _ _ _ _).later M.ext)) ?_
 refine gR 3 rfl ?_
 refine g_know 27 rfl (notF ‹_›) ?_
 refine gR 1 rfl ?_
 refine g_call rfl rfl (fun w M => risTime_c _ _) ?_
 refine gR 4 rfl ?_
 refine g_ifF rfl (notF ‹_›) ?_
 refine gR 12 rfl ?_
 have hE := expire_val hv hn
 have hEx := expire_is (now := now) hx
 have hEA : AscC cmpR (expireV l now) := by rw [hE];exact List.Pairwise.filter _ hA
 have hEl : (expireV l now).length ≤ 512 := by rw [hE];exact Nat.le_trans (List.length_filter_le _ _) l1
 have hDi := dests_is (old := []) hEx (by simp)
 have hDl := dests_len (expireV l now) []
 clear hE
 refine g_callN (ι := Value × List (Nat × Obj)) (fun x => x.1) (fun x => OwnS 53 39 x.1 (expireV l now).length (rosC (expireV l now)) x.2) (fun x => [x.2]) rfl rfl (fun w M => Cal.mono (rexpire_c l hx _ now w (hS.later M.ext)) fun r w' ⟨ent, h, N⟩ => ⟨(r, ent), rfl, h, by simpa using N⟩) ?_
 generalize expireV l now = E at *
 rintro ⟨vE, eE⟩ hOE
 simp only [List.cons_append, List.nil_append]
 dsimp only at hOE
 skip
 refine g_callN (ι := Value × List (Nat × Obj)) (fun x => x.1) (fun x => OwnS 45 35 x.1 (destsV E []).length (dvsC (destsV E [])) x.2) (fun x => [x.2]) rfl rfl (fun w M => Cal.mono (rdests_c E hEx hEA [] (by simp) .nil (by omega) (by simp) _ _ w (hOE.slAt M (fun p hp => by simp [hp])) (SlAt.nil _ _)) fun r w' ⟨ent, h, N⟩ => ⟨(r, ent), rfl, h, by simpa using N⟩) ?_
 generalize destsV E [] = D0 at *
 rintro ⟨vD, eD⟩ hOD
 simp only [List.cons_append, List.nil_append]
 dsimp only at hOD
 simp only [List.length_nil] at hDl
 refine g_len rfl ‹_› ?_
 refine gR 4 rfl ?_
 refine g_pad ?_
 refine g_loop (ι := Nat × List DstV × Value × List (Nat × Obj)) ⟨fun (i, out, u, es) => D0.length - i, fun (i, out, u, es) => i ≤ D0.length ∧ out.length ≤ i ∧ out = (D0.take i).filter (hungry inn) ∧ OwnS 45 35 u out.length (dvsC out) es, fun (i, out, u, es) => [(37, .int .i64 i), (36, .int .i64 D0.length), (35, vD), (9, u), (3, .slice qi inn.length ci)], fun (i, out, u, es) => [es, eD]⟩ (0, [], _, []) ⟨by omega, by simp, rfl, OwnS.nilL _ _ _⟩ (fun a F => F.only [37, 36, 35, 9, 3] rfl) (by repeat (first | exact .refl _ | apply sC2 | apply sC1)) ?_
 rintro ⟨i, out, u, es⟩ ⟨hi, hol, hout, hO⟩
 dsimp only
 by_cases hlt : i < D0.length
 ·rcases id hOD with ⟨_, h0, _, _⟩ | ⟨bD, cD, jD, rfl, rfl, _, _, _⟩
  ·omega
  have htd := hDi _ (List.getElem_mem hlt)
  have f1 : seg (dvsC D0 ++ jD) (0 + (i : Int).toNat * 35) 35 = some (dvC D0[i]) := own_el (dvs_len hDi) jD hlt (by omega)
  have hst := filter_step (p := hungry inn) hlt
  rw [← hout] at hst
  generalize D0[i] = t at *
  clear hout
  have hG : ∀ w, SlAt w 40 (.slice qi inn.length ci) inn.length (insC inn) → Cal Tryz.prog 26 [.slice qi inn.length ci, .agg (dvC t).toArray].toArray w _ := fun w h => rget_c inn hy _ t htd w h (by omega)
  cases hg : getV inn t with
  | none =>
   rw [hg] at hG
   simp only [Option.getD_none, Option.isSome_none] at hG
   rw [if_pos (by unfold hungry;rw [hg])] at hst
   refine gR 6 rfl ?_
   refine g_ifT rfl (decide_eq_true (by omega)) ?_
   refine gR 6 rfl ?_
   refine g_ixS rfl rfl (by omega) (by omega) ?_
   refine g_ldA 1 rfl rfl (by with_reducible assumption) ?_
   refine g_alloc fun b11 => ?_
   refine g_stA 0 rfl rfl (dv_len ‹_›) (dv_one _) rfl (put_all (by rw [dv_len ‹_›];first | rfl | rw [dv_len ‹_›])) rfl ?_
   refine gR 5 rfl ?_
   refine g_ldA 0 rfl rfl (dv_all ‹_›) ?_
   refine g_call rfl rfl (fun w M => hG w (hSi.later M.ext)) ?_
   have hin0 := in0_is
   refine gR 3 rfl ?_
   refine g_alloc fun b12 => ?_
   refine g_stA 0 rfl rfl (in_len ‹_›) (in_one _) rfl (put_all (by rw [in_len ‹_›];first | rfl | rw [in_len ‹_›])) rfl ?_
   refine gR 17 rfl ?_
   refine g_ldA 1 rfl rfl (dv_all ‹_›) ?_
   refine g_bs rfl rfl rfl (dv_build1 ‹_›) (fun b56 => ?_)
   refine g_app 3 0 (enc := dvC) rfl rfl ‹_› rfl rfl (dv_len ‹_›) (by first | omega | (simp only [List.length_nil];omega)) (fun _ => rfl) (fun v57 es57 hO57 => ?_) (dv_one _)
   refine gR 5 rfl ?_
   refine g_add rfl rfl (w_i64 (by omega) (by omega)) ?_
   refine gR 2 rfl ?_
   exact g_next (i + 1, _, _, _) ⟨by omega, by simp;omega, hst.symm, by assumption⟩ (by dsimp only;omega) (fun a F => F.only [37, 36, 35, 9, 3] rfl) (by (try dsimp only);repeat (first | exact .refl _ | with_reducible exact sC0 _ | with_reducible apply sC2 | apply sC1))
  | some was =>
   rw [hg] at hG
   simp only [Option.getD_some, Option.isSome_some] at hG
   have wI : IsIn was := hy _ (List.mem_of_find?_eq_some hg)
   refine gR 6 rfl ?_
   refine g_ifT rfl (decide_eq_true (by omega)) ?_
   refine gR 6 rfl ?_
   refine g_ixS rfl rfl (by omega) (by omega) ?_
   refine g_ldA 1 rfl rfl (by with_reducible assumption) ?_
   refine g_alloc fun b11 => ?_
   refine g_stA 0 rfl rfl (dv_len ‹_›) (dv_one _) rfl (put_all (by rw [dv_len ‹_›];first | rfl | rw [dv_len ‹_›])) rfl ?_
   refine gR 5 rfl ?_
   refine g_ldA 0 rfl rfl (dv_all ‹_›) ?_
   refine g_call rfl rfl (fun w M => hG w (hSi.later M.ext)) ?_
   by_cases hr : was.nb = 0
   ·have hr' : (!decide (was.nb = 0)) = false := by simp [hr]
    rw [if_pos (by unfold hungry;rw [hg];simp [hr])] at hst
    refine gR 3 rfl ?_
    refine g_alloc fun b12 => ?_
    refine g_stA 0 rfl rfl (in_len ‹_›) (in_one _) rfl (put_all (by rw [in_len ‹_›];first | rfl | rw [in_len ‹_›])) rfl ?_
    refine gR 8 rfl ?_
    refine g_ldA 0 rfl rfl (in_all ‹_›) ?_
    refine g_call rfl rfl (fun w M => refreach_c _ ‹_› _) ?_
    refine gR 4 rfl ?_
    refine g_ifT rfl (notT ‹_›) ?_
    refine gR 2 rfl ?_
    refine g_ldA 1 rfl rfl (dv_all ‹_›) ?_
    refine g_bs rfl rfl rfl (dv_build1 ‹_›) (fun b56 => ?_)
    refine g_app 3 0 (enc := dvC) rfl rfl ‹_› rfl rfl (dv_len ‹_›) (by first | omega | (simp only [List.length_nil];omega)) (fun _ => rfl) (fun v57 es57 hO57 => ?_) (dv_one _)
    refine gR 5 rfl ?_
    refine g_add rfl rfl (w_i64 (by omega) (by omega)) ?_
    refine gR 2 rfl ?_
    exact g_next (i + 1, _, _, _) ⟨by omega, by simp;omega, hst.symm, by assumption⟩ (by dsimp only;omega) (fun a F => F.only [37, 36, 35, 9, 3] rfl) (by (try dsimp only);repeat (first | exact .refl _ | with_reducible exact sC0 _ | with_reducible apply sC2 | apply sC1))
   ·have hr' : (!decide (was.nb = 0)) = true := by simp [hr]
    rw [if_neg (by unfold hungry;rw [hg];simp [hr]), List.append_nil] at hst
    refine gR 3 rfl ?_
    refine g_alloc fun b12 => ?_
    refine g_stA 0 rfl rfl (in_len ‹_›) (in_one _) rfl (put_all (by rw [in_len ‹_›];first | rfl | rw [in_len ‹_›])) rfl ?_
    refine gR 8 rfl ?_
    refine g_ldA 0 rfl rfl (in_all ‹_›) ?_
    refine g_call rfl rfl (fun w M => refreach_c _ ‹_› _) ?_
    refine gR 4 rfl ?_
    refine g_ifF rfl (notF ‹_›) ?_
    refine gR 4 rfl ?_
    refine g_add rfl rfl (w_i64 (by omega) (by omega)) ?_
    refine gR 2 rfl ?_
    exact g_next (i + 1, out, u, es) ⟨by omega, by dsimp only;omega, hst.symm, hO⟩ (by dsimp only;omega) (fun a F => F.only [37, 36, 35, 9, 3] rfl) (by (try dsimp only);repeat (first | exact .refl _ | with_reducible exact sC0 _ | with_reducible apply sC2 | apply sC1))
 ·have hil : i = D0.length := by omega
  rw [hil, List.take_length] at hout
  rw [← hout]
  refine gR 6 rfl ?_
  refine g_ifF rfl (decide_eq_false (by omega)) ?_
  refine gR 2 rfl ?_
  refine g_outX ?_
  refine gR 9 rfl ?_
  refine g_ret1 rfl rfl rfl fun w M => ?_
  exact ⟨es, hO, M.sub (List.sublist_append_left _ _)⟩
end Go.Proofs.YtilgoepokaaleaaGreat
/-! WB -/
namespace Go.Proofs.YtilgoepokaaleaaGreat
set_option linter.unusedVariables false
set_option linter.unusedSimpArgs false
open Go.RowKit
attribute [local irreducible] OpTo wpListIn Code.wpIn MW Cal
theorem keyT_law : KeyLw Tryz.prog 45 (fun x : DstV => .agg (dvC x).toArray) IsDv := keyLw_leaf (ks := dvK) (by kernel_rfl) dvC (fun _ h => dv_fits h) (fun _ _ hx hy => dv_eq hx hy)
theorem zero_bT : zeroIs Tryz.prog 4 (.bool false) := by
 unfold zeroIs
 kernel_rfl
theorem mem_putA {κ ν : Type} [DecidableEq κ] {x : κ} {v : ν} : ∀ {m : List (κ × ν)} {p : κ × ν}, p ∈ putA x v m → p.1 = x ∨ p ∈ m
 | [], p, h => by
  simp only [putA, List.mem_singleton] at h
  exact .inl (by rw [h])
 | q :: m, p, h => by
  unfold putA at h
  split at h
  ·rcases List.mem_cons.1 h with rfl | h
   ·exact .inl rfl
   ·exact .inr (List.mem_cons_of_mem _ h)
  ·rcases List.mem_cons.1 h with rfl | h
   ·exact .inr (by simp)
   ·exact (mem_putA h).imp id (List.mem_cons_of_mem _)
theorem any_step {l : List InsV} {t : DstV} {i : Nat} (h : i < l.length) : (l.take (i + 1)).any (fun x => decide (x.to = t) && !decide (x.nb = 0)) = ((l.take i).any (fun x => decide (x.to = t) && !decide (x.nb = 0)) || (decide (l[i].to = t) && !decide (l[i].nb = 0))) := by
 rw [List.take_add_one, List.getElem?_eq_getElem h, List.any_append]
 simp
theorem hungry_any {inn : List InsV} (hA : AscC cmpN inn) (t : DstV) : (inn.any fun x => decide (x.to = t) && !decide (x.nb = 0)) = !hungry inn t := by
 have huniq : ∀ x ∈ inn, ∀ y ∈ inn, x.to = y.to → x = y := fun x hx y hy e => by
  obtain ⟨i, hi, rfl⟩ := List.mem_iff_getElem.1 hx
  obtain ⟨j, hj, rfl⟩ := List.mem_iff_getElem.1 hy
  rcases Nat.lt_trichotomy i j with h | h | h
  ·have := (List.pairwise_iff_getElem.1 hA) i j hi hj h
   unfold cmpN at this
   rw [e, cmpD_self] at this
   omega
  ·subst h;rfl
  ·have := (List.pairwise_iff_getElem.1 hA) j i hj hi h
   unfold cmpN at this
   rw [e, cmpD_self] at this
   omega
 unfold hungry
 cases hg : getV inn t with
 | none =>
  have hn := List.find?_eq_none.1 hg
  show (inn.any fun x => decide (x.to = t) && !decide (x.nb = 0)) = false
  rw [Bool.eq_false_iff]
  intro h
  obtain ⟨x, hx, h1⟩ := List.any_eq_true.1 h
  simp only [Bool.and_eq_true, decide_eq_true_eq] at h1
  exact hn x hx (decide_eq_true h1.1)
 | some x =>
  have hm := List.mem_of_find?_eq_some hg
  have ht : x.to = t := by simpa using List.find?_some hg
  dsimp only
  rw [Bool.eq_iff_iff]
  constructor
  ·intro h
   obtain ⟨y, hy, h1⟩ := List.any_eq_true.1 h
   simp only [Bool.and_eq_true, decide_eq_true_eq] at h1
   rw [← huniq y hy x hm (h1.1.trans ht.symm)]
   exact h1.2
  ·intro h
   exact List.any_eq_true.2 ⟨x, hm, by rw [ht];simpa using h⟩
/-- what the second loop knows -/
structure St2 (now : Int) (inn : List InsV) (l : List RouV) (out : List DstV) : Prop where
 asc : AscD out
 mem : ∀ t, t ∈ out ↔ ∃ x ∈ l, x.to = t ∧ now < x.til ∧ hungry inn t = true
theorem st2_nil {now : Int} {inn : List InsV} : St2 now inn [] [] := ⟨.nil, fun t => by simp⟩
theorem take_mem {α : Type} {l : List α} {j : Nat} (h : j < l.length) {x : α} : x ∈ l.take (j + 1) ↔ x ∈ l.take j ∨ x = l[j] := by
 rw [List.take_add_one, List.getElem?_eq_getElem h, List.mem_append]
 simp
theorem St2.skip {now : Int} {inn : List InsV} {l : List RouV} {out : List DstV} {j : Nat} (hj : j < l.length) (h : St2 now inn (l.take j) out) (hs : ¬ now < l[j].til ∨ hungry inn l[j].to = false ∨ l[j].to ∈ out) : St2 now inn (l.take (j + 1)) out := by
 refine ⟨h.asc, fun t => ⟨fun ht => ?_, fun ⟨x, hx, h1, h2, h3⟩ => ?_⟩⟩
 ·obtain ⟨x, hx, h1⟩ := (h.mem t).1 ht
  exact ⟨x, (take_mem hj).2 (.inl hx), h1⟩
 ·rcases (take_mem hj).1 hx with hx | hx
  ·exact (h.mem t).2 ⟨x, hx, h1, h2, h3⟩
  ·subst hx
   rcases hs with g | g | g
   ·exact absurd h2 g
   ·rw [h1, h3] at g;cases g
   ·rw [← h1];exact g
theorem St2.push {now : Int} {inn : List InsV} {l : List RouV} {out : List DstV} {j : Nat} (hx : ∀ x ∈ l, IsRo x) (hW : Weak RouV.to l) (hj : j < l.length) (h : St2 now inn (l.take j) out) (h1 : now < l[j].til) (h2 : hungry inn l[j].to = true) (h3 : ∀ hn : 0 < out.length, out[out.length - 1] ≠ l[j].to) : St2 now inn (l.take (j + 1)) (out ++ [l[j].to]) := by
 have hle : ∀ t ∈ out, ¬ cmpD l[j].to t < 0 ∧ IsDv t := fun t ht => by
  obtain ⟨x, hx1, rfl, _⟩ := (h.mem t).1 ht
  obtain ⟨q, hq, rfl⟩ := List.mem_iff_getElem.1 hx1
  rw [List.length_take] at hq
  rw [List.getElem_take]
  exact ⟨(List.pairwise_iff_getElem.1 hW) q j (by omega) hj (by omega), (hx _ (List.getElem_mem (by omega))).1⟩
 have hjd := (hx _ (List.getElem_mem hj)).1
 refine ⟨List.pairwise_append.2 ⟨h.asc, by simp, fun t ht b hb => ?_⟩, fun t => ?_⟩
 ·simp only [List.mem_singleton] at hb
  subst hb
  obtain ⟨g1, g2⟩ := hle t ht
  have g3 := cmpD_anti t l[j].to
  rcases Int.lt_or_eq_of_le (show cmpD t l[j].to ≤ 0 by omega) with g4 | g4
  ·exact g4
  ·exfalso
   have e := cmpD_zero g2 hjd g4
   have hn : 0 < out.length := List.length_pos_of_mem ht
   obtain ⟨p, hp, hpe⟩ := List.mem_iff_getElem.1 ht
   rcases Nat.lt_or_ge p (out.length - 1) with g5 | g5
   ·have g6 := (List.pairwise_iff_getElem.1 h.asc) p (out.length - 1) hp (by omega) g5
    rw [hpe, e] at g6
    exact (hle _ (List.getElem_mem (by omega))).1 g6
   ·have g6 : p = out.length - 1 := by omega
    subst g6
    exact h3 hn (hpe.trans e)
 ·rw [List.mem_append, List.mem_singleton, h.mem]
  constructor
  ·rintro (⟨x, hx1, h5⟩ | rfl)
   ·exact ⟨x, (take_mem hj).2 (.inl hx1), h5⟩
   ·exact ⟨_, (take_mem hj).2 (.inr rfl), rfl, h1, h2⟩
  ·rintro ⟨x, hx1, h5, h6⟩
   rcases (take_mem hj).1 hx1 with g | g
   ·exact .inl ⟨x, g, h5, h6⟩
   ·subst g
    exact .inr h5.symm
theorem St2.all {now : Int} {inn : List InsV} {l : List RouV} {out : List DstV} (hx : ∀ x ∈ l, IsRo x) (h : St2 now inn l out) (hE : expireV l now = l.filter (fun x => !decide (x.til ≤ now))) : out = (destsV (expireV l now) []).filter (hungry inn) := by
 have h1 := dests_asc (old := []) (expire_is (now := now) hx) (by simp)
 refine ascK_unique (fun t => t) _ _ h.asc (List.Pairwise.filter _ h1.1) fun t => ?_
 rw [h.mem, List.mem_filter, h1.2, hE]
 unfold allD
 simp only [List.map_nil, List.append_nil, List.mem_map, List.mem_filter]
 constructor
 ·rintro ⟨x, g1, g2, g3, g4⟩
  exact ⟨⟨x, ⟨g1, by simp;omega⟩, g2⟩, g4⟩
 ·rintro ⟨⟨x, ⟨g1, g2⟩, g3⟩, g4⟩
  exact ⟨x, g1, g3, by simp at g2;omega, g4⟩
set_option maxHeartbeats 16000000 in
theorem starved_c (now : Int) (l : List RouV) (hx : ∀ x ∈ l, IsRo x) (s : List SrcV) (hsr : ∀ x ∈ s, IsSr x) (inn : List InsV) (hy : ∀ x ∈ inn, IsIn x) (vl vs vi : Value) (W : World) (hS : SlAt W 39 vl l.length (rosC l)) (hSs : SlAt W 38 vs s.length (srsC s)) (hSi : SlAt W 40 vi inn.length (insC inn)) :
  Cal Tryz.prog 68 [.int .i64 now, vl, vs, vi].toArray W fun r w' => ∃ ent, OwnS 45 35 r (starvedV now l s inn).length (dvsC (starvedV now l s inn)) ent ∧ Mem [] W w' ent := by
 obtain ⟨ql, cl, rfl, _⟩ := id hS
 obtain ⟨qs, cs0, rfl, _⟩ := id hSs
 obtain ⟨qi, ci, rfl, _⟩ := id hSi
 have hm := hS.memB [] (by simp)
 have hmi := hSi.memB [] (by simp)
 have c1 : starvedV now l s inn = [] → ∀ w, Ext [] W w → ∃ ent, OwnS 45 35 (.slice none 0 0) (starvedV now l s inn).length (dvsC (starvedV now l s inn)) ent ∧ Mem [] W w ent := fun h w E => by
  rw [h]
  exact ⟨[], OwnS.nil _ _, Mem.nil E⟩
 refine g_start (n := 85) (S := []) fldT_ok slcT_ok Tryz.func68 rfl rfl rfl ?_
 cases hv : validRs l
 ·refine gR 9 rfl ?_
  refine g_call rfl rfl (fun w M => rtvalid_c _ ‹_› _ _ ((by assumption : SlAt _ _ _ _ _).later M.ext)) ?_
  refine gR 2 rfl ?_
  refine g_know 18 rfl (notT ‹_›) ?_
  refine gR 24 rfl ?_
  refine g_ret1 rfl rfl rfl fun w M => ?_
  exact c1 (by unfold starvedV;simp [*]) _ M.ext
 cases hs : validSs s
 ·refine gR 9 rfl ?_
  refine g_call rfl rfl (fun w M => rtvalid_c _ ‹_› _ _ ((by assumption : SlAt _ _ _ _ _).later M.ext)) ?_
  refine gR 2 rfl ?_
  refine g_know 18 rfl (notF ‹_›) ?_
  refine gR 1 rfl ?_
  refine g_call rfl rfl (fun w M => scvalid_c _ ‹_› _ _ ((by assumption : SlAt _ _ _ _ _).later M.ext)) ?_
  refine gR 3 rfl ?_
  refine g_know 23 rfl (notT ‹_›) ?_
  refine gR 19 rfl ?_
  refine g_ret1 rfl rfl rfl fun w M => ?_
  exact c1 (by unfold starvedV;simp [*]) _ M.ext
 cases ho : validIs inn
 ·refine gR 9 rfl ?_
  refine g_call rfl rfl (fun w M => rtvalid_c _ ‹_› _ _ ((by assumption : SlAt _ _ _ _ _).later M.ext)) ?_
  refine gR 2 rfl ?_
  refine g_know 18 rfl (notF ‹_›) ?_
  refine gR 1 rfl ?_
  refine g_call rfl rfl (fun w M => scvalid_c _ ‹_› _ _ ((by assumption : SlAt _ _ _ _ _).later M.ext)) ?_
  refine gR 3 rfl ?_
  refine g_know 23 rfl (notF ‹_›) ?_
  refine gR 1 rfl ?_
  refine g_call rfl rfl (fun w M => rtvalidI_c _ ‹_› _ _ ((by assumption : SlAt _ _ _ _ _).later M.ext)) ?_
  refine gR 3 rfl ?_
  refine g_know 28 rfl (notT ‹_›) ?_
  refine gR 14 rfl ?_
  refine g_ret1 rfl rfl rfl fun w M => ?_
  exact c1 (by unfold starvedV;simp [*]) _ M.ext
 cases hn : isTime now
 ·refine gR 9 rfl ?_
  refine g_call rfl rfl (fun w M => rtvalid_c _ ‹_› _ _ ((by assumption : SlAt _ _ _ _ _).later M.ext)) ?_
  refine gR 2 rfl ?_
  refine g_know 18 rfl (notF ‹_›) ?_
  refine gR 1 rfl ?_
  refine g_call rfl rfl (fun w M => scvalid_c _ ‹_› _ _ ((by assumption : SlAt _ _ _ _ _).later M.ext)) ?_
  refine gR 3 rfl ?_
  refine g_know 23 rfl (notF ‹_›) ?_
  refine gR 1 rfl ?_
  refine g_call rfl rfl (fun w M => rtvalidI_c _ ‹_› _ _ ((by assumption : SlAt _ _ _ _ _).later M.ext)) ?_
  refine gR 3 rfl ?_
  refine g_know 28 rfl (notF ‹_›) ?_
  refine gR 1 rfl ?_
  refine g_call rfl rfl (fun w M => rtTime_c _ _) ?_
  refine gR 4 rfl ?_
  refine g_ifT rfl (notT ‹_›) ?_
  refine gR 7 rfl ?_
  refine g_ret1 rfl rfl rfl fun w M => ?_
  exact c1 (by unfold starvedV;simp [*]) _ M.ext
 have hrs : starvedV now l s inn = (destsV (expireV l now) []).filter (hungry inn) := by
  unfold starvedV
  rw [hv, hs, ho, hn]
  rfl
 rw [hrs]
 clear c1 hrs
 obtain ⟨l1, _, hA⟩ := validRs_iff.1 hv
 obtain ⟨l2, _, hB⟩ := validIs_iff.1 ho
 have hW := weak_R hx hA
 have hH := hungry_any hB
 refine gR 9 rfl ?_
 refine g_call rfl rfl (fun w M => rtvalid_c _ ‹_› _ _ ((by assumption : SlAt _ _ _ _ _).later M.ext)) ?_
 refine gR 2 rfl ?_
 refine g_know 18 rfl (notF ‹_›) ?_
 refine gR 1 rfl ?_
 refine g_call rfl rfl (fun w M => scvalid_c _ ‹_› _ _ ((by assumption : SlAt _ _ _ _ _).later M.ext)) ?_
 refine gR 3 rfl ?_
 refine g_know 23 rfl (notF ‹_›) ?_
 refine gR 1 rfl ?_
 refine g_call rfl rfl (fun w M => rtvalidI_c _ ‹_› _ _ ((by assumption : SlAt _ _ _ _ _).later M.ext)) ?_
 refine gR 3 rfl ?_
 refine g_know 28 rfl (notF ‹_›) ?_
 refine gR 1 rfl ?_
 refine g_call rfl rfl (fun w M => rtTime_c _ _) ?_
 refine gR 4 rfl ?_
 refine g_ifF rfl (notF ‹_›) ?_
 refine gR 4 rfl ?_
 refine g_mkMap (fun x : DstV => .agg (dvC x).toArray) fun vM eM hM0 => ?_
 refine gR 12 rfl ?_
 refine g_loop (ι := Nat × (List (DstV × Value)) × (List (Nat × Obj))) ⟨fun (i, m, em) => inn.length - i, fun (i, m, em) => i ≤ inn.length ∧ (OwnM (fun x : DstV => .agg (dvC x).toArray) vM m em) ∧ (∀ p ∈ m, IsDv p.1) ∧ (∀ t, (getA t m).getD (.bool false) = .bool ((inn.take i).any fun x => decide (x.to = t) && !decide (x.nb = 0))), fun (i, m, em) => [(36, .int .i64 i), (35, .int .i64 inn.length), (34, .slice qi inn.length ci), (9, vM), (0, .int .i64 now), (1, .slice ql l.length cl)], fun (i, m, em) => [em]⟩ (0, [], eM) ⟨by omega, hM0, by simp, fun _ => rfl⟩ (fun a F => F.only [36, 35, 34, 9, 0, 1] rfl) (by repeat (first | exact .refl _ | apply sC2 | apply sC1)) ?_
 rintro ⟨i, m, em⟩ ⟨hi_i, hM, hmo, hmt⟩
 dsimp only
 by_cases hlt_i : i < inn.length
 ·obtain ⟨b, o, cs, t', fz, rfl, hb, hs⟩ := hmi (by omega)
  obtain ⟨x, hx0⟩ : ∃ x, x = inn[i] := ⟨_, rfl⟩
  have hxm : x ∈ inn := by rw [hx0];exact List.getElem_mem hlt_i
  have hxi : IsIn x := hy _ hxm
  have f1 : seg cs (o + (i : Int).toNat * 40) 40 = some (inC x) := by rw [hx0];exact seg_el (ins_len hy) hs hlt_i (by omega)
  have has := fun t => any_step (t := t) hlt_i
  rw [← hx0] at has
  clear hx0
  by_cases hr : x.nb = 0
  ·have hr' : (!decide (x.nb = 0)) = false := by simp [hr]
   have hn : ∀ t, (getA t m).getD (.bool false) = .bool ((inn.take (i + 1)).any fun x => decide (x.to = t) && !decide (x.nb = 0)) := fun t => by rw [has, hmt, hr', Bool.and_false, Bool.or_false]
   refine gR 6 rfl ?_
   refine g_ifT rfl (decide_eq_true (by omega)) ?_
   refine gR 6 rfl ?_
   refine g_ixS rfl rfl (by omega) (by omega) ?_
   refine g_leA rfl ‹_› (by with_reducible assumption) ?_
   refine g_alloc fun b11 => ?_
   refine g_stA 0 rfl rfl (in_len ‹_›) (in_one _) rfl (put_all (by rw [in_len ‹_›];first | rfl | rw [in_len ‹_›])) rfl ?_
   refine gR 4 rfl ?_
   refine g_ldA 0 rfl rfl (in_all ‹_›) ?_
   refine g_call rfl rfl (fun w M => rtreach_c _ ‹_› _) ?_
   refine gR 2 rfl ?_
   refine g_ifF rfl (bneF (by omega)) ?_
   refine gR 4 rfl ?_
   refine g_add rfl rfl (w_i64 (by omega) (by omega)) ?_
   refine gR 2 rfl ?_
   exact g_next (i + 1, m, em) ⟨by omega, hM, hmo, hn⟩ (by dsimp only;omega) (fun a F => F.only [36, 35, 34, 9, 0, 1] rfl) (by (try dsimp only);repeat (first | exact .refl _ | with_reducible exact sC0 _ | with_reducible apply sC2 | apply sC1))
  ·have hr' : (!decide (x.nb = 0)) = true := by simp [hr]
   have hn : ∀ t, (getA t (putA x.to (.bool true) m)).getD (.bool false) = .bool ((inn.take (i + 1)).any fun x => decide (x.to = t) && !decide (x.nb = 0)) := fun t => by
    rw [has, hr', getA_put]
    by_cases e : t = x.to
    ·rw [if_pos e, decide_eq_true e.symm];simp
    ·rw [if_neg e, hmt, decide_eq_false (fun h => e h.symm)];simp
   have hmo2 : ∀ p ∈ putA x.to (.bool true) m, IsDv p.1 := fun p hp => by
    rcases mem_putA hp with h | h
    ·rw [h];exact hxi.1
    ·exact hmo p h
   refine gR 6 rfl ?_
   refine g_ifT rfl (decide_eq_true (by omega)) ?_
   refine gR 6 rfl ?_
   refine g_ixS rfl rfl (by omega) (by omega) ?_
   refine g_leA rfl ‹_› (by with_reducible assumption) ?_
   refine g_alloc fun b11 => ?_
   refine g_stA 0 rfl rfl (in_len ‹_›) (in_one _) rfl (put_all (by rw [in_len ‹_›];first | rfl | rw [in_len ‹_›])) rfl ?_
   refine gR 4 rfl ?_
   refine g_ldA 0 rfl rfl (in_all ‹_›) ?_
   refine g_call rfl rfl (fun w M => rtreach_c _ ‹_› _) ?_
   refine gR 2 rfl ?_
   refine g_ifT rfl ‹_› ?_
   refine gR 3 rfl ?_
   refine g_ldA 0 rfl rfl (in_to ‹_›) ?_
   refine g_mapUpd 1 keyT_law hM rfl (fun _ => rfl) hmo hxi.1 rfl rfl rfl fun em2 hM2 => ?_
   refine gR 4 rfl ?_
   refine g_add rfl rfl (w_i64 (by omega) (by omega)) ?_
   refine gR 2 rfl ?_
   exact g_next (i + 1, _, em2) ⟨by omega, hM2, hmo2, hn⟩ (by dsimp only;omega) (fun a F => F.only [36, 35, 34, 9, 0, 1] rfl) (by (try dsimp only);repeat (first | exact .refl _ | with_reducible exact sC0 _ | with_reducible apply sC2 | apply sC1))
 ·have hil : i = inn.length := by omega
  rw [hil, List.take_length] at hmt
  have hlk : ∀ t, (getA t m).getD (.bool false) = .bool (!hungry inn t) := fun t => by rw [hmt, hH]
  clear hmt hH
  refine gR 6 rfl ?_
  refine g_ifF rfl (decide_eq_false (by omega)) ?_
  refine gR 2 rfl ?_
  refine g_outX ?_
  refine gR 16 rfl ?_
  refine g_pad ?_
  refine g_loop (ι := Nat × (List DstV) × Value × (List (Nat × Obj))) ⟨fun (j, out, u, es) => l.length - j, fun (j, out, u, es) => j ≤ l.length ∧ (OwnS 45 35 u out.length (dvsC out) es) ∧ (out.length ≤ j) ∧ (St2 now inn (l.take j) out), fun (j, out, u, es) => [(48, .int .i64 j), (47, .int .i64 l.length), (46, .slice ql l.length cl), (12, u), (9, vM), (0, .int .i64 now)], fun (j, out, u, es) => [es, em]⟩ (0, [], _, []) ⟨by omega, OwnS.nilL _ _ _, by simp, st2_nil⟩ (fun a F => F.only [48, 47, 46, 12, 9, 0] rfl) (by repeat (first | exact .refl _ | apply sC2 | apply sC1)) ?_
  rintro ⟨j, out, u, es⟩ ⟨hi_j, hO, hol, hSt⟩
  dsimp only
  by_cases hlt_j : j < l.length
  ·obtain ⟨b, o, cs, t', fz, rfl, hb, hs⟩ := hm (by omega)
   obtain ⟨x, hx0⟩ : ∃ x, x = l[j] := ⟨_, rfl⟩
   have hxm : x ∈ l := by rw [hx0];exact List.getElem_mem hlt_j
   have hxi : IsRo x := hx _ hxm
   have f1 : seg cs (o + (j : Int).toNat * 39) 39 = some (roC x) := by rw [hx0];exact seg_el (ros_len hx) hs hlt_j (by omega)
   have hsk : (¬ now < x.til ∨ hungry inn x.to = false ∨ x.to ∈ out) → St2 now inn (l.take (j + 1)) out := fun h => by rw [hx0] at h;exact hSt.skip hlt_j h
   have hpu : now < x.til → hungry inn x.to = true → (∀ hn : 0 < out.length, out[out.length - 1] ≠ x.to) → St2 now inn (l.take (j + 1)) (out ++ [x.to]) := fun h1 h2 h3 => by rw [hx0] at h1 h2 h3 ⊢;exact hSt.push hx hW hlt_j h1 h2 h3
   have hoD : ∀ t ∈ out, IsDv t := fun t h => by
    obtain ⟨x', h1, rfl, _⟩ := (hSt.mem t).1 h
    exact (hx x' (List.mem_of_mem_take h1)).1
   clear hx0 hSt
   have hxd : IsDv x.to := hxi.1
   by_cases k1 : x.til ≤ now
   ·have hn := hsk (.inl (by omega))
    refine gR 6 rfl ?_
    refine g_ifT rfl (decide_eq_true (by omega)) ?_
    refine gR 6 rfl ?_
    refine g_ixS rfl rfl (by omega) (by omega) ?_
    refine g_leA rfl ‹_› (by with_reducible assumption) ?_
    refine g_alloc fun b14 => ?_
    refine g_stA 0 rfl rfl (ro_len ‹_›) (ro_one _) rfl (put_all (by rw [ro_len ‹_›];first | rfl | rw [ro_len ‹_›])) rfl ?_
    refine gR 4 rfl ?_
    refine g_draw 26 85 rfl (by kernel_rfl) ?_
    refine fR 1 rfl ?_
    refine fd_ld1 0 rfl rfl (ro_til ‹_›) ?_
    refine fR 3 rfl ?_
    refine fd_know 56 rfl (decide_eq_true (by omega)) ?_
    refine fR 21 rfl ?_
    refine fd_done rfl rfl ?_
    refine gR 8 rfl ?_
    refine g_add rfl rfl (w_i64 (by omega) (by omega)) ?_
    refine gR 2 rfl ?_
    exact g_next (j + 1, out, u, es) ⟨by omega, hO, by dsimp only;omega, hn⟩ (by dsimp only;omega) (fun a F => F.only [48, 47, 46, 12, 9, 0] rfl) (by (try dsimp only);repeat (first | exact .refl _ | with_reducible exact sC0 _ | with_reducible apply sC2 | apply sC1))
   have hl2 := hlk x.to
   cases k2 : hungry inn x.to
   ·rw [k2] at hl2
    have hn := hsk (.inr (.inl k2))
    refine gR 6 rfl ?_
    refine g_ifT rfl (decide_eq_true (by omega)) ?_
    refine gR 6 rfl ?_
    refine g_ixS rfl rfl (by omega) (by omega) ?_
    refine g_leA rfl ‹_› (by with_reducible assumption) ?_
    refine g_alloc fun b14 => ?_
    refine g_stA 0 rfl rfl (ro_len ‹_›) (ro_one _) rfl (put_all (by rw [ro_len ‹_›];first | rfl | rw [ro_len ‹_›])) rfl ?_
    refine gR 4 rfl ?_
    refine g_draw 26 85 rfl (by kernel_rfl) ?_
    refine fR 1 rfl ?_
    refine fd_ld1 0 rfl rfl (ro_til ‹_›) ?_
    refine fR 3 rfl ?_
    refine fd_know 56 rfl (decide_eq_false (by omega)) ?_
    refine fR 2 rfl ?_
    refine fd_ldA 0 rfl rfl (ro_to ‹_›) ?_
    refine fd_look1 2 keyT_law zero_bT hM rfl hmo hxd rfl rfl hl2 ?_
    refine fR 17 rfl ?_
    refine fd_done rfl rfl ?_
    refine gR 8 rfl ?_
    refine g_add rfl rfl (w_i64 (by omega) (by omega)) ?_
    refine gR 2 rfl ?_
    exact g_next (j + 1, out, u, es) ⟨by omega, hO, by dsimp only;omega, hn⟩ (by dsimp only;omega) (fun a F => F.only [48, 47, 46, 12, 9, 0] rfl) (by (try dsimp only);repeat (first | exact .refl _ | with_reducible exact sC0 _ | with_reducible apply sC2 | apply sC1))
   rw [k2] at hl2
   have k1' : now < x.til := by omega
   by_cases k3 : 0 < out.length
   ·have hoI : ∀ t ∈ out, IsDv t := hoD
    rcases id hO with ⟨_, h0, _, _⟩ | ⟨bO, cO, jO, rfl, rfl, _, _, _⟩
    ·omega
    have f3 : seg (dvsC out ++ jO) (0 + ((out.length : Int) - 1).toNat * 35) 35 = some (dvC out[out.length - 1]) := own_el (dvs_len hoI) jO (by omega) (by omega)
    have yD := hoI _ (List.getElem_mem (show out.length - 1 < out.length by omega))
    by_cases k4 : out[out.length - 1] = x.to
    ·have hn := hsk (.inr (.inr (by rw [← k4];exact List.getElem_mem _)))
     have k4' := decide_eq_true k4
     generalize out[out.length - 1] = y at f3 yD k4'
     refine gR 6 rfl ?_
     refine g_ifT rfl (decide_eq_true (by omega)) ?_
     refine gR 6 rfl ?_
     refine g_ixS rfl rfl (by omega) (by omega) ?_
     refine g_leA rfl ‹_› (by with_reducible assumption) ?_
     refine g_alloc fun b14 => ?_
     refine g_stA 0 rfl rfl (ro_len ‹_›) (ro_one _) rfl (put_all (by rw [ro_len ‹_›];first | rfl | rw [ro_len ‹_›])) rfl ?_
     refine gR 4 rfl ?_
     refine g_draw 26 85 rfl (by kernel_rfl) ?_
     refine fR 1 rfl ?_
     refine fd_ld1 0 rfl rfl (ro_til ‹_›) ?_
     refine fR 3 rfl ?_
     refine fd_know 56 rfl (decide_eq_false (by omega)) ?_
     refine fR 2 rfl ?_
     refine fd_ldA 0 rfl rfl (ro_to ‹_›) ?_
     refine fd_look1 2 keyT_law zero_bT hM rfl hmo hxd rfl rfl hl2 ?_
     refine fR 6 rfl ?_
     refine fd_know 66 rfl (decide_eq_true (by omega)) ?_
     refine fR 3 rfl ?_
     refine fd_sub rfl rfl (w_i64 (by omega) (by omega)) ?_
     refine fd_ixS rfl rfl (by omega) (by omega) ?_
     refine fd_ldA 1 rfl rfl (by with_reducible assumption) ?_
     refine fR 1 rfl ?_
     refine fd_ldA 0 rfl rfl (ro_to ‹_›) ?_
     refine fd_eqA rfl rfl (dv_fits ‹_›) (dv_fits ‹_›) (dv_eq ‹_› ‹_›) ?_
     refine fR 2 rfl ?_
     refine fd_done rfl rfl ?_
     refine gR 2 rfl ?_
     refine g_ifT rfl ‹_› ?_
     refine gR 5 rfl ?_
     refine g_add rfl rfl (w_i64 (by omega) (by omega)) ?_
     refine gR 2 rfl ?_
     exact g_next (j + 1, out, _, _) ⟨by omega, hO, by dsimp only;omega, hn⟩ (by dsimp only;omega) (fun a F => F.only [48, 47, 46, 12, 9, 0] rfl) (by (try dsimp only);repeat (first | exact .refl _ | with_reducible exact sC0 _ | with_reducible apply sC2 | apply sC1))
    ·have hn := hpu k1' k2 (fun _ => k4)
     have k4' := decide_eq_false k4
     generalize hyg : out[out.length - 1] = y at f3 yD k4'
     clear hyg
     refine gR 6 rfl ?_
     refine g_ifT rfl (decide_eq_true (by omega)) ?_
     refine gR 6 rfl ?_
     refine g_ixS rfl rfl (by omega) (by omega) ?_
     refine g_leA rfl ‹_› (by with_reducible assumption) ?_
     refine g_alloc fun b14 => ?_
     refine g_stA 0 rfl rfl (ro_len ‹_›) (ro_one _) rfl (put_all (by rw [ro_len ‹_›];first | rfl | rw [ro_len ‹_›])) rfl ?_
     refine gR 4 rfl ?_
     refine g_draw 26 85 rfl (by kernel_rfl) ?_
     refine fR 1 rfl ?_
     refine fd_ld1 0 rfl rfl (ro_til ‹_›) ?_
     refine fR 3 rfl ?_
     refine fd_know 56 rfl (decide_eq_false (by omega)) ?_
     refine fR 2 rfl ?_
     refine fd_ldA 0 rfl rfl (ro_to ‹_›) ?_
     refine fd_look1 2 keyT_law zero_bT hM rfl hmo hxd rfl rfl hl2 ?_
     refine fR 6 rfl ?_
     refine fd_know 66 rfl (decide_eq_true (by omega)) ?_
     refine fR 3 rfl ?_
     refine fd_sub rfl rfl (w_i64 (by omega) (by omega)) ?_
     refine fd_ixS rfl rfl (by omega) (by omega) ?_
     refine fd_ldA 1 rfl rfl (by with_reducible assumption) ?_
     refine fR 1 rfl ?_
     refine fd_ldA 0 rfl rfl (ro_to ‹_›) ?_
     refine fd_eqA rfl rfl (dv_fits ‹_›) (dv_fits ‹_›) (dv_eq ‹_› ‹_›) ?_
     refine fR 2 rfl ?_
     refine fd_done rfl rfl ?_
     refine gR 2 rfl ?_
     refine g_ifF rfl ‹_› ?_
     refine gR 5 rfl ?_
     refine g_ldA 0 rfl rfl (ro_to ‹_›) ?_
     refine g_bs rfl rfl rfl (dv_build1 ‹_›) (fun b81 => ?_)
     refine g_app 2 0 (enc := dvC) rfl rfl ‹_› rfl rfl (dv_len ‹_›) (by first | omega | (simp only [List.length_nil];omega)) (fun _ => rfl) (fun v82 es82 hO82 => ?_) (dv_one _)
     refine gR 5 rfl ?_
     refine g_add rfl rfl (w_i64 (by omega) (by omega)) ?_
     refine gR 2 rfl ?_
     exact g_next (j + 1, _, _, _) ⟨by omega, by assumption, by simp;omega, hn⟩ (by dsimp only;omega) (fun a F => F.only [48, 47, 46, 12, 9, 0] rfl) (by (try dsimp only);repeat (first | exact .refl _ | with_reducible exact sC0 _ | with_reducible apply sC2 | apply sC1))
   ·have hn := hpu k1' k2 (fun h => absurd h k3)
    refine gR 6 rfl ?_
    refine g_ifT rfl (decide_eq_true (by omega)) ?_
    refine gR 6 rfl ?_
    refine g_ixS rfl rfl (by omega) (by omega) ?_
    refine g_leA rfl ‹_› (by with_reducible assumption) ?_
    refine g_alloc fun b14 => ?_
    refine g_stA 0 rfl rfl (ro_len ‹_›) (ro_one _) rfl (put_all (by rw [ro_len ‹_›];first | rfl | rw [ro_len ‹_›])) rfl ?_
    refine gR 4 rfl ?_
    refine g_draw 26 85 rfl (by kernel_rfl) ?_
    refine fR 1 rfl ?_
    refine fd_ld1 0 rfl rfl (ro_til ‹_›) ?_
    refine fR 3 rfl ?_
    refine fd_know 56 rfl (decide_eq_false (by omega)) ?_
    refine fR 2 rfl ?_
    refine fd_ldA 0 rfl rfl (ro_to ‹_›) ?_
    refine fd_look1 2 keyT_law zero_bT hM rfl hmo hxd rfl rfl hl2 ?_
    refine fR 3 rfl ?_
    refine fd_len rfl ‹_› ?_
    refine fR 2 rfl ?_
    refine fd_know 66 rfl (decide_eq_false (by omega)) ?_
    refine fR 11 rfl ?_
    refine fd_done rfl rfl ?_
    refine gR 8 rfl ?_
    refine g_ldA 0 rfl rfl (ro_to ‹_›) ?_
    refine g_bs rfl rfl rfl (dv_build1 ‹_›) (fun b81 => ?_)
    refine g_app 2 0 (enc := dvC) rfl rfl ‹_› rfl rfl (dv_len ‹_›) (by first | omega | (simp only [List.length_nil];omega)) (fun _ => rfl) (fun v82 es82 hO82 => ?_) (dv_one _)
    refine gR 5 rfl ?_
    refine g_add rfl rfl (w_i64 (by omega) (by omega)) ?_
    refine gR 2 rfl ?_
    exact g_next (j + 1, _, _, _) ⟨by omega, by assumption, by simp;omega, hn⟩ (by dsimp only;omega) (fun a F => F.only [48, 47, 46, 12, 9, 0] rfl) (by (try dsimp only);repeat (first | exact .refl _ | with_reducible exact sC0 _ | with_reducible apply sC2 | apply sC1))
  ·have hjl : j = l.length := by omega
   rw [hjl, List.take_length] at hSt
   rw [← hSt.all hx (expire_val hv hn)]
   refine gR 6 rfl ?_
   refine g_ifF rfl (decide_eq_false (by omega)) ?_
   refine gR 2 rfl ?_
   refine g_outX ?_
   refine gR 9 rfl ?_
   refine g_ret1 rfl rfl rfl fun w M => ?_
   exact ⟨es, hO, M.sub (List.sublist_append_left _ _)⟩
end Go.Proofs.YtilgoepokaaleaaGreat
/-! WC -/
namespace Go.Proofs.YtilgoepokaaleaaGreat
set_option linter.unusedVariables false
set_option linter.unusedSimpArgs false
open Go.RowKit
theorem choB_btn (now : Int) (old : ChoV) (b c : OptV) : (choB now old b c).btn = -1 ∨ (choB now old b c).btn = now ∨ (choB now old b c).btn = old.btn := by
 unfold choB
 split
 ·exact .inl rfl
 ·split
  ·exact .inl rfl
  ·split
   ·exact .inl rfl
   ·split
    ·exact .inr (.inl rfl)
    ·split
     ·exact .inl rfl
     ·exact .inr (.inr rfl)
theorem bef_ok {o : Option InsV} (h : ∀ x, o = some x → ins1 x = true) : validCh (befV o) = true := by
 cases o with
 | none => rfl
 | some x => exact bef_valid (o := x) (had := true) fun _ => h x rfl
theorem later_tm {now d : Int} (h : isTime now = true) (hd : 0 ≤ d) : isTime (laterV now d) = true := by
 simp only [isTime, Bool.and_eq_true, decide_eq_true_eq] at *
 unfold laterV
 split <;> omega
theorem aft_ins {now : Int} {t : DstV} {o : Option InsV} {op : List OptV} {said : List (Int × DisV)} {x : InsV} (htv : validT t = true) (hn : isTime now = true) (ho : ∀ w, o = some w → ins1 w = true ∧ w.to = t) (hval : ∀ q ∈ op, validM q.cost = true) (h : aftV now t o op said = some x) : ins1 x = true ∧ x.to = t := by
 by_cases hc : (chooseV now (befV o) op).nb = 0
 ·cases o with
  | none => rw [aft_none hc] at h;cases h
  | some w =>
   obtain ⟨hw1, hw2⟩ := ho w rfl
   rw [aft_some hc] at h
   split at h
   ·cases h
    refine ⟨?_, rfl⟩
    unfold ins1
    simp [htv, later_tm hn]
   ·split at h
    ·cases h
     exact ⟨hw1, hw2⟩
    ·cases h
 ·rw [aft_cho hc] at h
  cases h
  obtain ⟨q, hq, h1, _, h3⟩ := choose_is hc
  have hv := hval q hq
  have hb := bef_ok (o := o) fun w hw => (ho w hw).1
  have h4 := choB_btn now (befV o) (bstO op) (prvO (befV o).nb op)
  have h5 : (decide ((chooseV now (befV o) op).btn = -1) || isTime (chooseV now (befV o) op).btn) = true := by
   unfold chooseV
   simp only [validCh, Bool.and_eq_true, Bool.or_eq_true, decide_eq_true_eq] at hb ⊢
   rcases h4 with e | e | e
   ·exact .inl e
   ·rw [e];exact .inr hn
   ·rw [e];exact hb.2
  have h6 : finD ⟨((getA (chooseV now (befV o) op).nb said).getD di0).seq, (chooseV now (befV o) op).cost⟩ = true := by
   unfold finD
   dsimp only
   rw [h3, hv, Bool.true_and, Bool.not_eq_true', decide_eq_false_iff_not]
   omega
  refine ⟨?_, rfl⟩
  unfold ins1
  dsimp only
  rw [htv, if_neg hc, h6, h5]
  rfl
theorem sel_valid {now : Int} {l : List RouV} {s : List SrcV} {links : List OptV} {old : List InsV} (hx : ∀ x ∈ l, IsRo x) (hy : ∀ x ∈ old, IsIn x) (h : (selectV now l s links old).2 = 0) : validIs (selectV now l s links old).1 = true := by
 unfold selectV at h ⊢
 split at h
 ·cases h
 rename_i h1
 split at h
 ·cases h
 rename_i h2
 split at h
 ·cases h
 rename_i h3
 rw [if_neg h1, if_neg h2, if_neg h3]
 simp only [Bool.or_eq_true, Bool.not_eq_true', not_or, Bool.not_eq_false] at h1 h2
 obtain ⟨⟨⟨v1, v2⟩, v3⟩, v4⟩ := h1
 have k := (validOs_iff.1 v3).1
 have hok := dests_ok hx hy v1 v4
 have hasc := (dests_asc hx hy).1
 have hel : ∀ t ∈ destsV l old, ∀ x, selE now l s (costM links) old t = some x → ins1 x = true ∧ x.to = t := fun t ht x h => aft_ins (hok t ht) h2 (fun w hw => ⟨(validIs_iff.1 v4).2.1 w (List.mem_of_find?_eq_some hw), by simpa using List.find?_some hw⟩) (fun q hq => by
  have := (validOs_iff.1 (opts_valid (now := now) (s := s) (links := links) (t := t) hx v1 k)).2.1 q hq
  simp only [opt1, Bool.and_eq_true] at this
  exact this.2) h
 refine validIs_iff.2 ⟨by dsimp only;omega, fun x hm => ?_, ?_⟩
 ·obtain ⟨t, ht, h4⟩ := List.mem_filterMap.1 hm
  exact (hel t ht x h4).1
 ·refine List.Pairwise.filterMap _ ?_ (List.Pairwise.imp_of_mem (S := fun a b => a ∈ destsV l old ∧ b ∈ destsV l old ∧ cmpD a b < 0) (fun ha hb hab => ⟨ha, hb, hab⟩) hasc)
  rintro a b ⟨ha, hb, hab⟩ x hx1 y hy1
  unfold cmpN
  rw [(hel a ha x hx1).2, (hel b hb y hy1).2]
  exact hab
theorem sel_isI {now : Int} {l : List RouV} {s : List SrcV} {links : List OptV} {old : List InsV} (hx : ∀ x ∈ l, IsRo x) (hy : ∀ x ∈ old, IsIn x) : (∀ x ∈ (selectV now l s links old).1, IsIn x) ∧ (selectV now l s links old).1.length ≤ l.length + old.length := by
 unfold selectV
 split
 ·simp
 ·split
  ·simp
  ·split
   ·simp
   ·exact ⟨selI_is hx hy, selI_len hx hy⟩
end Go.Proofs.YtilgoepokaaleaaGreat
/-! WD -/
namespace Go.Proofs.YtilgoepokaaleaaGreat
set_option linter.unusedVariables false
set_option linter.unusedSimpArgs false
open Go.RowKit
attribute [local irreducible] OpTo wpListIn Code.wpIn MW Cal
set_option maxHeartbeats 2000000 in
theorem equalD_c (l : List DstV) (hx : ∀ x ∈ l, IsDv x) (hlen : l.length ≤ 100000) (u v : Value) (W : World) (hu : SlAt W 35 u l.length (dvsC l)) (hv : SlAt W 35 v l.length (dvsC l)) :
  Cal Tryz.prog 67 [u, v].toArray W fun r w' => r = .bool true ∧ Ext [] W w' := by
 obtain ⟨q1, cap1, rfl, hc1, hn1, hl1, hm1⟩ := hu
 obtain ⟨q2, cap2, rfl, hc2, hn2, hl2, hm2⟩ := hv
 refine fn_ofM (n := 26) [] Tryz.func67 rfl rfl rfl ?_
 intro a w F M hwW
 refine c_seq (c_region ?_)
 refine sD F (o_assign (F.e rfl) ?_);clear F a;intro a F
 with_reducible refine l_nil (q_then (c_seq (c_seq (c_region ?_))))
 refine sD F (o_move (F.e rfl) ?_);clear F a;intro a F
 refine sD F (o_lenSl (F.e rfl) ?_);clear F a;intro a F
 refine sD F (o_move (F.e rfl) ?_);clear F a;intro a F
 refine sD F (o_lenSl (F.e rfl) ?_);clear F a;intro a F
 refine sD F (o_neqF (F.e rfl) (F.e rfl) (by omega) ?_);clear F a;intro a F
 with_reducible refine l_nil (q_then ?_)
 refine c_false F rfl rfl ?_
 with_reducible refine c_skip (q_then (c_seq (c_seq (c_region ?_))))
 refine sD F (o_move (F.e rfl) ?_);clear F a;intro a F
 refine sD F (o_lenSl (F.e rfl) ?_);clear F a;intro a F
 refine sD F (o_move (F.e rfl) ?_);clear F a;intro a F
 with_reducible refine l_nil (q_then (c_block ?_))
 refine c_loop (fun m a w => ∃ i : Nat, m = l.length - i ∧ i ≤ l.length ∧ Frm a 26 [] [(13, .int .i64 i), (12, .int .i64 l.length), (0, .slice q1 l.length cap1), (1, .slice q2 l.length cap2)] ∧ Mem [] W w []) l.length ⟨0, rfl, by omega, F.only [13, 12, 0, 1] rfl, M⟩ ?_
 clear F M
 rintro m a w ⟨i, hm', hi, F, M⟩
 by_cases hlt : i < l.length
 ·obtain ⟨b, o, cs, t, fz, rfl, hb, hs⟩ := hm1 (by omega)
  obtain ⟨b', o', cs', t', fz', rfl, hb', hs'⟩ := hm2 (by omega)
  obtain ⟨p, hp0⟩ : ∃ p, p = l[i] := ⟨_, rfl⟩
  have hpi : IsDv p := by rw [hp0];exact hx _ (List.getElem_mem hlt)
  have f1 : seg cs (o + (i : Int).toNat * 35) 35 = some (dvC p) := by rw [hp0];exact seg_el (dvs_len hx) hs hlt (by omega)
  have f2 : seg cs' (o' + (i : Int).toNat * 35) 35 = some (dvC p) := by rw [hp0];exact seg_el (dvs_len hx) hs' hlt (by omega)
  have f3 := dv_fits hpi
  have f4 : eqVs (dvC p) (dvC p) = true := by rw [dv_eq hpi hpi];simp
  refine c_seq (c_region ?_)
  refine sD F (o_lssT (F.e rfl) (F.e rfl) (by omega) ?_);clear F a;intro a F
  with_reducible refine l_nil (q_then (c_seq ?_))
  refine c_true F rfl rfl ?_
  with_reducible refine c_skip (q_then (c_seq (c_block (c_seq (c_region ?_)))))
  refine sD F (o_move (F.e rfl) ?_);clear F a;intro a F
  refine sD F (o_assign (F.e rfl) ?_);clear F a;intro a F
  with_reducible refine l_nil (q_then (c_seq ?_))
  replace F := F.only [13, 12, 0, 1, 5] rfl
  refine c_draw 8 F (by kernel_rfl) ?_
  intro w1 hE hok
  have M1 := M.later hE
  refine mK hok rfl rfl (fun a' w' F' E' => o_move (F'.e rfl) ⟨Ext.refl _ _, rfl⟩) ?_
  refine mK hok rfl rfl (fun a' w' F' E' => o_move (F'.e rfl) ⟨Ext.refl _ _, rfl⟩) ?_
  refine mK hok rfl rfl (fun a' w' F' E' => o_indexSl (F'.e rfl) (F'.e rfl) (by omega) (by omega) ⟨Ext.refl _ _, rfl⟩) ?_
  refine mK hok rfl rfl (fun a' w' F' E' => o_loadWA (M1.later E') (F'.e rfl) ‹_› (by first | assumption | rfl) ⟨Ext.refl _ _, rfl⟩) ?_
  refine mK hok rfl rfl (fun a' w' F' E' => o_move (F'.e rfl) ⟨Ext.refl _ _, rfl⟩) ?_
  refine mK hok rfl rfl (fun a' w' F' E' => o_move (F'.e rfl) ⟨Ext.refl _ _, rfl⟩) ?_
  refine mK hok rfl rfl (fun a' w' F' E' => o_indexSl (F'.e rfl) (F'.e rfl) (by omega) (by omega) ⟨Ext.refl _ _, rfl⟩) ?_
  refine mK hok rfl rfl (fun a' w' F' E' => o_loadWA (M1.later E') (F'.e rfl) ‹_› (by first | assumption | rfl) ⟨Ext.refl _ _, rfl⟩) ?_
  (refine mDone rfl rfl ?_;clear F M;intro a w F hE2 hX hTT hDD hPP;have M := M1.later hE2;clear M1;clear hX;clear hE2;clear hok;clear hE;clear hTT;clear hDD;clear hPP;(try dsimp only at F))
  refine sD F (o_neqAF (F.e rfl) (F.e rfl) (by first | assumption | rfl) (by first | assumption | rfl) ‹_› ?_);clear F a;intro a F
  with_reducible refine l_nil (q_then ?_)
  refine c_false F rfl rfl ?_
  with_reducible refine c_skip (q_inB (q_then (c_region ?_)))
  refine sD F (o_add (F.e rfl) (F.e rfl) (w_i64 (by omega) (by omega)) ?_);clear F a;intro a F
  refine sD F (o_move (F.e rfl) ?_);clear F a;intro a F
  with_reducible refine l_nil (q_then ?_)
  exact ⟨_, by omega, i + 1, rfl, by omega, F.only [13, 12, 0, 1] rfl, M⟩
 ·obtain rfl : i = l.length := by omega
  refine c_seq (c_region ?_)
  refine sD F (o_lssF (F.e rfl) (F.e rfl) (by omega) ?_);clear F a;intro a F
  with_reducible refine l_nil (q_then (c_seq ?_))
  refine c_false F rfl rfl ?_
  with_reducible refine c_exit (q_thenX (q_thenX (q_inBX (q_then (c_seq (c_region ?_))))))
  refine sD F (o_assign (F.e rfl) ?_);clear F a;intro a F
  with_reducible refine l_nil (q_then (c_ret ?_))
  refine p_ret F rfl (.cons (.tmp (F.e rfl)) .nil) ?_
  exact ⟨rfl, M.ext⟩
theorem starved_is {now : Int} {l : List RouV} {s : List SrcV} {inn : List InsV} (hx : ∀ x ∈ l, IsRo x) : (∀ x ∈ starvedV now l s inn, IsDv x) ∧ (starvedV now l s inn).length ≤ l.length := by
 unfold starvedV
 split
 ·simp
 ·refine ⟨fun t h => dests_is (old := []) (expire_is (now := now) hx) (by simp) t (List.mem_filter.1 h).1, Nat.le_trans (List.length_filter_le _ _) (Nat.le_trans (dests_len _ _) ?_)⟩
  simp only [List.length_nil, Nat.add_zero]
  unfold expireV withoutV
  split
  ·split
   ·exact List.length_filter_le _ _
   ·simp
  ·simp
set_option maxHeartbeats 16000000 in
theorem selects_c (now : Int) (l : List RouV) (hx : ∀ x ∈ l, IsRo x) (hll : l.length ≤ 1000) (s : List SrcV) (hsr : ∀ x ∈ s, IsSr x) (links : List OptV) (old : List InsV) (hy : ∀ x ∈ old, IsIn x) (hol : old.length ≤ 1000) (vl vs vk vo : Value) (W : World) (hS : SlAt W 39 vl l.length (rosC l)) (hSs : SlAt W 38 vs s.length (srsC s)) (hSk : SlAt W 2 vk links.length (opsC links)) (hSo : SlAt W 40 vo old.length (insC old)) :
  Cal Tryz.prog 27 [.int .i64 now, vl, vs, vk, vo].toArray W fun r w' => r = .bool true ∧ Ext [] W w' := by
 obtain ⟨ql, cl, rfl, _⟩ := id hS
 obtain ⟨qs, cs0, rfl, _⟩ := id hSs
 obtain ⟨qk, ck, rfl, _⟩ := id hSk
 obtain ⟨qo, co, rfl, _⟩ := id hSo
 obtain ⟨l1, l3⟩ := sel_isI (now := now) (s := s) (links := links) hx hy
 have l2 := sel_valid (now := now) (s := s) (links := links) hx hy
 have k1 := select_c now l hx s hsr links old hy (.slice ql l.length cl) (.slice qs s.length cs0) (.slice qk links.length ck) (.slice qo old.length co)
 have k2 := rselect_c now l hx s hsr links old hy (.slice ql l.length cl) (.slice qs s.length cs0) (.slice qk links.length ck) (.slice qo old.length co)
 generalize selectV now l s links old = L at *
 obtain ⟨A, er⟩ := L
 dsimp only at l1 l2 l3 k1 k2
 obtain ⟨x1, x2⟩ := starved_is (now := now) (s := s) (inn := old) hx
 obtain ⟨y1, y2⟩ := starved_is (now := now) (s := s) (inn := A) hx
 have k3 := starved_c now l hx s hsr old hy (.slice ql l.length cl) (.slice qs s.length cs0) (.slice qo old.length co)
 have k4 := rstarved_c now l hx s hsr old hy (.slice ql l.length cl) (.slice qs s.length cs0) (.slice qo old.length co)
 have k5 := starved_c now l hx s hsr A l1 (.slice ql l.length cl) (.slice qs s.length cs0)
 have k6 := rstarved_c now l hx s hsr A l1 (.slice ql l.length cl) (.slice qs s.length cs0)
 have k7 := rtvalidI_c old hy (.slice qo old.length co)
 have k8 := refvalidI_c old hy (.slice qo old.length co)
 generalize starvedV now l s old = X at *
 generalize starvedV now l s A = Y at *
 generalize validIs old = V at *
 refine fn_ofM (n := 84) [] Tryz.func27 rfl rfl rfl ?_
 intro a w F M hwW
 refine c_seq (c_region ?_)
 refine sD F (o_assign (F.e rfl) ?_);clear F a;intro a F
 with_reducible refine l_nil (q_then (c_seq (c_region ?_)))
 refine sD F (o_move (F.e rfl) ?_);clear F a;intro a F
 refine sD F (o_move (F.e rfl) ?_);clear F a;intro a F
 refine sD F (o_move (F.e rfl) ?_);clear F a;intro a F
 refine sD F (o_move (F.e rfl) ?_);clear F a;intro a F
 refine sD F (o_move (F.e rfl) ?_);clear F a;intro a F
 (refine sD F (o_call (F.e rfl) (F.evs rfl) (Cal.mono (k1 _ (hS.later M.ext) (hSs.later M.ext) (hSk.later M.ext) (hSo.later M.ext)) ?_));clear F;clear a;rintro u w ⟨u1, n1, rfl, hO1, N⟩ a F;replace M := M.joins N;clear N)
 obtain ⟨p1, c1, rfl⟩ := hO1.slice
 replace M := M.perm (l' := n1) (by classical exact List.perm_iff_count.2 fun _ => by simp only [List.count_append, List.count_cons, List.count_nil, Nat.add_zero, Nat.zero_add] <;> ac_rfl)
 refine sD F (o_move (F.e rfl) ?_);clear F a;intro a F
 refine sD F (o_extract (F.e rfl) rfl ?_);clear F a;intro a F
 refine sD F (o_extract (F.e rfl) rfl ?_);clear F a;intro a F
 refine sD F (o_assign (F.e rfl) ?_);clear F a;intro a F
 refine sD F (o_assign (F.e rfl) ?_);clear F a;intro a F
 with_reducible refine l_nil (q_then (c_seq (c_region ?_)))
 refine sD F (o_move (F.e rfl) ?_);clear F a;intro a F
 refine sD F (o_move (F.e rfl) ?_);clear F a;intro a F
 refine sD F (o_move (F.e rfl) ?_);clear F a;intro a F
 refine sD F (o_move (F.e rfl) ?_);clear F a;intro a F
 refine sD F (o_move (F.e rfl) ?_);clear F a;intro a F
 (refine sD F (o_call (F.e rfl) (F.evs rfl) (Cal.mono (k2 _ (hS.later M.ext) (hSs.later M.ext) (hSk.later M.ext) (hSo.later M.ext)) ?_));clear F;clear a;rintro u w ⟨u2, n2, rfl, hO2, N⟩ a F;replace M := M.joins N;clear N)
 obtain ⟨p2, c2, rfl⟩ := hO2.slice
 replace M := M.perm (l' := n1 ++ n2) (by classical exact List.perm_iff_count.2 fun _ => by simp only [List.count_append, List.count_cons, List.count_nil, Nat.add_zero, Nat.zero_add] <;> ac_rfl)
 refine sD F (o_move (F.e rfl) ?_);clear F a;intro a F
 refine sD F (o_extract (F.e rfl) rfl ?_);clear F a;intro a F
 refine sD F (o_extract (F.e rfl) rfl ?_);clear F a;intro a F
 refine sD F (o_assign (F.e rfl) ?_);clear F a;intro a F
 refine sD F (o_assign (F.e rfl) ?_);clear F a;intro a F
 with_reducible refine l_nil (q_then (c_seq (c_region ?_)))
 refine sD F (o_move (F.e rfl) ?_);clear F a;intro a F
 refine sD F (o_move (F.e rfl) ?_);clear F a;intro a F
 refine sD F (o_move (F.e rfl) ?_);clear F a;intro a F
 refine sD F (o_move (F.e rfl) ?_);clear F a;intro a F
 (refine sD F (o_call (F.e rfl) (F.evs rfl) (Cal.mono (k3 _ (hS.later M.ext) (hSs.later M.ext) (hSo.later M.ext)) ?_));clear F;clear a;rintro u w ⟨n3, hO3, N⟩ a F;replace M := M.joins N;clear N)
 obtain ⟨p3, c3, rfl⟩ := hO3.slice
 replace M := M.perm (l' := n1 ++ n2 ++ n3) (by classical exact List.perm_iff_count.2 fun _ => by simp only [List.count_append, List.count_cons, List.count_nil, Nat.add_zero, Nat.zero_add] <;> ac_rfl)
 refine sD F (o_move (F.e rfl) ?_);clear F a;intro a F
 refine sD F (o_move (F.e rfl) ?_);clear F a;intro a F
 refine sD F (o_move (F.e rfl) ?_);clear F a;intro a F
 refine sD F (o_move (F.e rfl) ?_);clear F a;intro a F
 (refine sD F (o_call (F.e rfl) (F.evs rfl) (Cal.mono (k4 _ (hS.later M.ext) (hSs.later M.ext) (hSo.later M.ext)) ?_));clear F;clear a;rintro u w ⟨n4, hO4, N⟩ a F;replace M := M.joins N;clear N)
 obtain ⟨p4, c4, rfl⟩ := hO4.slice
 replace M := M.perm (l' := n1 ++ n2 ++ n3 ++ n4) (by classical exact List.perm_iff_count.2 fun _ => by simp only [List.count_append, List.count_cons, List.count_nil, Nat.add_zero, Nat.zero_add] <;> ac_rfl)
 skip
 (refine sD F (o_call (F.e rfl) (F.evs rfl) (Cal.mono (equalD_c X x1 (by omega) _ _ _ (hO3.slAt M (fun q hq => by simp [hq])) (hO4.slAt M (fun q hq => by simp [hq]))) ?_));clear F;clear a;rintro _ w ⟨rfl, hE⟩ a F;replace M := M.later hE;clear hE)
 refine sD F (o_move (F.e rfl) ?_);clear F a;intro a F
 refine sG F (o_move (F.e rfl) ?_);clear F a;intro a F
 refine sG F (o_move (F.e rfl) ?_);clear F a;intro a F
 refine sG F (o_move (F.e rfl) ?_);clear F a;intro a F
 refine sG F (o_move (F.e rfl) ?_);clear F a;intro a F
 (refine sG F (o_call (F.e rfl) (F.evs rfl) (Cal.mono (k5 _ _ (hS.later M.ext) (hSs.later M.ext) (hO2.slAt M (fun q hq => by simp [hq]))) ?_));clear F;clear a;rintro u w ⟨n5, hO5, N⟩ a F;replace M := M.joins N;clear N)
 obtain ⟨p5, c5, rfl⟩ := hO5.slice
 replace M := M.perm (l' := n1 ++ n2 ++ n3 ++ n4 ++ n5) (by classical exact List.perm_iff_count.2 fun _ => by simp only [List.count_append, List.count_cons, List.count_nil, Nat.add_zero, Nat.zero_add] <;> ac_rfl)
 refine sG F (o_move (F.e rfl) ?_);clear F a;intro a F
 refine sG F (o_move (F.e rfl) ?_);clear F a;intro a F
 refine sG F (o_move (F.e rfl) ?_);clear F a;intro a F
 refine sG F (o_move (F.e rfl) ?_);clear F a;intro a F
 (refine sG F (o_call (F.e rfl) (F.evs rfl) (Cal.mono (k6 _ _ (hS.later M.ext) (hSs.later M.ext) (hO2.slAt M (fun q hq => by simp [hq]))) ?_));clear F;clear a;rintro u w ⟨n6, hO6, N⟩ a F;replace M := M.joins N;clear N)
 obtain ⟨p6, c6, rfl⟩ := hO6.slice
 replace M := M.perm (l' := n1 ++ n2 ++ n3 ++ n4 ++ n5 ++ n6) (by classical exact List.perm_iff_count.2 fun _ => by simp only [List.count_append, List.count_cons, List.count_nil, Nat.add_zero, Nat.zero_add] <;> ac_rfl)
 skip
 (refine sG F (o_call (F.e rfl) (F.evs rfl) (Cal.mono (equalD_c Y y1 (by omega) _ _ _ (hO5.slAt M (fun q hq => by simp [hq])) (hO6.slAt M (fun q hq => by simp [hq]))) ?_));clear F;clear a;rintro _ w ⟨rfl, hE⟩ a F;replace M := M.later hE;clear hE)
 refine sD F (o_pickT (F.e rfl) (F.e rfl) ?_);clear F a;intro a F
 refine sD F (o_assign (F.e rfl) ?_);clear F a;intro a F
 with_reducible refine l_nil (q_then (c_seq (c_region ?_)))
 refine sD F (o_move (F.e rfl) ?_);clear F a;intro a F
 (refine sD F (o_call (F.e rfl) (F.evs rfl) (Cal.mono (k7 _ (hSo.later M.ext)) ?_));clear F;clear a;rintro _ w ⟨rfl, hE⟩ a F;replace M := M.later hE;clear hE)
 refine sD F (o_move (F.e rfl) ?_);clear F a;intro a F
 (refine sD F (o_call (F.e rfl) (F.evs rfl) (Cal.mono (k8 _ (hSo.later M.ext)) ?_));clear F;clear a;rintro _ w ⟨rfl, hE⟩ a F;replace M := M.later hE;clear hE)
 (refine sD F (o_eqlBT (F.e rfl) (F.e rfl) rfl ?_);clear F a;intro a F)
 refine sD F (o_move (F.e rfl) ?_);clear F a;intro a F
 refine sG F (o_move (F.e rfl) ?_);clear F a;intro a F
 refine sG F (o_move (F.e rfl) ?_);clear F a;intro a F
 refine sG F (o_eqlT (F.e rfl) (F.e rfl) (by omega) ?_);clear F a;intro a F
 refine sD F (o_pickT (F.e rfl) (F.e rfl) ?_);clear F a;intro a F
 refine sD F (o_move (F.e rfl) ?_);clear F a;intro a F
 refine sG F (o_move (F.e rfl) ?_);clear F a;intro a F
 refine sG F (o_move (F.e rfl) ?_);clear F a;intro a F
 (refine sG F (o_call (F.e rfl) (F.evs rfl) (Cal.mono (equalI_c A l1 (by omega) _ _ _ (hO1.slAt M (fun q hq => by simp [hq])) (hO2.slAt M (fun q hq => by simp [hq]))) ?_));clear F;clear a;rintro _ w ⟨rfl, hE⟩ a F;replace M := M.later hE;clear hE)
 by_cases he : er = 0
 ·refine sD F (o_pickT (F.e rfl) (F.e rfl) ?_);clear F a;intro a F
  refine sD F (o_move (F.e rfl) ?_);clear F a;intro a F
  refine sG F (o_move (F.e rfl) ?_);clear F a;intro a F
  refine sG F (o_neqF (F.e rfl) (F.e rfl) (by omega) ?_);clear F a;intro a F
  refine sG F (o_move (F.e rfl) ?_);clear F a;intro a F
  refine sG F (o_move (F.e rfl) ?_);clear F a;intro a F
  (refine sG F (o_call (F.e rfl) (F.evs rfl) (Cal.mono (rtvalidI_c A l1 _ _ (hO1.slAt M (fun q hq => by simp [hq]))) ?_));clear F;clear a;rintro _ w ⟨rfl, hE⟩ a F;replace M := M.later hE;clear hE)
  rw [l2 he] at F
  refine sG F (o_pickF (F.e rfl) (F.e rfl) ?_);clear F a;intro a F
  refine sD F (o_pickT (F.e rfl) (F.e rfl) ?_);clear F a;intro a F
  refine sD F (o_move (F.e rfl) ?_);clear F a;intro a F
  refine sG F (o_move (F.e rfl) ?_);clear F a;intro a F
  refine sD F (o_pickT (F.e rfl) (F.e rfl) ?_);clear F a;intro a F
  refine sD F (o_assign (F.e rfl) ?_);clear F a;intro a F
  with_reducible refine l_nil (q_then (c_ret ?_))
  refine p_ret F rfl (.cons (.tmp (F.e rfl)) .nil) ?_
  exact ⟨rfl, M.ext⟩
 ·refine sD F (o_pickT (F.e rfl) (F.e rfl) ?_);clear F a;intro a F
  refine sD F (o_move (F.e rfl) ?_);clear F a;intro a F
  refine sG F (o_move (F.e rfl) ?_);clear F a;intro a F
  refine sG F (o_neqT (F.e rfl) (F.e rfl) (by omega) ?_);clear F a;intro a F
  refine sG F (o_move (F.e rfl) ?_);clear F a;intro a F
  refine sO F ?_;clear F a;intro a F
  refine sO F ?_;clear F a;intro a F
  refine sG F (o_pickT (F.e rfl) (F.e rfl) ?_);clear F a;intro a F
  refine sD F (o_pickT (F.e rfl) (F.e rfl) ?_);clear F a;intro a F
  refine sD F (o_move (F.e rfl) ?_);clear F a;intro a F
  refine sG F (o_move (F.e rfl) ?_);clear F a;intro a F
  refine sD F (o_pickT (F.e rfl) (F.e rfl) ?_);clear F a;intro a F
  refine sD F (o_assign (F.e rfl) ?_);clear F a;intro a F
  with_reducible refine l_nil (q_then (c_ret ?_))
  refine p_ret F rfl (.cons (.tmp (F.e rfl)) .nil) ?_
  exact ⟨rfl, M.ext⟩
end Go.Proofs.YtilgoepokaaleaaGreat
/-! VB -/
namespace Go.Proofs.YtilgoepokaaleaaGreat
set_option linter.unusedVariables false
set_option linter.unusedSimpArgs false
open Go.RowKit
attribute [local irreducible] OpTo wpListIn Code.wpIn MW Cal
theorem bsearch0_c (x : RouV) (hx : IsRo x) (W : World) : Cal Tryz.prog 77 [.slice none 0 0, .agg (roC x).toArray, .func (.func 78) #[] #[]].toArray W fun r w' => r = .tuple [.int .i64 0, .bool false].toArray ∧ Ext [] W w' := by
 refine g_start (n := 49) (S := []) fldT_ok slcT_ok Tryz.func77 rfl rfl rfl ?_
 refine gR 2 rfl ?_
 refine g_box rfl rfl fun b4 => ?_
 refine gR 20 rfl ?_
 refine g_loop (ι := Unit) ⟨fun _ => 0, fun _ => True, fun _ => [(9, .int .i64 0), (10, .int .i64 (0 : Nat)), (8, .int .i64 (0 : Nat))], fun _ => []⟩ () trivial (fun a F => F.only [9, 10, 8] rfl) (List.nil_sublist _) ?_
 rintro _ _
 refine gR 11 rfl ?_
 refine g_outX ?_
 refine gR 3 rfl ?_
 refine g_draw 16 49 rfl (by kernel_rfl) ?_
 refine fR 16 rfl ?_
 refine fd_done rfl rfl ?_
 refine gR 3 rfl ?_
 refine g_ret2 rfl rfl rfl rfl fun w M => ?_
 with_reducible exact ⟨rfl, M.ext⟩
theorem slAtR1 {w : World} {b : Nat} {x : RouV} (hx : IsRo x) {t : TypeId} {fz : Nat × Nat} (h : w.heap[b]? = some (.cells (roC x).toArray t fz)) : SlAt w 39 (.slice (some ⟨b, 0, none⟩) 1 1) 1 (roC x) :=
 ⟨_, _, rfl, Nat.le_refl _, by simp, ro_len hx, fun _ => ⟨b, 0, _, _, _, rfl, h, sg_all (ro_len hx)⟩⟩
set_option maxHeartbeats 2000000 in
theorem clone0_c (W : World) : Cal Tryz.prog 72 [.slice none 0 0].toArray W fun r w' => r = .slice none 0 0 ∧ Ext [] W w' := by
 refine fn_ofM (n := 8) [] Tryz.func72 rfl rfl rfl ?_
 intro a w F M hwW
 refine c_seq (c_region ?_)
 refine sD F (o_assign (F.e rfl) ?_);clear F a;intro a F
 with_reducible refine l_nil (q_then (c_seq (c_seq (c_region ?_))))
 refine sD F (o_move (F.e rfl) ?_);clear F a;intro a F
 (refine sD F (o_eqlNil (F.e rfl) (F.e rfl) ?_);clear F a;intro a F)
 with_reducible refine l_nil (q_then ?_)
 refine c_true F rfl rfl ?_
 refine c_seq (c_region ?_)
 refine sD F (o_assign (F.e rfl) ?_);clear F a;intro a F
 with_reducible refine l_nil (q_then (c_ret (q_thenR ?_)))
 refine p_ret F rfl (.cons (.tmp (F.e rfl)) .nil) ?_
 exact ⟨rfl, M.ext⟩
set_option maxHeartbeats 2000000 in
theorem insert0_c (x : RouV) (hx : IsRo x) (v : Value) (W : World) (hS : SlAt W 39 v 1 (roC x)) : Cal Tryz.prog 80 [.slice none 0 0, .int .i64 0, v].toArray W fun r w' => ∃ ent, OwnS 53 39 r 1 (rosC [x]) ent ∧ Mem [] W w' ent := by
 obtain ⟨q, cap, rfl, _⟩ := id hS
 refine fn_ofM (n := 95) [] Tryz.func80 rfl rfl rfl ?_
 intro a w F M hwW
 refine c_seq (c_region ?_)
 refine sD F (o_assign (F.e rfl) ?_);clear F a;intro a F
 with_reducible refine l_nil (q_then (c_seq (c_region ?_)))
 refine sD F (o_move (F.e rfl) ?_);clear F a;intro a F
 refine sD F (o_move (F.e rfl) ?_);clear F a;intro a F
 (refine sD F (o_slLany (F.e rfl) (F.e rfl) (by omega) (by omega) ?_);clear F;intro qs a F)
 with_reducible refine l_nil (q_then (c_seq (c_region ?_)))
 refine sD F (o_move (F.e rfl) ?_);clear F a;intro a F
 refine sD F (o_lenSl (F.e rfl) ?_);clear F a;intro a F
 refine sD F (o_assign (F.e rfl) ?_);clear F a;intro a F
 with_reducible refine l_nil (q_then (c_seq (c_seq (c_region ?_))))
 refine sD F (o_move (F.e rfl) ?_);clear F a;intro a F
 refine sD F (o_eqlF (F.e rfl) (F.e rfl) (by omega) ?_);clear F a;intro a F
 with_reducible refine l_nil (q_then ?_)
 refine c_false F rfl rfl ?_
 with_reducible refine c_skip (q_then (c_seq (c_region ?_)))
 refine sD F (o_move (F.e rfl) ?_);clear F a;intro a F
 refine sD F (o_lenSl (F.e rfl) ?_);clear F a;intro a F
 refine sD F (o_assign (F.e rfl) ?_);clear F a;intro a F
 with_reducible refine l_nil (q_then (c_seq (c_seq (c_region ?_))))
 refine sD F (o_move (F.e rfl) ?_);clear F a;intro a F
 refine sD F (o_move (F.e rfl) ?_);clear F a;intro a F
 refine sD F (o_eqlT (F.e rfl) (F.e rfl) (by omega) ?_);clear F a;intro a F
 with_reducible refine l_nil (q_then ?_)
 refine c_true F rfl rfl ?_
 refine c_seq (c_region ?_)
 refine sD F (o_move (F.e rfl) ?_);clear F a;intro a F
 refine sD F (o_move (F.e rfl) ?_);clear F a;intro a F
 (refine sD F (o_append (OwnS.nil 53 39) M .here (F.e rfl) (F.e rfl) ((hS.later M.ext).src (ro_one x)) (by omega) (by omega) ?_);clear F M;intro u ent w hO M a F)
 refine sD F (o_assign (F.e rfl) ?_);clear F a;intro a F
 with_reducible refine l_nil (q_then (c_ret (q_thenR ?_)))
 refine p_ret F rfl (.cons (.tmp (F.e rfl)) .nil) ?_
 exact ⟨ent, by rw [show rosC [x] = roC x from encL_one _ _];rw [Nat.zero_add, List.nil_append] at hO;exact hO, M⟩
set_option maxHeartbeats 8000000 in
theorem learn0_c (now : Int) (t : DstV) (ht : IsDv t) (nb : Int) (d : DisV) (h1 : validT t = true) (h2 : validM d.met = true) (h3 : ¬ d.met = 65535) (h4 : ¬ nb = 0) (h5 : isTime now = true) (W : World) :
  Cal Tryz.prog 31 [.slice none 0 0, .int .i64 now, .agg (dvC t).toArray, .int .u64 nb, .agg (diC d).toArray].toArray W fun r w' => ∃ u ent, r = .tuple [u, .int .i64 0].toArray ∧ OwnS 53 39 u 1 (rosC [⟨t, nb, d, laterV now 10⟩]) ent ∧ Mem [] W w' ent := by
 have hnw := h5
 simp only [isTime, Bool.and_eq_true, decide_eq_true_eq] at hnw
 have xI : IsRo (⟨t, nb, d, laterV now 10⟩ : RouV) := ⟨ht, trivial⟩
 refine g_start (n := 82) (S := []) fldT_ok slcT_ok Tryz.func31 rfl rfl rfl ?_
 refine gR 2 rfl ?_
 refine g_box rfl rfl fun b7 => ?_
 refine g_box rfl rfl fun b9 => ?_
 refine gR 8 rfl ?_
 refine g_call (v := .bool true) rfl rfl (fun w M => rtvalid_c [] (by simp) _ w (SlAt.nil _ _)) ?_
 refine gR 2 rfl ?_
 refine g_ldA 1 rfl rfl (dv_all ‹_›) ?_
 refine g_call rfl rfl (fun w M => validTo_c _ ‹_› _) ?_
 refine gR 3 rfl ?_
 refine g_know 24 rfl (notF ‹_›) ?_
 refine g_ldA 0 rfl rfl (di_all trivial) ?_
 refine g_call rfl rfl (fun w M => sqvalid_c _ _) ?_
 refine gR 3 rfl ?_
 refine g_know 29 rfl (notF ‹_›) ?_
 refine gR 5 rfl ?_
 refine g_ifF rfl (decide_eq_false (by omega)) ?_
 refine gR 6 rfl ?_
 refine g_call rfl rfl (fun w M => rtTime_c _ _) ?_
 refine gR 3 rfl ?_
 refine g_ifF rfl (notF ‹_›) ?_
 refine gR 3 rfl ?_
 refine g_draw 7 82 rfl (by kernel_rfl) ?_
 refine fd_ldA 1 rfl rfl (dv_all ‹_›) ?_
 refine fR 1 rfl ?_
 refine fd_ldA 0 rfl rfl (di_all trivial) ?_
 refine fR 1 rfl ?_
 refine fd_call rfl rfl (fun w M => rlater_c _ _ (by omega) (by omega) (by omega) (by omega) _) ?_
 refine fd_v (fun a w F M R r => o_build F rfl (ro_mk _ ‹_› _ _ _) r) ?_
 refine fd_al fun b12 => ?_
 refine g_stA 0 rfl rfl (ro_len ‹_›) (ro_one _) rfl (put_all (by rw [ro_len ‹_›];first | rfl | rw [ro_len ‹_›])) rfl ?_
 refine gR 5 rfl ?_
 refine g_ldA 0 rfl rfl (ro_all ‹_›) ?_
 refine g_call rfl rfl (fun w M => bsearch0_c _ xI w) ?_
 refine gR 10 rfl ?_
 refine g_call rfl rfl (fun w M => clone0_c w) ?_
 refine gR 8 rfl ?_
 refine g_ld1 1 rfl rfl (di_met trivial) ?_
 refine gR 2 rfl ?_
 refine g_know 59 rfl (decide_eq_false (by omega)) ?_
 refine gR 9 rfl ?_
 refine g_ld1 1 rfl rfl (di_met trivial) ?_
 refine gR 4 rfl ?_
 refine g_ifF rfl (decide_eq_false (by omega)) ?_
 refine gR 19 rfl ?_
 refine g_ldA 0 rfl rfl (ro_all ‹_›) ?_
 refine g_bs rfl rfl rfl (ro_build1 ‹_›) (fun b53 => ?_)
 refine g_callN (ι := Value × List (Nat × Obj)) (fun x => x.1) (fun y => OwnS 53 39 y.1 1 (rosC [⟨t, nb, d, laterV now 10⟩]) y.2) (fun x => [x.2]) rfl rfl (fun w M => Cal.mono (insert0_c _ xI _ w (slAtR1 xI (M.at_ _ (nthO_mem (i := 0) rfl)))) fun r w' ⟨ent, h, N⟩ => ⟨(r, ent), rfl, h, by simpa using N⟩) ?_
 rintro ⟨u, ent⟩ hO
 simp only [List.cons_append, List.nil_append]
 dsimp only at hO
 refine gR 12 rfl ?_
 refine g_ret2 rfl rfl rfl rfl fun w M => ?_
 exact ⟨u, ent, rfl, hO, M.sub (List.sublist_append_left _ _)⟩
set_option maxHeartbeats 8000000 in
theorem lookOne_c (x : InsV) (hx : IsIn x) (hv : validIs [x] = true) (v : Value) (src dst : List Int) (hs : IsIP src) (hd : IsIP dst) (mark : DstV) (m1 : containsP x.to.dip x.to.dbits dst = true) (m2 : containsP x.to.sip x.to.sbits src = true) (W : World) (hS : SlAt W 40 v [x].length (insC [x])) :
  Cal Tryz.prog 60 [v, .agg (ipC src).toArray, .agg (ipC dst).toArray, .agg (dvC mark).toArray, .bool false].toArray W fun r w' => r = .tuple [.agg (inC (if x.nb = 0 then (in0, (15 : Int)) else (x, 0)).1).toArray, .int .i64 (if x.nb = 0 then (in0, (15 : Int)) else (x, 0)).2].toArray ∧ Ext [] W w' := by
 obtain ⟨q, cap, rfl, _⟩ := id hS
 have hm := hS.memB [] (by simp)
 have l3 := hs.len
 have l4 := hd.len
 have a1 : seg (ipC src) 0 16 = some (ipC src) := seg_all (ipC_len hs.len)
 have a2 : seg (ipC dst) 0 16 = some (ipC dst) := seg_all (ipC_len hd.len)
 have hz : putAll [(0, 35), (35, 1), (36, 2), (38, 1), (39, 1)] inZ [] = some (inC in0) := rfl
 have hi0 := in0_is
 have hxd : IsDv x.to := hx.1
 have l1 := hxd.1.len
 have l2 := hxd.2.len
 obtain ⟨b, o, cs, t', fz, rfl, hb, hsg⟩ := hm (by simp)
 have f1 : seg cs (o + ((0 : Nat) : Int).toNat * 40) 40 = some (inC x) := seg_el (ls := [x]) (ins_len (by simpa using hx)) hsg (i := 0) (by simp) (by simp)
 refine g_start (n := 152) (S := []) fldT_ok slcT_ok Tryz.func60 rfl rfl rfl ?_
 refine gR 2 rfl ?_
 refine g_box rfl rfl fun b6 => ?_
 refine g_box rfl rfl fun b7 => ?_
 refine g_box rfl rfl fun b8 => ?_
 refine g_alloc fun b10 => ?_
 refine gR 7 rfl ?_
 refine g_call (v := .bool true) rfl rfl (fun w M => by have h := rtvalidI_c [x] (by simpa using hx) _ w (hS.later M.ext);rw [hv] at h;exact h) ?_
 refine gR 28 rfl ?_
 refine g_pad ?_
 refine g_loop (ι := Nat × List InsV × Value × List (Nat × Obj)) ⟨fun (i, near, u, es) => 1 - i, fun (i, near, u, es) => i ≤ 1 ∧ OwnS 50 40 u near.length (insC near) es ∧ near = [x].take i, fun (i, near, u, es) => [(33, .int .i64 i), (32, .int .i64 (1 : Nat)), (31, .slice (some ⟨b, o, none⟩) [x].length cap), (12, u), (4, .bool false), (6, .pointer (some ⟨b6, 0, none⟩)), (7, .pointer (some ⟨b7, 0, none⟩)), (8, .pointer (some ⟨b8, 0, none⟩)), (10, .pointer (some ⟨b10, 0, none⟩))], fun (i, near, u, es) => [es, [(b10, .cells inZ.toArray 50 (0, 0))], [(b8, .cells (dvC mark).toArray 45 (0, 0))], [(b7, .cells (ipC dst).toArray 39 (0, 0))], [(b6, .cells (ipC src).toArray 39 (0, 0))]]⟩ (0, [], _, []) ⟨by omega, OwnS.nilL _ _ _, rfl⟩ (fun a F => F.only [33, 32, 31, 12, 4, 6, 7, 8, 10] rfl) (by repeat (first | exact .refl _ | apply sC2 | apply sC1)) ?_
 rintro ⟨i, near, u, es⟩ ⟨hi, hO, hn⟩
 dsimp only
 by_cases hlt : i < 1
 ·obtain rfl : i = 0 := by omega
  obtain rfl : near = [] := hn
  obtain ⟨pz, cz, rfl⟩ := hO.slice
  have hlen : (([x].length : Nat) : Int) = 1 := by simp
  refine gR 13 rfl ?_
  refine g_ixS rfl rfl (by omega) (by omega) ?_
  refine g_leA rfl ‹_› (by with_reducible assumption) ?_
  refine g_alloc fun b14 => ?_
  refine g_stA 0 rfl rfl (in_len ‹_›) (in_one _) rfl (put_all (by rw [in_len ‹_›];first | rfl | rw [in_len ‹_›])) rfl ?_
  refine gR 7 rfl ?_
  refine g_ldA 0 rfl rfl (in_to_dst ‹_›) ?_
  refine g_ldA 4 rfl rfl (by with_reducible assumption) ?_
  refine g_call rfl rfl (fun w M => contains_c _ _ ‹_› _ ‹_› _) ?_
  refine gR 2 rfl ?_
  refine g_know 43 rfl (notF ‹_›) ?_
  refine gR 2 rfl ?_
  refine g_ldA 0 rfl rfl (in_to_src ‹_›) ?_
  refine g_ldA 5 rfl rfl (by with_reducible assumption) ?_
  refine g_call rfl rfl (fun w M => contains_c _ _ ‹_› _ ‹_› _) ?_
  refine gR 4 rfl ?_
  refine g_ifF rfl (notF ‹_›) ?_
  refine gR 4 rfl ?_
  refine g_draw 13 152 rfl (by kernel_rfl) ?_
  refine fR 13 rfl ?_
  refine fd_done rfl rfl ?_
  refine gR 6 rfl ?_
  refine g_draw 13 152 rfl (by kernel_rfl) ?_
  refine fR 13 rfl ?_
  refine fd_done rfl rfl ?_
  refine gR 5 rfl ?_
  refine g_ldA 0 rfl rfl (in_all ‹_›) ?_
  refine g_bs rfl rfl rfl (in_build1 ‹_›) (fun b79 => ?_)
  refine g_app 2 0 (enc := inC) rfl rfl ‹_› rfl rfl (in_len ‹_›) (by first | omega | (simp only [List.length_nil];omega)) (fun _ => rfl) (fun v80 es80 hO80 => ?_) (in_one _)
  refine gR 5 rfl ?_
  refine g_add rfl rfl (w_i64 (by omega) (by omega)) ?_
  refine gR 2 rfl ?_
  exact g_next (1, _, _, _) ⟨by omega, by assumption, rfl⟩ (by dsimp only;omega) (fun a F => F.only [33, 32, 31, 12, 4, 6, 7, 8, 10] rfl) (by (try dsimp only);repeat (first | exact .refl _ | with_reducible exact sC0 _ | with_reducible apply sC2 | apply sC1))
 ·obtain rfl : i = 1 := by omega
  obtain rfl : near = [x] := hn
  rcases hO with ⟨_, h0, _, _⟩ | ⟨bN, cN, junk, rfl, rfl, hxl, hjl, hnc⟩
  ·simp at h0
  have g1 : seg (insC [x] ++ junk) (0 + (0 : Int).toNat * 40) 40 = some (inC x) := own_el (ins_len (by simpa using hx)) junk (show 0 < [x].length by simp) (by simp)
  have hlen : [x].length = 1 := rfl
  clear hxl hjl hnc
  refine gR 9 rfl ?_
  refine g_outX ?_
  refine gR 4 rfl ?_
  refine g_draw 15 152 rfl (by kernel_rfl) ?_
  refine fR 15 rfl ?_
  refine fd_done rfl rfl ?_
  refine gR 8 rfl ?_
  refine g_ixS rfl rfl (by omega) (by omega) ?_
  refine g_ldA 0 rfl rfl (by with_reducible assumption) ?_
  refine g_alloc fun b15 => ?_
  refine g_stA 0 rfl rfl (in_len ‹_›) (in_one _) rfl (put_all (by rw [in_len ‹_›];first | rfl | rw [in_len ‹_›])) rfl ?_
  refine gR 4 rfl ?_
  refine g_draw 21 152 rfl (by kernel_rfl) ?_
  refine fR 21 rfl ?_
  refine fd_done rfl rfl ?_
  refine gR 11 rfl ?_
  refine g_loop (ι := Nat) ⟨fun i => 1 - i, fun i => i ≤ 1, fun i => [(134, .int .i64 i), (133, .int .i64 (1 : Nat)), (132, .slice (some ⟨bN, 0, none⟩) [x].length cN), (15, .pointer (some ⟨b15, 0, none⟩)), (10, .pointer (some ⟨b10, 0, none⟩))], fun i => [[(b15, .cells (inC x).toArray 50 (0, 0))], [(bN, .cells (insC [x] ++ junk).toArray 50 (0, 0))], [(b10, .cells inZ.toArray 50 (0, 0))]]⟩ 0 (by omega) (fun a F => F.only [134, 133, 132, 15, 10] rfl) (by repeat (first | exact .refl _ | apply sC2 | apply sC1)) ?_
  intro j hj
  by_cases hlj : j < 1
  ·obtain rfl : j = 0 := by omega
   have g2 : seg (insC [x] ++ junk) (0 + ((0 : Nat) : Int).toNat * 40) 40 = some (inC x) := g1
   clear g1
   refine gR 13 rfl ?_
   refine g_ixS rfl rfl (by omega) (by omega) ?_
   refine g_ldA 1 rfl rfl (by with_reducible assumption) ?_
   refine g_alloc fun b18 => ?_
   refine g_stA 0 rfl rfl (in_len ‹_›) (in_one _) rfl (put_all (by rw [in_len ‹_›];first | rfl | rw [in_len ‹_›])) rfl ?_
   refine gR 6 rfl ?_
   refine g_ld1 0 rfl rfl (in_own_met ‹_›) ?_
   refine gR 2 rfl ?_
   refine g_ld1 1 rfl rfl (in_own_met ‹_›) ?_
   refine gR 3 rfl ?_
   refine g_ifF rfl (decide_eq_false (by omega)) ?_
   refine gR 4 rfl ?_
   refine g_add rfl rfl (w_i64 (by omega) (by omega)) ?_
   refine gR 2 rfl ?_
   exact g_next 1 (by omega) (by dsimp only;omega) (fun a F => F.only [134, 133, 132, 15, 10] rfl) (by (try dsimp only);repeat (first | exact .refl _ | with_reducible exact sC0 _ | with_reducible apply sC2 | apply sC1))
  ·obtain rfl : j = 1 := by omega
   by_cases k9 : x.nb = 0
   ·have k8 : (!decide (x.nb = 0)) = false := by simp [k9]
    refine gR 9 rfl ?_
    refine g_outX ?_
    refine gR 5 rfl ?_
    refine g_ldA 0 rfl rfl (in_all ‹_›) ?_
    refine g_call rfl rfl (fun w M => rtreach_c _ ‹_› _) ?_
    refine gR 3 rfl ?_
    refine g_ifT rfl (notT ‹_›) ?_
    refine gR 2 rfl ?_
    refine g_v (fun a w F M R r => o_build F rfl ‹_› r) ?_
    refine g_stA 2 rfl rfl (in_len ‹_›) (in_one _) rfl (put_all (by rw [in_len ‹_›];first | rfl | rw [in_len ‹_›])) rfl ?_
    refine gR 5 rfl ?_
    refine g_retC2 2 rfl rfl rfl rfl (in_all ‹_›) rfl fun w M => ?_
    exact tup_in (by rw [if_pos k9]) M.ext
   ·have k8 : (!decide (x.nb = 0)) = true := by simp [k9]
    refine gR 9 rfl ?_
    refine g_outX ?_
    refine gR 5 rfl ?_
    refine g_ldA 0 rfl rfl (in_all ‹_›) ?_
    refine g_call rfl rfl (fun w M => rtreach_c _ ‹_› _) ?_
    refine gR 3 rfl ?_
    refine g_ifF rfl (notF ‹_›) ?_
    refine gR 4 rfl ?_
    refine g_ldA 0 rfl rfl (in_all ‹_›) ?_
    refine g_stA 2 rfl rfl (in_len ‹_›) (in_one _) rfl (put_all (by rw [in_len ‹_›];first | rfl | rw [in_len ‹_›])) rfl ?_
    refine gR 4 rfl ?_
    refine g_retC2 2 rfl rfl rfl rfl (in_all ‹_›) rfl fun w M => ?_
    exact tup_in (by rw [if_neg k9]) M.ext
set_option maxHeartbeats 8000000 in
theorem known3_c (W : World) : Cal Tryz.prog 19 [].toArray W fun r w' => r = .bool true ∧ Ext [] W w' := by
 refine fn_ofM (n := 89) [] Tryz.func19 rfl rfl rfl ?_
 intro a w F M hwW
 refine c_seq (c_region ?_)
 refine sD F (o_assign (F.e rfl) ?_);clear F a;intro a F
 with_reducible refine l_nil (q_then (c_seq (c_region ?_)))
 (refine sD F (o_call (F.e rfl) (F.evs rfl) (Cal.mono (host_c 1 9 (by omega) (by omega) (by omega) (by omega) _) ?_));clear F;clear a;rintro _ w ⟨rfl, hE⟩ a F;replace M := M.later hE;clear hE)
 refine sD F (o_build F rfl rfl ?_);clear F a;intro a F
 (refine sD F (o_call (F.e rfl) (F.evs (vs := [.slice none 0 0, .int .i64 5, .agg (dvC (hostD 1 9)).toArray, .int .u64 2, .agg (diC ⟨3, 100⟩).toArray]) rfl) (Cal.mono (learn0_c 5 (hostD 1 9) k_is 2 ⟨3, 100⟩ (by decide +kernel) (by decide +kernel) (by decide) (by decide) (by decide +kernel) _) ?_));clear F;clear a;rintro _ w ⟨u, e1, rfl, hO1, N⟩ a F;replace M := M.joins N;clear N)
 replace hO1 : OwnS 53 39 u [kL].length (rosC [kL]) e1 := hO1
 obtain ⟨p1, c1, rfl⟩ := hO1.slice
 refine sD F (o_move (F.e rfl) ?_);clear F a;intro a F
 refine sD F (o_extract (F.e rfl) rfl ?_);clear F a;intro a F
 refine sD F (o_extract (F.e rfl) rfl ?_);clear F a;intro a F
 refine sD F (o_assign (F.e rfl) ?_);clear F a;intro a F
 refine sD F (o_assign (F.e rfl) ?_);clear F a;intro a F
 with_reducible refine l_nil (q_then (c_seq (c_region ?_)))
 refine sD F (o_build F rfl rfl ?_);clear F a;intro a F
 (refine sD F (o_buildSlice F M rfl rfl rfl rfl ?_);clear F M;intro b19 w M a F)
 replace M : Mem [] W w ((b19, opO kO) :: (e1 ++ [])) := M
 refine sD F (o_assign (F.e rfl) ?_);clear F a;intro a F
 with_reducible refine l_nil (q_then (c_seq (c_region ?_)))
 refine sD F (o_move (F.e rfl) ?_);clear F a;intro a F
 refine sD F (o_move (F.e rfl) ?_);clear F a;intro a F
 (refine sD F (o_call (F.e rfl) (F.evs rfl) (Cal.mono (select_c 6 [kL] (by simpa using kL_is) [] (by simp) [kO] [] (by simp) _ (.slice none 0 0) (.slice (some ⟨b19, 0, none⟩) 1 1) (.slice none 0 0) _ (hO1.slAt M (fun q hq => by simp [hq])) (SlAt.nil _ _) (slAtO (x := kO) (M.heap .here)) (SlAt.nil _ _)) ?_));clear F;clear a;rintro _ w ⟨u, e2, rfl, hO2, N⟩ a F;replace M := M.joins N;clear N)
 rw [kSel1] at F hO2
 dsimp only at F hO2
 obtain ⟨p2, c2, rfl⟩ := hO2.slice
 refine sD F (o_move (F.e rfl) ?_);clear F a;intro a F
 refine sD F (o_extract (F.e rfl) rfl ?_);clear F a;intro a F
 refine sD F (o_extract (F.e rfl) rfl ?_);clear F a;intro a F
 refine sD F (o_assign (F.e rfl) ?_);clear F a;intro a F
 refine sD F (o_assign (F.e rfl) ?_);clear F a;intro a F
 with_reducible refine l_nil (q_then (c_seq (c_region ?_)))
 refine sD F (o_move (F.e rfl) ?_);clear F a;intro a F
 refine sD F (o_build F rfl rfl ?_);clear F a;intro a F
 refine sD F (o_build F rfl rfl ?_);clear F a;intro a F
 refine sD F (o_build F rfl rfl ?_);clear F a;intro a F
 (refine sD F (o_call (F.e rfl) (F.evs (vs := [.slice p2 [kI].length c2, .agg (ipC nul16).toArray, .agg (ipC kIP).toArray, .agg (dvC kZ).toArray, .bool false]) rfl) (Cal.mono (lookOne_c kI kI_is (by decide +kernel) _ nul16 kIP nul16_is kIP_is kZ (by decide +kernel) (by decide +kernel) _ (hO2.slAt M (fun q hq => by simp [hq]))) ?_));clear F;clear a;rintro _ w ⟨rfl, hE⟩ a F;replace M := M.later hE;clear hE)
 rw [show (if kI.nb = 0 then (in0, (15 : Int)) else (kI, 0)) = (kI, 0) from rfl] at F
 dsimp only at F
 refine sD F (o_move (F.e rfl) ?_);clear F a;intro a F
 refine sD F (o_extract (F.e rfl) rfl ?_);clear F a;intro a F
 refine sD F (o_extract (F.e rfl) rfl ?_);clear F a;intro a F
 (refine sD F (o_alloc M ?_);clear F M;intro b6 w M a F)
 (refine stepN rfl F (o_storeA M (F.e rfl) (F.e rfl) (in_len kI_is) (in_one _)  (by repeat constructor)  (put_all (by rw [in_len kI_is];rfl)) (by repeat constructor) ?_);clear F M;intro w M a F)
 refine sD F (o_assign (F.e rfl) ?_);clear F a;intro a F
 with_reducible refine l_nil (q_then (c_seq (c_region ?_)))
 refine sD F (o_move (F.e rfl) ?_);clear F a;intro a F
 refine sD F (o_move (F.e rfl) ?_);clear F a;intro a F
 (refine sD F (o_call (F.e rfl) (F.evs rfl) (Cal.mono (select_c 7 [] (by simp) [] (by simp) [kO] [kI] (by simpa using kI_is) (.slice none 0 0) (.slice none 0 0) (.slice (some ⟨b19, 0, none⟩) 1 1) _ _ (SlAt.nil _ _) (SlAt.nil _ _) (slAtO (x := kO) (M.at_ (b19, opO kO) (by simp))) (hO2.slAt M (fun q hq => by simp [hq]))) ?_));clear F;clear a;rintro _ w ⟨u, e3, rfl, hO3, N⟩ a F;replace M := M.joins N;clear N)
 rw [kSel2] at F hO3
 dsimp only at F hO3
 obtain ⟨p3, c3, hp3⟩ := hO3.slice
 rcases hO3 with ⟨_, h0, _, _⟩ | ⟨bH, cH, junk, rfl, rfl, hxl, hjl, hnc⟩
 ·simp at h0
 have hO3 : OwnS 50 40 (.slice (some ⟨bH, 0, none⟩) [kH].length cH) [kH].length (insC [kH]) [(bH, .cells (insC [kH] ++ junk).toArray 50 (0, 0))] := .inr ⟨bH, cH, junk, rfl, rfl, hxl, hjl, hnc⟩
 clear hp3 hxl hjl hnc
 refine sD F (o_move (F.e rfl) ?_);clear F a;intro a F
 refine sD F (o_extract (F.e rfl) rfl ?_);clear F a;intro a F
 refine sD F (o_extract (F.e rfl) rfl ?_);clear F a;intro a F
 refine sD F (o_assign (F.e rfl) ?_);clear F a;intro a F
 refine sD F (o_assign (F.e rfl) ?_);clear F a;intro a F
 with_reducible refine l_nil (q_then (c_seq (c_region ?_)))
 refine sD F (o_move (F.e rfl) ?_);clear F a;intro a F
 refine sD F (o_build F rfl rfl ?_);clear F a;intro a F
 refine sD F (o_build F rfl rfl ?_);clear F a;intro a F
 refine sD F (o_build F rfl rfl ?_);clear F a;intro a F
 (refine sD F (o_call (F.e rfl) (F.evs (vs := [.slice (some ⟨bH, 0, none⟩) [kH].length cH, .agg (ipC nul16).toArray, .agg (ipC kIP).toArray, .agg (dvC kZ).toArray, .bool false]) rfl) (Cal.mono (lookOne_c kH kH_is (by decide +kernel) _ nul16 kIP nul16_is kIP_is kZ (by decide +kernel) (by decide +kernel) _ (hO3.slAt M (fun q hq => by simp at hq;simp [hq]))) ?_));clear F;clear a;rintro _ w ⟨rfl, hE⟩ a F;replace M := M.later hE;clear hE)
 rw [show (if kH.nb = 0 then (in0, (15 : Int)) else (kH, 0)) = (in0, 15) from rfl] at F
 dsimp only at F
 refine sD F (o_move (F.e rfl) ?_);clear F a;intro a F
 refine sD F (o_extract (F.e rfl) rfl ?_);clear F a;intro a F
 refine sD F (o_extract (F.e rfl) rfl ?_);clear F a;intro a F
 (refine sD F (o_alloc M ?_);clear F M;intro b10 w M a F)
 (refine stepN rfl F (o_storeA M (F.e rfl) (F.e rfl) (in_len in0_is) (in_one _)  (by repeat constructor)  (put_all (by rw [in_len in0_is];rfl)) (by repeat constructor) ?_);clear F M;intro w M a F)
 replace M := M.perm (l' := (b6, .cells (inC kI).toArray 50 (0, 0)) :: (bH, .cells (insC [kH] ++ junk).toArray 50 (0, 0)) :: (b10, .cells (inC in0).toArray 50 (0, 0)) :: (e2 ++ ((b19, opO kO) :: (e1 ++ [])))) (by classical exact List.perm_iff_count.2 fun _ => by simp only [List.count_append, List.count_cons, List.count_nil, Nat.add_zero, Nat.zero_add] <;> ac_rfl)
 have g1 : seg (insC [kH] ++ junk) (0 + (0 : Int).toNat * 40) 40 = some (inC kH) := own_el (ls := [kH]) (by simpa using in_len kH_is) junk (show 0 < [kH].length by simp) (by simp)
 have g2 : nth (insC [kH] ++ junk) (0 + (0 : Int).toNat * 40 + 39) = some (.int .i64 21) := sg_nth g1 (in_til kH_is) (by omega)
 have g3 := in_nb kI_is
 have g4 := in_own kI_is
 rw [show [kH].length = 1 from rfl] at F
 refine sD F (o_assign (F.e rfl) ?_);clear F a;intro a F
 with_reducible refine l_nil (q_then (c_seq (c_region ?_)))
 refine sD F (o_move (F.e rfl) ?_);clear F a;intro a F
 refine sD F (o_eqlT (F.e rfl) (F.e rfl) (by omega) ?_);clear F a;intro a F
 refine sD F (o_move (F.e rfl) ?_);clear F a;intro a F
 refine sG F (o_move (F.e rfl) ?_);clear F a;intro a F
 refine sG F (o_eqlT (F.e rfl) (F.e rfl) (by omega) ?_);clear F a;intro a F
 refine sD F (o_pickT (F.e rfl) (F.e rfl) ?_);clear F a;intro a F
 refine sD F (o_move (F.e rfl) ?_);clear F a;intro a F
 refine sG F (o_move (F.e rfl) ?_);clear F a;intro a F
 refine sG F (o_eqlT (F.e rfl) (F.e rfl) (by omega) ?_);clear F a;intro a F
 refine sD F (o_pickT (F.e rfl) (F.e rfl) ?_);clear F a;intro a F
 refine sD F (o_move (F.e rfl) ?_);clear F a;intro a F
 refine sG F (o_move (F.e rfl) ?_);clear F a;intro a F
 refine sG F (o_eqlT (F.e rfl) (F.e rfl) (by omega) ?_);clear F a;intro a F
 refine sD F (o_pickT (F.e rfl) (F.e rfl) ?_);clear F a;intro a F
 refine sD F (o_move (F.e rfl) ?_);clear F a;intro a F
 refine sG F (o_move (F.e rfl) ?_);clear F a;intro a F
 refine sG F (o_eqlT (F.e rfl) (F.e rfl) (by omega) ?_);clear F a;intro a F
 refine sD F (o_pickT (F.e rfl) (F.e rfl) ?_);clear F a;intro a F
 refine sD F (o_move (F.e rfl) ?_);clear F a;intro a F
 refine sG F (o_fieldAddr (F.e rfl) ?_);clear F a;intro a F
 refine sG F (o_load1 M (F.e rfl) (by repeat constructor) (by first | assumption | rfl) ?_);clear F a;intro a F
 refine sG F (o_eql (F.e rfl) (F.e rfl) ?_);clear F a;intro a F
 refine sD F (o_pickT (F.e rfl) (F.e rfl) ?_);clear F a;intro a F
 refine sD F (o_move (F.e rfl) ?_);clear F a;intro a F
 refine sG F (o_fieldAddr (F.e rfl) ?_);clear F a;intro a F
 refine sG F (o_loadA M (F.e rfl) (by repeat constructor) (by first | assumption | rfl) ?_);clear F a;intro a F
 refine sG F (o_build F rfl ‹_› ?_);clear F a;intro a F
 refine sG F (o_eqlA (F.e rfl) (F.e rfl) (by first | assumption | rfl) (by first | assumption | rfl) ?_);clear F a;intro a F
 refine sD F (o_pickT (F.e rfl) (F.e rfl) ?_);clear F a;intro a F
 refine sD F (o_move (F.e rfl) ?_);clear F a;intro a F
 refine sG F (o_move (F.e rfl) ?_);clear F a;intro a F
 refine sG F (o_lenSl (F.e rfl) ?_);clear F a;intro a F
 refine sG F (o_eqlT (F.e rfl) (F.e rfl) (by omega) ?_);clear F a;intro a F
 refine sD F (o_pickT (F.e rfl) (F.e rfl) ?_);clear F a;intro a F
 refine sD F (o_move (F.e rfl) ?_);clear F a;intro a F
 refine sG F (o_move (F.e rfl) ?_);clear F a;intro a F
 refine sG F (o_indexSl (F.e rfl) (F.e rfl) (by omega) (by omega) ?_);clear F a;intro a F
 refine sG F (o_fieldAddr (F.e rfl) ?_);clear F a;intro a F
 refine sG F (o_load1 M (F.e rfl) (by repeat constructor) (by first | assumption | rfl) ?_);clear F a;intro a F
 refine sG F (o_eqlT (F.e rfl) (F.e rfl) (by omega) ?_);clear F a;intro a F
 refine sD F (o_pickT (F.e rfl) (F.e rfl) ?_);clear F a;intro a F
 refine sD F (o_assign (F.e rfl) ?_);clear F a;intro a F
 with_reducible refine l_nil (q_then (c_ret ?_))
 refine p_ret F rfl (.cons (.tmp (F.e rfl)) .nil) ?_
 exact ⟨rfl, M.ext⟩
end Go.Proofs.YtilgoepokaaleaaGreat
/-! WE -/
namespace Go.Proofs.YtilgoepokaaleaaGreat
set_option linter.unusedVariables false
set_option linter.unusedSimpArgs false
open Go.RowKit
attribute [local irreducible] OpTo wpListIn Code.wpIn MW Cal
set_option maxHeartbeats 32000000 in
theorem selectsL_c (pt : Option Addr) (cap : Nat) (xs0 : List Int) (now : Int) (rl : List RouV) (hrl : ∀ x ∈ rl, IsRo x) (rs : List SrcV) (hrs : ∀ x ∈ rs, IsSr x) (ro : List OptV) (ri : List InsV) (hri : ∀ x ∈ ri, IsIn x) (v1 v2 v3 v4 : Value) (W : World) (hI : IntsAt W (.slice pt xs0.length cap) xs0) (hcap : xs0.length ≤ cap) (hS1 : SlAt W 39 v1 rl.length (rosC rl)) (hS2 : SlAt W 38 v2 rs.length (srsC rs)) (hS3 : SlAt W 2 v3 ro.length (opsC ro)) (hS4 : SlAt W 40 v4 ri.length (insC ri)) :
  Cal Tryz.prog 6 [.slice pt xs0.length cap, .int .i64 now, v1, v2, v3, v4].toArray W fun v w' => v = .bool true ∧ Ext [] W w' := by
 have hmem : 0 < xs0.length → ∃ b o cs t fz, pt = some ⟨b, o, none⟩ ∧ W.heap[b]? = some (.cells cs t fz) ∧ seg cs.toList o xs0.length = some (i64C xs0) := fun hl => by
  obtain ⟨p', cap', h1, _, h3⟩ := hI.ex
  cases h1
  exact h3 hl
 obtain ⟨q1, cc1, rfl, _⟩ := id hS1
 obtain ⟨q2, cc2, rfl, _⟩ := id hS2
 obtain ⟨q3, cc3, rfl, _⟩ := id hS3
 obtain ⟨q4, cc4, rfl, _⟩ := id hS4
 refine fn_ofM (n := 118) [] Tryz.func6 rfl rfl rfl ?_
 intro a w F M hwW
 by_cases s1 : 20 < rl.length
 ·refine c_seq ?_
  refine c_region ?_
  refine sD F (o_assign (F.e rfl) ?_);clear F a;intro a F
  with_reducible refine l_nil (q_then (c_seq (c_seq (c_region ?_))))
  refine sD F (o_move (F.e rfl) ?_);clear F a;intro a F
  refine sD F (o_lenSl (F.e rfl) ?_);clear F a;intro a F
  refine sD F (o_gtrT (F.e rfl) (F.e rfl) (by omega) ?_);clear F a;intro a F
  refine sD F (o_move (F.e rfl) ?_);clear F a;intro a F
  refine sO F ?_;clear F a;intro a F
  refine sO F ?_;clear F a;intro a F
  refine sO F ?_;clear F a;intro a F
  refine sD F (o_pickT (F.e rfl) (F.e rfl) ?_);clear F a;intro a F
  refine sD F (o_move (F.e rfl) ?_);clear F a;intro a F
  refine sO F ?_;clear F a;intro a F
  refine sO F ?_;clear F a;intro a F
  refine sO F ?_;clear F a;intro a F
  refine sD F (o_pickT (F.e rfl) (F.e rfl) ?_);clear F a;intro a F
  refine sD F (o_move (F.e rfl) ?_);clear F a;intro a F
  refine sO F ?_;clear F a;intro a F
  refine sO F ?_;clear F a;intro a F
  refine sO F ?_;clear F a;intro a F
  refine sD F (o_pickT (F.e rfl) (F.e rfl) ?_);clear F a;intro a F
  with_reducible refine l_nil (q_then ?_)
  refine c_true F rfl rfl ?_
  refine c_seq (c_region ?_)
  (refine sD F (o_call (F.e rfl) (F.evs rfl) (Cal.mono (known3_c _) ?_));clear F;clear a;rintro _ w ⟨rfl, hE⟩ a F;replace M := M.later hE;clear hE)
  refine sD F (o_assign (F.e rfl) ?_);clear F a;intro a F
  with_reducible refine l_nil (q_then (c_ret (q_thenR ?_)))
  refine p_ret F rfl (.cons (.tmp (F.e rfl)) .nil) ?_
  exact ⟨rfl, M.ext⟩
 by_cases s2 : 20 < rs.length
 ·refine c_seq ?_
  refine c_region ?_
  refine sD F (o_assign (F.e rfl) ?_);clear F a;intro a F
  with_reducible refine l_nil (q_then (c_seq (c_seq (c_region ?_))))
  refine sD F (o_move (F.e rfl) ?_);clear F a;intro a F
  refine sD F (o_lenSl (F.e rfl) ?_);clear F a;intro a F
  refine sD F (o_gtrF (F.e rfl) (F.e rfl) (by omega) ?_);clear F a;intro a F
  refine sD F (o_move (F.e rfl) ?_);clear F a;intro a F
  refine sG F (o_move (F.e rfl) ?_);clear F a;intro a F
  refine sG F (o_lenSl (F.e rfl) ?_);clear F a;intro a F
  refine sG F (o_gtrT (F.e rfl) (F.e rfl) (by omega) ?_);clear F a;intro a F
  refine sD F (o_pickF (F.e rfl) (F.e rfl) ?_);clear F a;intro a F
  refine sD F (o_move (F.e rfl) ?_);clear F a;intro a F
  refine sO F ?_;clear F a;intro a F
  refine sO F ?_;clear F a;intro a F
  refine sO F ?_;clear F a;intro a F
  refine sD F (o_pickT (F.e rfl) (F.e rfl) ?_);clear F a;intro a F
  refine sD F (o_move (F.e rfl) ?_);clear F a;intro a F
  refine sO F ?_;clear F a;intro a F
  refine sO F ?_;clear F a;intro a F
  refine sO F ?_;clear F a;intro a F
  refine sD F (o_pickT (F.e rfl) (F.e rfl) ?_);clear F a;intro a F
  with_reducible refine l_nil (q_then ?_)
  refine c_true F rfl rfl ?_
  refine c_seq (c_region ?_)
  (refine sD F (o_call (F.e rfl) (F.evs rfl) (Cal.mono (known3_c _) ?_));clear F;clear a;rintro _ w ⟨rfl, hE⟩ a F;replace M := M.later hE;clear hE)
  refine sD F (o_assign (F.e rfl) ?_);clear F a;intro a F
  with_reducible refine l_nil (q_then (c_ret (q_thenR ?_)))
  refine p_ret F rfl (.cons (.tmp (F.e rfl)) .nil) ?_
  exact ⟨rfl, M.ext⟩
 by_cases s3 : 20 < ro.length
 ·refine c_seq ?_
  refine c_region ?_
  refine sD F (o_assign (F.e rfl) ?_);clear F a;intro a F
  with_reducible refine l_nil (q_then (c_seq (c_seq (c_region ?_))))
  refine sD F (o_move (F.e rfl) ?_);clear F a;intro a F
  refine sD F (o_lenSl (F.e rfl) ?_);clear F a;intro a F
  refine sD F (o_gtrF (F.e rfl) (F.e rfl) (by omega) ?_);clear F a;intro a F
  refine sD F (o_move (F.e rfl) ?_);clear F a;intro a F
  refine sG F (o_move (F.e rfl) ?_);clear F a;intro a F
  refine sG F (o_lenSl (F.e rfl) ?_);clear F a;intro a F
  refine sG F (o_gtrF (F.e rfl) (F.e rfl) (by omega) ?_);clear F a;intro a F
  refine sD F (o_pickF (F.e rfl) (F.e rfl) ?_);clear F a;intro a F
  refine sD F (o_move (F.e rfl) ?_);clear F a;intro a F
  refine sG F (o_move (F.e rfl) ?_);clear F a;intro a F
  refine sG F (o_lenSl (F.e rfl) ?_);clear F a;intro a F
  refine sG F (o_gtrT (F.e rfl) (F.e rfl) (by omega) ?_);clear F a;intro a F
  refine sD F (o_pickF (F.e rfl) (F.e rfl) ?_);clear F a;intro a F
  refine sD F (o_move (F.e rfl) ?_);clear F a;intro a F
  refine sO F ?_;clear F a;intro a F
  refine sO F ?_;clear F a;intro a F
  refine sO F ?_;clear F a;intro a F
  refine sD F (o_pickT (F.e rfl) (F.e rfl) ?_);clear F a;intro a F
  with_reducible refine l_nil (q_then ?_)
  refine c_true F rfl rfl ?_
  refine c_seq (c_region ?_)
  (refine sD F (o_call (F.e rfl) (F.evs rfl) (Cal.mono (known3_c _) ?_));clear F;clear a;rintro _ w ⟨rfl, hE⟩ a F;replace M := M.later hE;clear hE)
  refine sD F (o_assign (F.e rfl) ?_);clear F a;intro a F
  with_reducible refine l_nil (q_then (c_ret (q_thenR ?_)))
  refine p_ret F rfl (.cons (.tmp (F.e rfl)) .nil) ?_
  exact ⟨rfl, M.ext⟩
 by_cases s4 : 20 < ri.length
 ·refine c_seq ?_
  refine c_region ?_
  refine sD F (o_assign (F.e rfl) ?_);clear F a;intro a F
  with_reducible refine l_nil (q_then (c_seq (c_seq (c_region ?_))))
  refine sD F (o_move (F.e rfl) ?_);clear F a;intro a F
  refine sD F (o_lenSl (F.e rfl) ?_);clear F a;intro a F
  refine sD F (o_gtrF (F.e rfl) (F.e rfl) (by omega) ?_);clear F a;intro a F
  refine sD F (o_move (F.e rfl) ?_);clear F a;intro a F
  refine sG F (o_move (F.e rfl) ?_);clear F a;intro a F
  refine sG F (o_lenSl (F.e rfl) ?_);clear F a;intro a F
  refine sG F (o_gtrF (F.e rfl) (F.e rfl) (by omega) ?_);clear F a;intro a F
  refine sD F (o_pickF (F.e rfl) (F.e rfl) ?_);clear F a;intro a F
  refine sD F (o_move (F.e rfl) ?_);clear F a;intro a F
  refine sG F (o_move (F.e rfl) ?_);clear F a;intro a F
  refine sG F (o_lenSl (F.e rfl) ?_);clear F a;intro a F
  refine sG F (o_gtrF (F.e rfl) (F.e rfl) (by omega) ?_);clear F a;intro a F
  refine sD F (o_pickF (F.e rfl) (F.e rfl) ?_);clear F a;intro a F
  refine sD F (o_move (F.e rfl) ?_);clear F a;intro a F
  refine sG F (o_move (F.e rfl) ?_);clear F a;intro a F
  refine sG F (o_lenSl (F.e rfl) ?_);clear F a;intro a F
  refine sG F (o_gtrT (F.e rfl) (F.e rfl) (by omega) ?_);clear F a;intro a F
  refine sD F (o_pickF (F.e rfl) (F.e rfl) ?_);clear F a;intro a F
  with_reducible refine l_nil (q_then ?_)
  refine c_true F rfl rfl ?_
  refine c_seq (c_region ?_)
  (refine sD F (o_call (F.e rfl) (F.evs rfl) (Cal.mono (known3_c _) ?_));clear F;clear a;rintro _ w ⟨rfl, hE⟩ a F;replace M := M.later hE;clear hE)
  refine sD F (o_assign (F.e rfl) ?_);clear F a;intro a F
  with_reducible refine l_nil (q_then (c_ret (q_thenR ?_)))
  refine p_ret F rfl (.cons (.tmp (F.e rfl)) .nil) ?_
  exact ⟨rfl, M.ext⟩
 refine c_seq (c_region ?_)
 refine sD F (o_assign (F.e rfl) ?_);clear F a;intro a F
 with_reducible refine l_nil (q_then (c_seq (c_seq (c_region ?_))))
 refine sD F (o_move (F.e rfl) ?_);clear F a;intro a F
 refine sD F (o_lenSl (F.e rfl) ?_);clear F a;intro a F
 refine sD F (o_gtrF (F.e rfl) (F.e rfl) (by omega) ?_);clear F a;intro a F
 refine sD F (o_move (F.e rfl) ?_);clear F a;intro a F
 refine sG F (o_move (F.e rfl) ?_);clear F a;intro a F
 refine sG F (o_lenSl (F.e rfl) ?_);clear F a;intro a F
 refine sG F (o_gtrF (F.e rfl) (F.e rfl) (by omega) ?_);clear F a;intro a F
 refine sD F (o_pickF (F.e rfl) (F.e rfl) ?_);clear F a;intro a F
 refine sD F (o_move (F.e rfl) ?_);clear F a;intro a F
 refine sG F (o_move (F.e rfl) ?_);clear F a;intro a F
 refine sG F (o_lenSl (F.e rfl) ?_);clear F a;intro a F
 refine sG F (o_gtrF (F.e rfl) (F.e rfl) (by omega) ?_);clear F a;intro a F
 refine sD F (o_pickF (F.e rfl) (F.e rfl) ?_);clear F a;intro a F
 refine sD F (o_move (F.e rfl) ?_);clear F a;intro a F
 refine sG F (o_move (F.e rfl) ?_);clear F a;intro a F
 refine sG F (o_lenSl (F.e rfl) ?_);clear F a;intro a F
 refine sG F (o_gtrF (F.e rfl) (F.e rfl) (by omega) ?_);clear F a;intro a F
 refine sD F (o_pickF (F.e rfl) (F.e rfl) ?_);clear F a;intro a F
 with_reducible refine l_nil (q_then ?_)
 refine c_false F rfl rfl ?_
 with_reducible refine c_skip (q_then (c_seq (c_region ?_)))
 refine sD F (o_move (F.e rfl) ?_);clear F a;intro a F
 (refine sD F (o_call (F.e rfl) (F.evs rfl) (Cal.mono (new_c xs0 _ (hI.later M.ext) hcap ) ?_));clear F;clear a;rintro _ w ⟨bt, rfl, N⟩ a F;replace M := M.joins N;clear N)
 have hbt : W.heap.size ≤ bt := (M.own _ List.mem_cons_self).resolve_left (by simp)
 have hT : TapeS W bt pt (cut400 xs0).length (cut400 xs0) := tape_new (Ext.refl [] W) hbt hI.bd hmem
 generalize hxs : cut400 xs0 = xs at *
 generalize hlen : xs.length = len at *
 clear hxs hI hmem hcap
 simp only [List.cons_append, List.nil_append] at M
 have E0 := M.ext
 have hS0 : ∀ b ∈ [bt], W.heap.size ≤ b := fun b hb => by simp at hb;rw [hb];exact hbt
 have hTw := hT.later E0.any
 obtain ⟨wb, hwb, M⟩ : ∃ wb, wb = w ∧ Mem [bt] wb w [(bt, tobj pt len cap 0)] := ⟨w, rfl, M.reR [bt] (by simp)⟩
 rw [← hwb] at E0 hTw
 have hbw : bt < wb.heap.size := by rw [hwb];exact M.lt List.mem_cons_self
 clear hwb
 refine sD F (o_assign (F.e rfl) ?_);clear F a;intro a F
 with_reducible refine l_nil (q_then (c_seq (c_region ?_)))
 refine sD F (o_move (F.e rfl) ?_);clear F a;intro a F
 refine sD F (o_call (F.e rfl) (F.evs rfl) (Cal.mono (base_c _ (by first | assumption | omega | exact And.left ‹_› | exact (by assumption : SlAt _ _ _ _ _).later M.ext | exact TapeS.later ‹_› M.ext | exact (SlN.laterB ‹_› (by omega) M.ext).1 | exact M.heap (by repeat constructor) | decide) (by first | assumption | omega | exact And.left ‹_› | exact (by assumption : SlAt _ _ _ _ _).later M.ext | exact TapeS.later ‹_› M.ext | exact (SlN.laterB ‹_› (by omega) M.ext).1 | exact M.heap (by repeat constructor) | decide)) ?_));clear F;clear a;have M0 := M;have zb42 := M0.ext.size;clear M;rintro _ w ⟨x42, k'42, rfl, p42_1, N⟩ a F;replace M := M0.turn1 N (by repeat constructor);clear M0 N
 refine sD F (o_assign (F.e rfl) ?_);clear F a;intro a F
 with_reducible refine l_nil (q_then (c_seq (c_region ?_)))
 refine sD F (o_move (F.e rfl) ?_);clear F a;intro a F
 refine sD F (o_move (F.e rfl) ?_);clear F a;intro a F
 refine sD F (o_call (F.e rfl) (F.evs rfl) (Cal.mono (routesW_c _ (by first | assumption | omega | exact And.left ‹_› | exact (by assumption : SlAt _ _ _ _ _).later M.ext | exact TapeS.later ‹_› M.ext | exact (SlN.laterB ‹_› (by omega) M.ext).1 | exact M.heap (by repeat constructor) | decide) (by first | assumption | omega | exact And.left ‹_› | exact (by assumption : SlAt _ _ _ _ _).later M.ext | exact TapeS.later ‹_› M.ext | exact (SlN.laterB ‹_› (by omega) M.ext).1 | exact M.heap (by repeat constructor) | decide) _ (by first | assumption | omega | exact And.left ‹_› | exact (by assumption : SlAt _ _ _ _ _).later M.ext | exact TapeS.later ‹_› M.ext | exact (SlN.laterB ‹_› (by omega) M.ext).1 | exact M.heap (by repeat constructor) | decide) (by first | assumption | omega | exact And.left ‹_› | exact (by assumption : SlAt _ _ _ _ _).later M.ext | exact TapeS.later ‹_› M.ext | exact (SlN.laterB ‹_› (by omega) M.ext).1 | exact M.heap (by repeat constructor) | decide)) ?_));clear F;clear a;have M0 := M;have zb45 := M0.ext.size;clear M;rintro v45 w ⟨l45, k'45, p45_0, p45_1, N⟩ a F;replace M := M0.turn1 N (by repeat constructor);clear M0 N
 replace hTw := hTw.later M.ext
 replace E0 := (M.unR E0 hS0).ext
 obtain ⟨wb, hwb, M⟩ : ∃ wb, wb = w ∧ Mem [bt] wb w [(bt, tobj pt len cap k'45)] := ⟨w, rfl, M.re (by simp)⟩
 rw [← hwb] at E0 hTw p45_0 
 have hbw : bt < wb.heap.size := by rw [hwb];exact M.lt List.mem_cons_self
 clear hwb
 obtain ⟨l, hl0⟩ : ∃ l, l = l45 := ⟨_, rfl⟩
 rw [← hl0] at p45_0 p45_1
 clear hl0
 refine sD F (o_move (F.e rfl) ?_);clear F a;intro a F
 refine sD F (o_move (F.e rfl) ?_);clear F a;intro a F
 refine sD F (o_call (F.e rfl) (F.evs rfl) (Cal.mono (sourcesW_c _ (by first | assumption | omega | exact And.left ‹_› | exact (by assumption : SlAt _ _ _ _ _).later M.ext | exact TapeS.later ‹_› M.ext | exact (SlN.laterB ‹_› (by omega) M.ext).1 | exact M.heap (by repeat constructor) | decide) (by first | assumption | omega | exact And.left ‹_› | exact (by assumption : SlAt _ _ _ _ _).later M.ext | exact TapeS.later ‹_› M.ext | exact (SlN.laterB ‹_› (by omega) M.ext).1 | exact M.heap (by repeat constructor) | decide) _ (by first | assumption | omega | exact And.left ‹_› | exact (by assumption : SlAt _ _ _ _ _).later M.ext | exact TapeS.later ‹_› M.ext | exact (SlN.laterB ‹_› (by omega) M.ext).1 | exact M.heap (by repeat constructor) | decide) (by first | assumption | omega | exact And.left ‹_› | exact (by assumption : SlAt _ _ _ _ _).later M.ext | exact TapeS.later ‹_› M.ext | exact (SlN.laterB ‹_› (by omega) M.ext).1 | exact M.heap (by repeat constructor) | decide)) ?_));clear F;clear a;have M0 := M;have zb48 := M0.ext.size;clear M;rintro v48 w ⟨l48, k'48, p48_0, N⟩ a F;replace M := M0.turn1 N (by repeat constructor);clear M0 N
 replace p45_0 := p45_0.laterB (by omega) M.ext
 replace hTw := hTw.later M.ext
 replace E0 := (M.unR E0 hS0).ext
 obtain ⟨wb, hwb, M⟩ : ∃ wb, wb = w ∧ Mem [bt] wb w [(bt, tobj pt len cap k'48)] := ⟨w, rfl, M.re (by simp)⟩
 rw [← hwb] at E0 hTw p48_0 p45_0
 have hbw : bt < wb.heap.size := by rw [hwb];exact M.lt List.mem_cons_self
 clear hwb
 obtain ⟨s, hl0⟩ : ∃ s, s = l48 := ⟨_, rfl⟩
 rw [← hl0] at p48_0
 clear hl0
 refine sD F (o_move (F.e rfl) ?_);clear F a;intro a F
 refine sD F (o_call (F.e rfl) (F.evs rfl) (Cal.mono (optionsW_c _ (by first | assumption | omega | exact And.left ‹_› | exact (by assumption : SlAt _ _ _ _ _).later M.ext | exact TapeS.later ‹_› M.ext | exact (SlN.laterB ‹_› (by omega) M.ext).1 | exact M.heap (by repeat constructor) | decide) (by first | assumption | omega | exact And.left ‹_› | exact (by assumption : SlAt _ _ _ _ _).later M.ext | exact TapeS.later ‹_› M.ext | exact (SlN.laterB ‹_› (by omega) M.ext).1 | exact M.heap (by repeat constructor) | decide)) ?_));clear F;clear a;have M0 := M;have zb50 := M0.ext.size;clear M;rintro v50 w ⟨l50, k'50, p50_0, N⟩ a F;replace M := M0.turn1 N (by repeat constructor);clear M0 N
 replace p45_0 := p45_0.laterB (by omega) M.ext
 replace p48_0 := p48_0.laterB (by omega) M.ext
 replace hTw := hTw.later M.ext
 replace E0 := (M.unR E0 hS0).ext
 obtain ⟨wb, hwb, M⟩ : ∃ wb, wb = w ∧ Mem [bt] wb w [(bt, tobj pt len cap k'50)] := ⟨w, rfl, M.re (by simp)⟩
 rw [← hwb] at E0 hTw p50_0 p45_0 p48_0
 have hbw : bt < wb.heap.size := by rw [hwb];exact M.lt List.mem_cons_self
 clear hwb
 obtain ⟨o, hl0⟩ : ∃ o, o = l50 := ⟨_, rfl⟩
 rw [← hl0] at p50_0
 clear hl0
 obtain ⟨ql, cl, rfl, _⟩ := id p45_0.at_.1
 obtain ⟨qs, cs0, rfl, _⟩ := id p48_0.at_.1
 obtain ⟨qo, co, rfl, _⟩ := id p50_0.at_.1
 have hlx := p45_0.is
 have hlv := p45_0.val
 have hsx := p48_0.is
 refine sD F (o_assign (F.e rfl) ?_);clear F a;intro a F
 refine sD F (o_assign (F.e rfl) ?_);clear F a;intro a F
 refine sD F (o_assign (F.e rfl) ?_);clear F a;intro a F
 with_reducible refine l_nil (q_then (c_seq (c_region ?_)))
 refine sD F (o_move (F.e rfl) ?_);clear F a;intro a F
 refine sD F (o_move (F.e rfl) ?_);clear F a;intro a F
 refine sD F (o_move (F.e rfl) ?_);clear F a;intro a F
 (refine sD F (o_call (F.e rfl) (F.evs rfl) (Cal.mono (installedK_c x42 (by omega) (by omega) l hlx hlv _ _ _ (p45_0.at_.laterB (by omega) M.ext) (by omega) (hTw.later M.ext) (M.heap .here) ) ?_));clear F;clear a;have M0 := M;clear M;rintro _ w ⟨old, k3, hO, h7, N⟩ a F)
 have zbs := M0.ext.size
 replace M := M0.turn1 N .here
 clear M0 N
 have hox : ∀ x ∈ old, IsIn x := fun x hx => (hO.ok x hx).1
 obtain ⟨qi, ci, rfl, _⟩ := id hO.at_.1
 have hi := hO.at_
 clear hO
 replace p45_0 := p45_0.laterB (by omega) M.ext
 replace p48_0 := p48_0.laterB (by omega) M.ext
 replace p50_0 := p50_0.laterB (by omega) M.ext
 replace hTw := hTw.later M.ext
 replace E0 := (M.unR E0 hS0).ext
 obtain ⟨wb, hwb, M⟩ : ∃ wb, wb = w ∧ Mem [bt] wb w [(bt, tobj pt len cap k3)] := ⟨w, rfl, M.re (by simp)⟩
 rw [← hwb] at E0 hTw hi p45_0 p48_0 p50_0
 have hbw : bt < wb.heap.size := by rw [hwb];exact M.lt List.mem_cons_self
 clear hwb
 have hl := p45_0.at_
 have hss := p48_0.at_
 have ho := p50_0.at_
 have hno1 := hl.notIn (bt := bt) (by omega)
 have hno2 := hi.notIn (bt := bt) (by omega)
 refine sD F (o_assign (F.e rfl) ?_);clear F a;intro a F
 with_reducible refine l_nil (q_then (c_seq (c_region ?_)))
 refine sD F (o_move (F.e rfl) ?_);clear F a;intro a F
 refine sD F (o_move (F.e rfl) ?_);clear F a;intro a F
 (refine sD F (o_call (F.e rfl) (F.evs rfl) (Cal.mono (wtimeE_c x42 (by omega) (by omega) _ (hTw.later M.ext) (M.heap .here) ) ?_));clear F;clear a;have M0 := M;clear M;rintro _ w ⟨tm, k4, rfl, _, N⟩ a F)
 replace M := M0.turn1 N .here
 clear M0 N
 refine sD F (o_assign (F.e rfl) ?_);clear F a;intro a F
 with_reducible refine l_nil (q_then (c_seq (c_region ?_)))
 refine sD F (o_move (F.e rfl) ?_);clear F a;intro a F
 refine sD F (o_move (F.e rfl) ?_);clear F a;intro a F
 refine sD F (o_move (F.e rfl) ?_);clear F a;intro a F
 refine sD F (o_move (F.e rfl) ?_);clear F a;intro a F
 refine sD F (o_move (F.e rfl) ?_);clear F a;intro a F
 (refine sD F (o_call (F.e rfl) (F.evs rfl) (Cal.mono (selects_c tm l hlx (by omega) s hsx o old hox (by omega) _ _ _ _ _ (hl.laterB (by omega) M.ext).1 (hss.laterB (by omega) M.ext).1 (ho.laterB (by omega) M.ext).1 (hi.laterB (by omega) M.ext).1) ?_));clear F;clear a;rintro _ w ⟨rfl, hE⟩ a F;replace M := M.later hE;clear hE)
 refine sD F (o_move (F.e rfl) ?_);clear F a;intro a F
 refine sG F (o_move (F.e rfl) ?_);clear F a;intro a F
 refine sG F (o_move (F.e rfl) ?_);clear F a;intro a F
 refine sG F (o_move (F.e rfl) ?_);clear F a;intro a F
 refine sG F (o_move (F.e rfl) ?_);clear F a;intro a F
 (refine sG F (o_call (F.e rfl) (F.evs rfl) (Cal.mono (selects_c tm l hlx (by omega) [] (by simp) o old hox (by omega) _ _ _ _ _ (hl.laterB (by omega) M.ext).1 (SlAt.nil _ _) (ho.laterB (by omega) M.ext).1 (hi.laterB (by omega) M.ext).1) ?_));clear F;clear a;rintro _ w ⟨rfl, hE⟩ a F;replace M := M.later hE;clear hE)
 refine sD F (o_pickT (F.e rfl) (F.e rfl) ?_);clear F a;intro a F
 refine sD F (o_move (F.e rfl) ?_);clear F a;intro a F
 refine sG F (o_move (F.e rfl) ?_);clear F a;intro a F
 refine sG F (o_move (F.e rfl) ?_);clear F a;intro a F
 refine sG F (o_move (F.e rfl) ?_);clear F a;intro a F
 refine sG F (o_move (F.e rfl) ?_);clear F a;intro a F
 refine sG F (o_move (F.e rfl) ?_);clear F a;intro a F
 (refine sG F (o_call (F.e rfl) (F.evs rfl) (Cal.mono (selects_c now rl hrl (by omega) rs hrs ro ri hri (by omega) _ _ _ _ _ (hS1.later (M.unR E0 hS0).ext) (hS2.later (M.unR E0 hS0).ext) (hS3.later (M.unR E0 hS0).ext) (hS4.later (M.unR E0 hS0).ext)) ?_));clear F;clear a;rintro _ w ⟨rfl, hE⟩ a F;replace M := M.later hE;clear hE)
 refine sD F (o_pickT (F.e rfl) (F.e rfl) ?_);clear F a;intro a F
 refine sD F (o_move (F.e rfl) ?_);clear F a;intro a F
 refine sG F (o_move (F.e rfl) ?_);clear F a;intro a F
 refine sG F (o_move (F.e rfl) ?_);clear F a;intro a F
 refine sG F (o_move (F.e rfl) ?_);clear F a;intro a F
 refine sG F (o_move (F.e rfl) ?_);clear F a;intro a F
 refine sG F (o_move (F.e rfl) ?_);clear F a;intro a F
 refine sG F (o_move (F.e rfl) ?_);clear F a;intro a F
 (refine sG F (o_call (F.e rfl) (F.evs rfl) (Cal.mono (spoiledI_c old hox (by omega) _ _ ((hi.laterB (by omega) M.ext).1) hno2 (hTw.later M.ext) (M.heap .here)) ?_));clear F;clear a;have M0 := M;clear M;rintro _ w ⟨za, kza, hza, hxa, hna, N⟩ a F)
 replace M := M0.turn1 N .here
 clear M0 N
 obtain ⟨qza, cza, rfl, _⟩ := id hza.1
 skip
 (refine sG F (o_call (F.e rfl) (F.evs rfl) (Cal.mono (selects_c tm l hlx (by omega) s hsx o za hxa (by omega) _ _ _ _ _ (hl.laterB (by omega) M.ext).1 (hss.laterB (by omega) M.ext).1 (ho.laterB (by omega) M.ext).1 hza.1) ?_));clear F;clear a;rintro _ w ⟨rfl, hE⟩ a F;replace M := M.later hE;clear hE)
 refine sD F (o_pickT (F.e rfl) (F.e rfl) ?_);clear F a;intro a F
 refine sD F (o_move (F.e rfl) ?_);clear F a;intro a F
 refine sG F (o_move (F.e rfl) ?_);clear F a;intro a F
 refine sG F (o_move (F.e rfl) ?_);clear F a;intro a F
 refine sG F (o_move (F.e rfl) ?_);clear F a;intro a F
 (refine sG F (o_call (F.e rfl) (F.evs rfl) (Cal.mono (spoiledR_c l hlx (by omega) _ _ ((hl.laterB (by omega) M.ext).1) hno1 (hTw.later M.ext) (M.heap .here)) ?_));clear F;clear a;have M0 := M;clear M;rintro _ w ⟨zb, kzb, hzb, hxb, hnb, N⟩ a F)
 replace M := M0.turn1 N .here
 clear M0 N
 obtain ⟨qzb, czb, rfl, _⟩ := id hzb.1
 refine sG F (o_move (F.e rfl) ?_);clear F a;intro a F
 refine sG F (o_move (F.e rfl) ?_);clear F a;intro a F
 refine sG F (o_move (F.e rfl) ?_);clear F a;intro a F
 (refine sG F (o_call (F.e rfl) (F.evs rfl) (Cal.mono (selects_c tm zb hxb (by omega) s hsx o old hox (by omega) _ _ _ _ _ hzb.1 (hss.laterB (by omega) M.ext).1 (ho.laterB (by omega) M.ext).1 (hi.laterB (by omega) M.ext).1) ?_));clear F;clear a;rintro _ w ⟨rfl, hE⟩ a F;replace M := M.later hE;clear hE)
 refine sD F (o_pickT (F.e rfl) (F.e rfl) ?_);clear F a;intro a F
 refine sD F (o_move (F.e rfl) ?_);clear F a;intro a F
 refine sG F (o_move (F.e rfl) ?_);clear F a;intro a F
 refine sG F (o_move (F.e rfl) ?_);clear F a;intro a F
 refine sG F (o_move (F.e rfl) ?_);clear F a;intro a F
 refine sG F (o_move (F.e rfl) ?_);clear F a;intro a F
 refine sG F (o_move (F.e rfl) ?_);clear F a;intro a F
 (refine sG F (o_call (F.e rfl) (F.evs rfl) (Cal.mono (selects_c now l hlx (by omega) s hsx o old hox (by omega) _ _ _ _ _ (hl.laterB (by omega) M.ext).1 (hss.laterB (by omega) M.ext).1 (ho.laterB (by omega) M.ext).1 (hi.laterB (by omega) M.ext).1) ?_));clear F;clear a;rintro _ w ⟨rfl, hE⟩ a F;replace M := M.later hE;clear hE)
 refine sD F (o_pickT (F.e rfl) (F.e rfl) ?_);clear F a;intro a F
 refine sD F (o_move (F.e rfl) ?_);clear F a;intro a F
 refine sG F (o_move (F.e rfl) ?_);clear F a;intro a F
 refine sG F (o_move (F.e rfl) ?_);clear F a;intro a F
 refine sG F (o_move (F.e rfl) ?_);clear F a;intro a F
 refine sG F (o_move (F.e rfl) ?_);clear F a;intro a F
 refine sG F (o_move (F.e rfl) ?_);clear F a;intro a F
 (refine sG F (o_call (F.e rfl) (F.evs rfl) (Cal.mono (selects_c tm l hlx (by omega) s hsx ro ri hri (by omega) _ _ _ _ _ (hl.laterB (by omega) M.ext).1 (hss.laterB (by omega) M.ext).1 (hS3.later (M.unR E0 hS0).ext) (hS4.later (M.unR E0 hS0).ext)) ?_));clear F;clear a;rintro _ w ⟨rfl, hE⟩ a F;replace M := M.later hE;clear hE)
 refine sD F (o_pickT (F.e rfl) (F.e rfl) ?_);clear F a;intro a F
 refine sD F (o_move (F.e rfl) ?_);clear F a;intro a F
 (refine sG F (o_call (F.e rfl) (F.evs rfl) (Cal.mono (known3_c _) ?_));clear F;clear a;rintro _ w ⟨rfl, hE⟩ a F;replace M := M.later hE;clear hE)
 refine sD F (o_pickT (F.e rfl) (F.e rfl) ?_);clear F a;intro a F
 refine sD F (o_assign (F.e rfl) ?_);clear F a;intro a F
 with_reducible refine l_nil (q_then (c_ret ?_))
 refine p_ret F rfl (.cons (.tmp (F.e rfl)) .nil) ?_
 exact ⟨rfl, (M.unR E0 hS0).ext⟩
end Go.Proofs.YtilgoepokaaleaaGreat
namespace Go.Proofs.YtilgoepokaaleaaGreat
set_option linter.unusedVariables false
set_option linter.unusedSimpArgs false
open Go.ChangeShapes Go.WideShapes Go.ChangeAt Go.RowKit
set_option maxRecDepth 100000 in
theorem routesSelects_contract (H : Type) (enc : TypeId × Value → H) (W : World) (base : Nat) (args : Array Value) (ds gs : List (DataW H)) (before : List MemPlace)
  (hval : ∀ (j : Nat) t v, Tryz.f6.params[j]? = some t → args[j]? = some v → Value.okWide Tryz.prog W .any base t v)
  (hW : DataW.Whole enc Tryz.prog Tryz.f6.params.toList Rows.routesSelectsSpec.vars false W args.toList ds gs before) (hL : laidMetH Tryz.prog seatLaid W) (hS : W.ShapedOpen Tryz.prog) :
  Calls Tryz.prog 6 args W fun e W' => ∃ v, e = .returned v ∧ Rows.routesSelectsSpec.post enc Tryz.prog Tryz.f6 false true false false W args v W' := by
 have hW' := hW
 obtain ⟨p, q, hA0, hV, rfl, hfz, hnd⟩ := hW
 have hA : DataW.TrodAll enc Tryz.prog W 0 (fun _ => true) true Tryz.f6.params.toList args.toList ds p := hA0
 rw [Tryz.params6] at hA hval
 obtain ⟨v0, vs0, d0, ds0, p0, q0, hargs, rfl, rfl, h0, r0⟩ := trodAll_cons hA
 obtain ⟨v1, vs1, d1, ds1, p1, q1, rfl, rfl, rfl, h1, r1⟩ := trodAll_cons r0
 obtain ⟨v2, vs2, d2, ds2, p2, q2, rfl, rfl, rfl, h2, r2⟩ := trodAll_cons r1
 obtain ⟨v3, vs3, d3, ds3, p3, q3, rfl, rfl, rfl, h3, r3⟩ := trodAll_cons r2
 obtain ⟨v4, vs4, d4, ds4, p4, q4, rfl, rfl, rfl, h4, r4⟩ := trodAll_cons r3
 obtain ⟨v5, vs5, d5, ds5, p5, q5, rfl, rfl, rfl, h5, r5⟩ := trodAll_cons r4
 obtain ⟨rfl, rfl, rfl⟩ := trodAll_nil r5
 obtain rfl : args = #[v0, v1, v2, v3, v4, v5] := by cases args;simp_all
 obtain ⟨l0, q0p, cap0, rfl, hc0, hx0⟩ := open_il (hval 0 _ v0 rfl rfl) h0
 obtain ⟨x1, rfl, rfl, rfl, w1⟩ := open_int Tryz.underlying3 (hval 1 _ v1 rfl rfl) h1;have hx1 := int_bd w1
 obtain ⟨l2, hx2, hs2⟩ := open_ros (hval 2 _ v2 rfl rfl) h2
 obtain ⟨l3, hx3, hs3⟩ := open_srs (hval 3 _ v3 rfl rfl) h3
 obtain ⟨l4, hx4, hs4⟩ := open_ops (hval 4 _ v4 rfl rfl) h4
 obtain ⟨l5, hx5, hs5⟩ := open_ins (hval 5 _ v5 rfl rfl) h5
 refine ((selectsL_c q0p cap0 l0 x1 l2 hx2 l3 hx3 l4 l5 hx5 v2 v3 v4 v5 W hx0 hc0 hs2 hs3 hs4 hs5).calls).mono ?_
 rintro e W' ⟨v, rfl, rfl, hE⟩
 exact ⟨_, rfl, law_post (tb := 4) laidOut (by kernel_rfl) rfl (by kernel_rfl) Tryz.underlying4 (fun xs hx => by rw [Tryz.params6] at hx;match xs, hx with | [_, _, _, _, _, _], _ => rfl) hW' hE⟩
set_option maxRecDepth 100000 in
theorem routesSelects_lifted (os : Os) (started : os.Started) (H : Type) (enc : TypeId × Value → H) (F : Stop.Interp) :
  ReturnsInHanded {} Tryz.checked os 6 .any ((OpenSpec.ofChange Rows.routesSelectsSpec).preRow enc Tryz.prog Tryz.f6 Rows.routesSelectsRow.domain false Rows.routesSelectsRow.laid) (((OpenSpec.ofChange Rows.routesSelectsSpec).at F).post enc Tryz.prog Tryz.f6 false true false false) := by
 have hx : ∃ places ds, DataW.whole enc Tryz.prog ((laidWorld os).forCall (fun _ _ => 0) ⟨#[], #[.slice none 0 0, .int .i64 0, .slice none 0 0, .slice none 0 0, .slice none 0 0, .slice none 0 0], []⟩).memory Tryz.f6.params.toList Rows.routesSelectsSpec.vars false #[Value.slice none 0 0, .int .i64 0, .slice none 0 0, .slice none 0 0, .slice none 0 0, .slice none 0 0].toList 8 = some (ds, [], places) ∧ ds = [.nil, .lit (.int .i64 0), .nil, .nil, .nil, .nil] := ⟨[], [.nil, .lit (.int .i64 0), .nil, .nil, .nil, .nil], by kernel_rfl, rfl⟩
 obtain ⟨places, ds, hx, rfl⟩ := hx
 refine returnsInHanded_of_row (C := Tryz.checked) (s := OpenSpec.ofChange Rows.routesSelectsSpec) own started (by kernel_rfl) Tryz.func6
  (witness_row_at (enc := enc) (C := Tryz.checked) false (laidWorld os) #[.slice none 0 0, .int .i64 0, .slice none 0 0, .slice none 0 0, .slice none 0 0, .slice none 0 0] rfl (by kernel_rfl) (by kernel_rfl) (by kernel_rfl)
   (OpenSpec.preRow_of_cond 8 hx (by kernel_rfl) (fun k hk => by cases hk) (by kernel_rfl) (laid_met os _))) ?_
 intro W base args ds gs before hval hW _ hcond _ hL hS _
 exact routesSelects_contract H enc W base args ds gs before hval hW hL hS
theorem routesSelects_said : Rows.RoutesSelectsSaid :=
 OpenClaim.holds_of_cond 6 Tryz.f6 rfl rfl rfl rfl rfl rfl rfl ⟨rfl, rfl, rfl, rfl, rfl⟩ rfl rfl rfl rfl rfl (by kernel_rfl) Tryz.func6 (by kernel_rfl)
  (of_decide_eq_true (by kernel_rfl)) (by unfold Func.isWrapper;first | (rw [if_pos (by decide +kernel)];kernel_rfl) | (rw [if_neg (by decide +kernel)];exact ⟨rfl, rfl⟩))
  (fun os started H enc _ F => by rw [OpenClaim.pre_eq_preRow];exact routesSelects_lifted os started H enc F)
#print axioms routesSelects_said
end Go.Proofs.YtilgoepokaaleaaGreat

/-
  Texts joined: H1, UOpen, UOpen2, LibT, Y0, Y1, Y2, Y3, Y4, UOpen3.
-/
import Derived.Test.YtilgoepokaaleaaForms2
/-! H1 -/
namespace Go.Proofs.Ytilgoepokaaleaa
set_option linter.unusedVariables false
set_option linter.unusedSimpArgs false
open Go.RowKit
section
set_option linter.unusedVariables false
set_option linter.unusedSimpArgs false
open Go.RowKit
attribute [local irreducible] OpTo wpListIn Code.wpIn MW Cal
theorem xor8_bd (m n : Int) : 0 ≤ bitsOf .xor .u8 m n ∧ bitsOf .xor .u8 m n < 256 := by
  unfold bitsOf
  simp only [IntKind.wrap, IntKind.signed, IntKind.bits, Bool.false_and, Bool.false_eq_true, if_false]
  omega
theorem nextE_c {bt : Nat} {p : Option Addr} {len cap k : Nat} {xs : List Int} (n : Int) (hn : 0 < n) (hn2 : n ≤ 9223372036854775807) (W : World) (hT : TapeS W bt p len xs) (hb : W.heap[bt]? = some (tobj p len cap k)) :
    Cal Try.prog 22 [.pointer (some ⟨bt, 0, none⟩), .int .i64 n].toArray W fun v w' => ∃ x k', v = .int .i64 x ∧ (0 ≤ x ∧ x < n) ∧ Mem [bt] W w' [(bt, tobj p len cap k')] :=
  Cal.mono (next_c n hn hn2 W hT hb) fun _ _ h => ⟨_, _, h.1, nxV_bd _ _ hn, h.2⟩
theorem boolE_c {bt : Nat} {p : Option Addr} {len cap k : Nat} {xs : List Int} (n : Int) (hn : 0 < n) (hn2 : n ≤ 9223372036854775807) (W : World) (hT : TapeS W bt p len xs) (hb : W.heap[bt]? = some (tobj p len cap k)) :
    Cal Try.prog 21 [.pointer (some ⟨bt, 0, none⟩), .int .i64 n].toArray W fun v w' => ∃ x k', v = .bool x ∧ Mem [bt] W w' [(bt, tobj p len cap k')] :=
  Cal.mono (bool_c n hn hn2 W hT hb) fun _ _ h => ⟨_, _, h.1, h.2⟩
theorem eui_c {bt : Nat} {p : Option Addr} {len cap k : Nat} {xs : List Int} (W : World) (hT : TapeS W bt p len xs) (hb : W.heap[bt]? = some (tobj p len cap k)) :
    Cal Try.prog 54 [.pointer (some ⟨bt, 0, none⟩)].toArray W fun v w' => ∃ x k', v = .int .u64 x ∧ (1 ≤ x ∧ x ≤ 5) ∧ Mem [bt] W w' [(bt, tobj p len cap k')] := by
  refine fn_ofM (n := 7) [bt] Try.func54 rfl rfl rfl ?_
  intro a w F M hwW
  replace M := M.came hwW hb (by simp) (by simp)
  with_reducible refine c_seq ?_
  with_reducible refine c_region ?_
  refine stepD rfl F rfl (o_assign (F.ev rfl) ?_); clear F; clear a; intro a F
  with_reducible refine l_nil ?_
  with_reducible refine q_then ?_
  with_reducible refine c_seq ?_
  with_reducible refine c_region ?_
  refine stepD rfl F rfl (o_move (F.ev rfl) ?_); clear F; clear a; intro a F
  (refine stepD rfl F rfl (o_call (F.ev rfl) (F.evs rfl) (Cal.mono (nextE_c 5 (by omega) (by omega) _ (hT.later M.ext) (M.heap .here) ) ?_)); clear F; clear a; have M0 := M; clear M; rintro _ w ⟨x, k', rfl, hx, N⟩ a F)
  replace M := M0.turn1 N .here
  refine stepD rfl F rfl (o_add (F.ev rfl) (F.ev rfl) (w_i64 (by omega) (by omega)) ?_); clear F; clear a; intro a F
  refine stepD rfl F rfl (o_conv (F.ev rfl) (w_u64 (by omega) (by omega)) ?_); clear F; clear a; intro a F
  refine stepD rfl F rfl (o_assign (F.ev rfl) ?_); clear F; clear a; intro a F
  with_reducible refine l_nil ?_
  with_reducible refine q_then ?_
  with_reducible refine c_ret ?_
  refine p_ret F rfl (.cons (.tmp (F.ev rfl)) .nil) ?_
  exact ⟨1 + x, k', rfl, by omega, M⟩
def isTime (t : Int) : Bool := decide (0 ≤ t) && decide (t ≤ 1099511627776)
def laterV (a d : Int) : Int := if 1099511627776 < a + d then 1099511627776 else a + d
theorem bytesCompare_c {v u : Value} {n m : Nat} {xs ys : List Int} (W : World) (h : SlAt W 1 v n (ipC xs)) (k : SlAt W 1 u m (ipC ys)) (hx : ∀ x ∈ xs, 0 ≤ x ∧ x < 256) (hy : ∀ x ∈ ys, 0 ≤ x ∧ x < 256) :
    Cal Try.prog 93 [v, u].toArray W fun x w' => x = .int .i64 (cmpL xs ys) ∧ Ext [] W w' := by
  refine fn_ofM (n := 8) [] Try.func93 rfl rfl rfl ?_
  intro a w F M hwW
  with_reducible refine c_seq ?_
  with_reducible refine c_region ?_
  refine stepD rfl F rfl (o_assign (F.ev rfl) ?_); clear F; clear a; intro a F
  with_reducible refine l_nil ?_
  with_reducible refine q_then ?_
  with_reducible refine c_seq ?_
  with_reducible refine c_region ?_
  refine stepD rfl F rfl (o_move (F.ev rfl) ?_); clear F; clear a; intro a F
  refine stepD rfl F rfl (o_move (F.ev rfl) ?_); clear F; clear a; intro a F
  (refine stepD rfl F rfl (o_entry (F.ev rfl) Try.func122 (by kernel_rfl) (by kernel_rfl) (by kernel_rfl) (e := Extern.BytealgCompare.compare) (by kernel_rfl) (F.evs rfl) (run_compare (h.later M.ext) (k.later M.ext) hx hy) ?_); clear F; clear a; intro a F)
  refine stepD rfl F rfl (o_assign (F.ev rfl) ?_); clear F; clear a; intro a F
  with_reducible refine l_nil ?_
  with_reducible refine q_then ?_
  with_reducible refine c_ret ?_
  refine p_ret F rfl (.cons (.tmp (F.ev rfl)) .nil) ?_
  exact ⟨rfl, M.ext⟩
def overlapP (p : List Int) (n : Int) (q : List Int) (m : Int) : Bool := coversP p n q m || coversP q m p n
end
section
set_option linter.unusedVariables false
set_option linter.unusedSimpArgs false
open Go.RowKit
attribute [local irreducible] OpTo wpListIn Code.wpIn MW Cal
structure Lease where
  ip : List Int
  bits : Int
  own : Int
  til : Int
end
section
set_option linter.unusedVariables false
set_option linter.unusedSimpArgs false
open Go.RowKit
attribute [local irreducible] OpTo wpListIn Code.wpIn MW Cal
end
section
set_option linter.unusedVariables false
set_option linter.unusedSimpArgs false
open Go.RowKit
attribute [local irreducible] OpTo wpListIn Code.wpIn MW Cal
structure LeaseOk (p : List Int) (n : Int) (l : Lease) : Prop where
  ip : IsIP l.ip
  own0 : l.own ≠ 0
  own1 : 0 ≤ l.own ∧ l.own ≤ 18446744073709551615
  til : isTime l.til = true
  bits : l.bits ≤ 64
  cov : coversP p n l.ip l.bits = true
structure PoolOk (p : List Int) (n : Int) (ls : List Lease) : Prop where
  ip : IsIP p
  pre : validP p n = true
  bits : n ≤ 64
  len : ls.length ≤ 64
  each : ∀ l ∈ ls, LeaseOk p n l
  pw : ls.Pairwise fun x y => cmpL x.ip y.ip < 0 ∧ overlapP x.ip x.bits y.ip y.bits = false
end
section
set_option linter.unusedVariables false
set_option linter.unusedSimpArgs false
open Go.RowKit
attribute [local irreducible] OpTo wpListIn Code.wpIn MW Cal
end
section
set_option linter.unusedVariables false
set_option linter.unusedSimpArgs false
open Go.RowKit
attribute [local irreducible] OpTo wpListIn Code.wpIn MW Cal
theorem PoolOk.filter {p : List Int} {n : Int} {ls : List Lease} (h : PoolOk p n ls) (f : Lease → Bool) : PoolOk p n (ls.filter f) :=
  ⟨h.ip, h.pre, h.bits, Nat.le_trans (List.length_filter_le _ _) h.len, fun l hl => h.each l (List.mem_filter.1 hl).1, h.pw.filter _⟩
end
section
set_option linter.unusedVariables false
set_option linter.unusedSimpArgs false
open Go.RowKit
attribute [local irreducible] OpTo wpListIn Code.wpIn MW Cal
theorem filter_take_succ {α : Type} (f : α → Bool) {ls : List α} {i : Nat} (hi : i < ls.length) : (ls.take (i + 1)).filter f = (ls.take i).filter f ++ if f ls[i] then [ls[i]] else [] := by
  rw [List.take_add_one, List.getElem?_eq_getElem hi, List.filter_append]
  congr 1
  simp only [Option.toList_some, List.filter_cons, List.filter_nil]
end
section
set_option linter.unusedVariables false
set_option linter.unusedSimpArgs false
open Go.RowKit
structure PInf where
  ip : List Int
  bits : Int
  onl : Bool
  aut : Bool
  life : Int
  deriving DecidableEq
def piC (o : PInf) : List Value := pfC o.ip o.bits ++ ([.bool o.onl, .bool o.aut, .int .u32 o.life])
def IsPi (o : PInf) : Prop := IsIP o.ip
abbrev pisC (l : List PInf) : List Value := encL piC l
structure CInf where
  id : Int
  ip : List Int
  bits : Int
  cmp : Bool
  life : Int
  deriving DecidableEq
def ciC (o : CInf) : List Value := [.int .i64 o.id] ++ (pfC o.ip o.bits ++ ([.bool o.cmp, .int .u16 o.life]))
def IsCi (o : CInf) : Prop := IsIP o.ip
abbrev cisC (l : List CInf) : List Value := encL ciC l
structure OffH where
  rt : List Int
  ver : Int
  til : Int
  deriving DecidableEq
def ofC (o : OffH) (ps : Value) (cs : Value) : List Value := ipC o.rt ++ ([.int .i64 o.ver, .int .i64 o.til, ps, cs])
def IsOf (o : OffH) : Prop := IsIP o.rt
end
section
set_option linter.unusedVariables false
set_option linter.unusedSimpArgs false
open Go.RowKit
attribute [local irreducible] OpTo wpListIn Code.wpIn MW Cal
/-- an offer -/
structure Off where
  h : OffH
  ps : List PInf
  cs : List CInf
  deriving DecidableEq
def IsOff (o : Off) : Prop := IsOf o.h ∧ (∀ p ∈ o.ps, IsPi p) ∧ ∀ c ∈ o.cs, IsCi c
/-- .. with the values of its lists -/
structure OV where
  o : Off
  u : Value
  v : Value
def ovC (x : OV) : List Value := ofC x.o.h x.u x.v
def OffAt (W : World) (x : OV) : Prop := SlAt W 20 x.u x.o.ps.length (pisC x.o.ps) ∧ SlAt W 20 x.v x.o.cs.length (cisC x.o.cs)
theorem OffAt.later {W w : World} {x : OV} (h : OffAt W x) (E : Ext [] W w) : OffAt w x := ⟨h.1.later E, h.2.later E⟩
end
section
set_option linter.unusedVariables false
set_option linter.unusedSimpArgs false
open Go.RowKit
attribute [local irreducible] OpTo wpListIn Code.wpIn MW Cal
theorem risTime_c (t : Int) (W : World) : Cal Try.prog 84 [.int .i64 t].toArray W fun v w' => v = .bool (isTime t) ∧ Ext [] W w' := by
  unfold isTime
  by_cases h : 0 ≤ t
  · rw [decide_eq_true h, Bool.true_and]
    refine fn_ofM (n := 9) [] Try.func84 rfl rfl rfl ?_
    intro a w F M hwW
    with_reducible refine c_seq ?_
    with_reducible refine c_region ?_
    refine stepD rfl F rfl (o_assign (F.ev rfl) ?_); clear F; clear a; intro a F
    with_reducible refine l_nil ?_
    with_reducible refine q_then ?_
    with_reducible refine c_seq ?_
    with_reducible refine c_region ?_
    refine stepD rfl F rfl (o_move (F.ev rfl) ?_); clear F; clear a; intro a F
    refine stepD rfl F rfl (o_geqT (F.ev rfl) (F.ev rfl) (by omega) ?_); clear F; clear a; intro a F
    refine stepD rfl F rfl (o_move (F.ev rfl) ?_); clear F; clear a; intro a F
    refine stepG rfl F rfl rfl rfl (o_move (F.ev rfl) ?_); clear F; clear a; intro a F
    refine stepG rfl F rfl rfl rfl (o_leq (F.ev rfl) (F.ev rfl) ?_); clear F; clear a; intro a F
    refine stepD rfl F rfl (o_pickT (F.ev rfl) (F.ev rfl) ?_); clear F; clear a; intro a F
    refine stepD rfl F rfl (o_assign (F.ev rfl) ?_); clear F; clear a; intro a F
    with_reducible refine l_nil ?_
    with_reducible refine q_then ?_
    with_reducible refine c_ret ?_
    refine p_ret F rfl (.cons (.tmp (F.ev rfl)) .nil) ?_
    exact ⟨rfl, M.ext⟩
  · rw [decide_eq_false h, Bool.false_and]
    refine fn_ofM (n := 9) [] Try.func84 rfl rfl rfl ?_
    intro a w F M hwW
    with_reducible refine c_seq ?_
    with_reducible refine c_region ?_
    refine stepD rfl F rfl (o_assign (F.ev rfl) ?_); clear F; clear a; intro a F
    with_reducible refine l_nil ?_
    with_reducible refine q_then ?_
    with_reducible refine c_seq ?_
    with_reducible refine c_region ?_
    refine stepD rfl F rfl (o_move (F.ev rfl) ?_); clear F; clear a; intro a F
    refine stepD rfl F rfl (o_geqF (F.ev rfl) (F.ev rfl) (by omega) ?_); clear F; clear a; intro a F
    refine stepD rfl F rfl (o_move (F.ev rfl) ?_); clear F; clear a; intro a F
    refine stepOff F rfl rfl rfl rfl ?_; clear F; clear a; intro a F
    refine stepOff F rfl rfl rfl rfl ?_; clear F; clear a; intro a F
    refine stepD rfl F rfl (o_pickF (F.ev rfl) (F.ev rfl) ?_); clear F; clear a; intro a F
    refine stepD rfl F rfl (o_assign (F.ev rfl) ?_); clear F; clear a; intro a F
    with_reducible refine l_nil ?_
    with_reducible refine q_then ?_
    with_reducible refine c_ret ?_
    refine p_ret F rfl (.cons (.tmp (F.ev rfl)) .nil) ?_
    exact ⟨rfl, M.ext⟩
theorem rafter_c (a d : Int) (h0 : 0 ≤ a) (h1 : a ≤ 1099511627776) (d0 : 0 ≤ d) (d1 : d ≤ 1099511627776) (W : World) : Cal Try.prog 85 [.int .i64 a, .int .i64 d].toArray W fun v w' => v = .int .i64 (laterV a d) ∧ Ext [] W w' := by
  refine fn_ofM (n := 9) [] Try.func85 rfl rfl rfl ?_
  intro a w F M hwW
  with_reducible refine c_seq ?_
  with_reducible refine c_region ?_
  refine stepD rfl F rfl (o_assign (F.ev rfl) ?_); clear F; clear a; intro a F
  with_reducible refine l_nil ?_
  with_reducible refine q_then ?_
  with_reducible refine c_seq ?_
  with_reducible refine c_region ?_
  refine stepD rfl F rfl (o_move (F.ev rfl) ?_); clear F; clear a; intro a F
  refine stepD rfl F rfl (o_move (F.ev rfl) ?_); clear F; clear a; intro a F
  refine stepD rfl F rfl (o_add (F.ev rfl) (F.ev rfl) (w_i64 (by omega) (by omega)) ?_); clear F; clear a; intro a F
  refine stepD rfl F rfl (o_min (F.ev rfl) (F.ev rfl) ?_); clear F; clear a; intro a F
  refine stepD rfl F rfl (o_assign (F.ev rfl) ?_); clear F; clear a; intro a F
  with_reducible refine l_nil ?_
  with_reducible refine q_then ?_
  with_reducible refine c_ret ?_
  refine p_ret F rfl (.cons (.tmp (F.ev rfl)) .nil) ?_
  exact ⟨rfl, M.ext⟩
theorem cmpL_drop {p q : List Int} : ∀ (i : Nat), i ≤ p.length → p.length = q.length → (∀ j, j < i → p.getD j 0 = q.getD j 0) → cmpL p q = cmpL (p.drop i) (q.drop i)
  | 0, _, _, _ => by simp
  | i + 1, h1, h2, h => by
    rw [cmpL_drop i (by omega) h2 fun j hj => h j (by omega), List.drop_eq_getElem_cons (show i < p.length by omega), List.drop_eq_getElem_cons (show i < q.length by omega)]
    have := h i (by omega)
    simp only [List.getD_eq_getElem?_getD, List.getElem?_eq_getElem (show i < p.length by omega), List.getElem?_eq_getElem (show i < q.length by omega), Option.getD_some] at this
    simp [cmpL, this]
theorem cmpL_step {p q : List Int} {i : Nat} (h1 : i < p.length) (h2 : p.length = q.length) (h : ∀ j, j < i → p.getD j 0 = q.getD j 0) : cmpL p q = if p.getD i 0 < q.getD i 0 then -1 else if q.getD i 0 < p.getD i 0 then 1 else cmpL (p.drop (i + 1)) (q.drop (i + 1)) := by
  rw [cmpL_drop i (by omega) h2 h, List.drop_eq_getElem_cons (show i < p.length by omega), List.drop_eq_getElem_cons (show i < q.length by omega)]
  simp [cmpL, List.getD_eq_getElem?_getD, List.getElem?_eq_getElem (show i < p.length by omega), List.getElem?_eq_getElem (show i < q.length by omega)]
set_option maxHeartbeats 1000000 in
theorem rcompareIP_c (p q : List Int) (hp : IsIP p) (hq : IsIP q) (W : World) : Cal Try.prog 125 [.agg (ipC p).toArray, .agg (ipC q).toArray].toArray W fun x w' => x = .int .i64 (cmpL p q) ∧ Ext [] W w' := by
  have l1 := hp.len
  have l2 := hq.len
  refine fn_ofM (n := 24) [] Try.func125 rfl rfl rfl ?_
  intro a w F M hwW
  refine c_seq ?_
  refine c_region ?_
  (refine stepD rfl F rfl (o_box M (F.ev rfl) rfl ?_); clear F; clear M; intro b2 w M a F)
  (refine stepD rfl F rfl (o_box M (F.ev rfl) rfl ?_); clear F; clear M; intro b3 w M a F)
  refine stepD rfl F rfl (o_assign (F.ev rfl) ?_); clear F; clear a; intro a F
  with_reducible refine l_nil ?_
  with_reducible refine q_then ?_
  with_reducible refine c_seq ?_
  with_reducible refine c_seq ?_
  with_reducible refine c_region ?_
  refine stepD rfl F rfl (o_assign (F.ev rfl) ?_); clear F; clear a; intro a F
  with_reducible refine l_nil ?_
  with_reducible refine q_then ?_
  with_reducible refine c_block ?_
  refine c_loop (fun m a w => ∃ i : Nat, m = 16 - i ∧ i ≤ 16 ∧ (∀ j, j < i → p.getD j 0 = q.getD j 0) ∧ Frm a 24 [] [(5, .int .i64 i), (3, .pointer (some ⟨b3, 0, none⟩)), (2, .pointer (some ⟨b2, 0, none⟩))] ∧ Mem [] W w [(b3, .cells (ipC q).toArray 41 (0, 0)), (b2, .cells (ipC p).toArray 41 (0, 0))]) 16 ⟨0, rfl, by omega, by omega, F.only [5, 3, 2] rfl, M⟩ ?_
  clear F M
  rintro m a w ⟨i, hm, hi, hv, F, M⟩
  by_cases hlt : i < 16
  · have hst := cmpL_step (by omega) (by omega) hv
    have f1 : nth (ipC p) (0 + (i : Int).toNat * 1) = some (.int .u8 (p.getD i 0)) := nth_ip2 hp hlt (by omega)
    have f2 : nth (ipC q) (0 + (i : Int).toNat * 1) = some (.int .u8 (q.getD i 0)) := nth_ip2 hq hlt (by omega)
    with_reducible refine c_seq ?_
    with_reducible refine c_seq ?_
    with_reducible refine c_region ?_
    refine stepD rfl F rfl (o_move (F.ev rfl) ?_); clear F; clear a; intro a F
    refine stepD rfl F rfl (o_lssT (F.ev rfl) (F.ev rfl) (by omega) ?_); clear F; clear a; intro a F
    with_reducible refine l_nil ?_
    with_reducible refine q_then ?_
    refine c_true F rfl rfl ?_
    with_reducible refine c_skip ?_
    with_reducible refine q_then ?_
    with_reducible refine c_seq ?_
    with_reducible refine c_block ?_
    with_reducible refine c_seq ?_
    with_reducible refine c_seq ?_
    replace F := F.only [5, 3, 2] rfl
    by_cases c1 : p.getD i 0 < q.getD i 0
    · rw [if_pos c1] at hst
      rw [hst]
      refine c_draw 7 F (by kernel_rfl) ?_
      intro w1 hE hok
      have M1 := M.later hE
      refine mK hok rfl rfl (fun a' w' F' E' => o_move (F'.ev rfl) ⟨Ext.refl _ _, rfl⟩) ?_
      refine mK hok rfl rfl (fun a' w' F' E' => o_indexArr (F'.ev rfl) (F'.ev rfl) (by omega) (by omega) ⟨Ext.refl _ _, rfl⟩) ?_
      refine mK hok rfl rfl (fun a' w' F' E' => o_load1 (M1.later E') (F'.ev rfl) (by repeat (first | exact .here | apply Has.there)) (by first | assumption | rfl) ⟨Ext.refl _ _, rfl⟩) ?_
      refine mK hok rfl rfl (fun a' w' F' E' => o_move (F'.ev rfl) ⟨Ext.refl _ _, rfl⟩) ?_
      refine mK hok rfl rfl (fun a' w' F' E' => o_indexArr (F'.ev rfl) (F'.ev rfl) (by omega) (by omega) ⟨Ext.refl _ _, rfl⟩) ?_
      refine mK hok rfl rfl (fun a' w' F' E' => o_load1 (M1.later E') (F'.ev rfl) (by repeat (first | exact .here | apply Has.there)) (by first | assumption | rfl) ⟨Ext.refl _ _, rfl⟩) ?_
      refine mK hok rfl rfl (fun a' w' F' E' => o_lssT (F'.ev rfl) (F'.ev rfl) (by omega) ⟨Ext.refl _ _, rfl⟩) ?_
      (refine mDone rfl rfl ?_; clear F; clear M; intro a w F hE2 hX hTT hDD hPP; have M := M1.later hE2; clear M1; clear hX; clear hE2; clear hok; clear hE; clear hTT; clear hDD; clear hPP; (try dsimp only at F))
      with_reducible refine l_nil ?_
      with_reducible refine q_then ?_
      refine c_true F rfl rfl ?_
      with_reducible refine c_seq ?_
      with_reducible refine c_region ?_
      refine stepD rfl F rfl (o_assign (F.ev rfl) ?_); clear F; clear a; intro a F
      with_reducible refine l_nil ?_
      with_reducible refine q_then ?_
      with_reducible refine c_ret ?_
      with_reducible refine q_thenR ?_
      with_reducible refine q_inBR ?_
      with_reducible refine q_thenR ?_
      with_reducible refine q_thenR ?_
      with_reducible refine q_inBR ?_
      with_reducible refine q_thenR ?_
      refine p_ret F rfl (.cons (.tmp (F.ev rfl)) .nil) ?_
      exact ⟨rfl, M.ext⟩
    · rw [if_neg c1] at hst
      refine c_draw 7 F (by kernel_rfl) ?_
      intro w1 hE hok
      have M1 := M.later hE
      refine mK hok rfl rfl (fun a' w' F' E' => o_move (F'.ev rfl) ⟨Ext.refl _ _, rfl⟩) ?_
      refine mK hok rfl rfl (fun a' w' F' E' => o_indexArr (F'.ev rfl) (F'.ev rfl) (by omega) (by omega) ⟨Ext.refl _ _, rfl⟩) ?_
      refine mK hok rfl rfl (fun a' w' F' E' => o_load1 (M1.later E') (F'.ev rfl) (by repeat (first | exact .here | apply Has.there)) (by first | assumption | rfl) ⟨Ext.refl _ _, rfl⟩) ?_
      refine mK hok rfl rfl (fun a' w' F' E' => o_move (F'.ev rfl) ⟨Ext.refl _ _, rfl⟩) ?_
      refine mK hok rfl rfl (fun a' w' F' E' => o_indexArr (F'.ev rfl) (F'.ev rfl) (by omega) (by omega) ⟨Ext.refl _ _, rfl⟩) ?_
      refine mK hok rfl rfl (fun a' w' F' E' => o_load1 (M1.later E') (F'.ev rfl) (by repeat (first | exact .here | apply Has.there)) (by first | assumption | rfl) ⟨Ext.refl _ _, rfl⟩) ?_
      refine mK hok rfl rfl (fun a' w' F' E' => o_lssF (F'.ev rfl) (F'.ev rfl) (by omega) ⟨Ext.refl _ _, rfl⟩) ?_
      (refine mDone rfl rfl ?_; clear F; clear M; intro a w F hE2 hX hTT hDD hPP; have M := M1.later hE2; clear M1; clear hX; clear hE2; clear hok; clear hE; clear hTT; clear hDD; clear hPP; (try dsimp only at F))
      with_reducible refine l_nil ?_
      with_reducible refine q_then ?_
      refine c_false F rfl rfl ?_
      with_reducible refine c_skip ?_
      with_reducible refine q_then ?_
      with_reducible refine c_seq ?_
      replace F := F.only [5, 3, 2] rfl
      by_cases c2 : q.getD i 0 < p.getD i 0
      · rw [if_pos c2] at hst
        rw [hst]
        refine c_draw 7 F (by kernel_rfl) ?_
        intro w1 hE hok
        have M1 := M.later hE
        refine mK hok rfl rfl (fun a' w' F' E' => o_move (F'.ev rfl) ⟨Ext.refl _ _, rfl⟩) ?_
        refine mK hok rfl rfl (fun a' w' F' E' => o_indexArr (F'.ev rfl) (F'.ev rfl) (by omega) (by omega) ⟨Ext.refl _ _, rfl⟩) ?_
        refine mK hok rfl rfl (fun a' w' F' E' => o_load1 (M1.later E') (F'.ev rfl) (by repeat (first | exact .here | apply Has.there)) (by first | assumption | rfl) ⟨Ext.refl _ _, rfl⟩) ?_
        refine mK hok rfl rfl (fun a' w' F' E' => o_move (F'.ev rfl) ⟨Ext.refl _ _, rfl⟩) ?_
        refine mK hok rfl rfl (fun a' w' F' E' => o_indexArr (F'.ev rfl) (F'.ev rfl) (by omega) (by omega) ⟨Ext.refl _ _, rfl⟩) ?_
        refine mK hok rfl rfl (fun a' w' F' E' => o_load1 (M1.later E') (F'.ev rfl) (by repeat (first | exact .here | apply Has.there)) (by first | assumption | rfl) ⟨Ext.refl _ _, rfl⟩) ?_
        refine mK hok rfl rfl (fun a' w' F' E' => o_gtrT (F'.ev rfl) (F'.ev rfl) (by omega) ⟨Ext.refl _ _, rfl⟩) ?_
        (refine mDone rfl rfl ?_; clear F; clear M; intro a w F hE2 hX hTT hDD hPP; have M := M1.later hE2; clear M1; clear hX; clear hE2; clear hok; clear hE; clear hTT; clear hDD; clear hPP; (try dsimp only at F))
        with_reducible refine l_nil ?_
        with_reducible refine q_then ?_
        refine c_true F rfl rfl ?_
        with_reducible refine c_seq ?_
        with_reducible refine c_region ?_
        refine stepD rfl F rfl (o_assign (F.ev rfl) ?_); clear F; clear a; intro a F
        with_reducible refine l_nil ?_
        with_reducible refine q_then ?_
        with_reducible refine c_ret ?_
        with_reducible refine q_inBR ?_
        with_reducible refine q_thenR ?_
        with_reducible refine q_thenR ?_
        with_reducible refine q_inBR ?_
        with_reducible refine q_thenR ?_
        refine p_ret F rfl (.cons (.tmp (F.ev rfl)) .nil) ?_
        exact ⟨rfl, M.ext⟩
      · refine c_draw 7 F (by kernel_rfl) ?_
        intro w1 hE hok
        have M1 := M.later hE
        refine mK hok rfl rfl (fun a' w' F' E' => o_move (F'.ev rfl) ⟨Ext.refl _ _, rfl⟩) ?_
        refine mK hok rfl rfl (fun a' w' F' E' => o_indexArr (F'.ev rfl) (F'.ev rfl) (by omega) (by omega) ⟨Ext.refl _ _, rfl⟩) ?_
        refine mK hok rfl rfl (fun a' w' F' E' => o_load1 (M1.later E') (F'.ev rfl) (by repeat (first | exact .here | apply Has.there)) (by first | assumption | rfl) ⟨Ext.refl _ _, rfl⟩) ?_
        refine mK hok rfl rfl (fun a' w' F' E' => o_move (F'.ev rfl) ⟨Ext.refl _ _, rfl⟩) ?_
        refine mK hok rfl rfl (fun a' w' F' E' => o_indexArr (F'.ev rfl) (F'.ev rfl) (by omega) (by omega) ⟨Ext.refl _ _, rfl⟩) ?_
        refine mK hok rfl rfl (fun a' w' F' E' => o_load1 (M1.later E') (F'.ev rfl) (by repeat (first | exact .here | apply Has.there)) (by first | assumption | rfl) ⟨Ext.refl _ _, rfl⟩) ?_
        refine mK hok rfl rfl (fun a' w' F' E' => o_gtrF (F'.ev rfl) (F'.ev rfl) (by omega) ⟨Ext.refl _ _, rfl⟩) ?_
        (refine mDone rfl rfl ?_; clear F; clear M; intro a w F hE2 hX hTT hDD hPP; have M := M1.later hE2; clear M1; clear hX; clear hE2; clear hok; clear hE; clear hTT; clear hDD; clear hPP; (try dsimp only at F))
        with_reducible refine l_nil ?_
        with_reducible refine q_then ?_
        refine c_false F rfl rfl ?_
        with_reducible refine c_skip ?_
        with_reducible refine q_inB ?_
        with_reducible refine q_then ?_
        with_reducible refine c_region ?_
        refine stepD rfl F rfl (o_move (F.ev rfl) ?_); clear F; clear a; intro a F
        refine stepD rfl F rfl (o_add (F.ev rfl) (F.ev rfl) (w_i64 (by omega) (by omega)) ?_); clear F; clear a; intro a F
        refine stepD rfl F rfl (o_assign (F.ev rfl) ?_); clear F; clear a; intro a F
        with_reducible refine l_nil ?_
        with_reducible refine q_then ?_
        exact ⟨_, by omega, i + 1, rfl, by omega, fun j hj => by
          rcases Nat.lt_or_ge j i with h1 | h1
          · exact hv j h1
          · obtain rfl : j = i := by omega
            omega, F.only [5, 3, 2] rfl, M⟩
  · obtain rfl : i = 16 := by omega
    have : cmpL p q = 0 := by rw [cmpL_drop 16 (by omega) (by omega) hv, List.drop_eq_nil_of_le (by omega), List.drop_eq_nil_of_le (by omega)]; rfl
    rw [this]
    with_reducible refine c_seq ?_
    with_reducible refine c_seq ?_
    with_reducible refine c_region ?_
    refine stepD rfl F rfl (o_move (F.ev rfl) ?_); clear F; clear a; intro a F
    refine stepD rfl F rfl (o_lssF (F.ev rfl) (F.ev rfl) (by omega) ?_); clear F; clear a; intro a F
    with_reducible refine l_nil ?_
    with_reducible refine q_then ?_
    refine c_false F rfl rfl ?_
    with_reducible refine c_exit ?_
    with_reducible refine q_thenX ?_
    with_reducible refine q_thenX ?_
    with_reducible refine q_inBX ?_
    with_reducible refine q_then ?_
    with_reducible refine c_seq ?_
    with_reducible refine c_region ?_
    refine stepD rfl F rfl (o_assign (F.ev rfl) ?_); clear F; clear a; intro a F
    with_reducible refine l_nil ?_
    with_reducible refine q_then ?_
    with_reducible refine c_ret ?_
    refine p_ret F rfl (.cons (.tmp (F.ev rfl)) .nil) ?_
    exact ⟨rfl, M.ext⟩
end
section
set_option linter.unusedVariables false
set_option linter.unusedSimpArgs false
open Go.RowKit
attribute [local irreducible] OpTo wpListIn Code.wpIn MW Cal
def insO (o : Off) : List Off → Option (List Off)
  | [] => some [o]
  | y :: ys =>
    if cmpL y.h.rt o.h.rt < 0 then (insO o ys).map (y :: ·)
    else if cmpL y.h.rt o.h.rt = 0 then
      (if o.h.ver < y.h.ver then none else if y.h.ver = o.h.ver then some ({ y with h := { y.h with til := if y.h.til < o.h.til then o.h.til else y.h.til } } :: ys) else some (o :: ys))
    else some (o :: y :: ys)
def Asc (os : List Off) : Prop := os.Pairwise fun a b => cmpL a.h.rt b.h.rt < 0
theorem Asc.filter {os : List Off} (h : Asc os) (f : Off → Bool) : Asc (os.filter f) := List.Pairwise.filter _ h
def OffsAt (W : World) (s : Value) (os : List Off) : Prop := ∃ zs : List OV, zs.map (·.o) = os ∧ SlAt W 20 s zs.length (encL ovC zs) ∧ ∀ z ∈ zs, OffAt W z
theorem OffsAt.nil (W : World) : OffsAt W (.slice none 0 0) [] := ⟨[], rfl, SlAt.nil W 20, by simp⟩
theorem OffsAt.later {W w : World} {s : Value} {os : List Off} (h : OffsAt W s os) (E : Ext [] W w) : OffsAt w s os := by
  obtain ⟨zs, h1, h2, h3⟩ := h
  exact ⟨zs, h1, h2.later E, fun z hz => (h3 z hz).later E⟩
/-- .. in new memory -/
def OffsN (n0 : Nat) (W : World) (s : Value) (os : List Off) : Prop := ∃ zs : List OV, zs.map (·.o) = os ∧ SlAt W 20 s zs.length (encL ovC zs) ∧ (∀ z ∈ zs, OffAt W z) ∧ NewV n0 s ∧ ∀ z ∈ zs, NewV n0 z.u ∧ NewV n0 z.v
theorem OffsN.nil (n0 : Nat) (W : World) : OffsN n0 W (.slice none 0 0) [] := ⟨[], rfl, SlAt.nil W 20, by simp, NewV.nil _ _ _, by simp⟩
theorem OffsN.at {n0 : Nat} {W : World} {s : Value} {os : List Off} (h : OffsN n0 W s os) : OffsAt W s os := by
  obtain ⟨zs, h1, h2, h3, _⟩ := h
  exact ⟨zs, h1, h2, h3⟩
end
section
set_option linter.unusedVariables false
set_option linter.unusedSimpArgs false
open Go.RowKit
attribute [local irreducible] OpTo wpListIn Code.wpIn MW Cal
/-- how far the reference has come -/
def Pl (o : Off) (placed : Bool) (out pre rest : List Off) : Prop :=
  if placed then insO o (pre ++ rest) = some (out ++ rest) ∧ ∀ y ∈ rest, 0 < cmpL y.h.rt o.h.rt
  else out = pre ∧ ∀ y ∈ pre, cmpL y.h.rt o.h.rt < 0
theorem insO_pre {o : Off} : ∀ {pre : List Off} (r : List Off), (∀ y ∈ pre, cmpL y.h.rt o.h.rt < 0) → insO o (pre ++ r) = (insO o r).map (pre ++ ·)
  | [], r, _ => by simp
  | y :: pre, r, h => by
    have ih := insO_pre r fun z hz => h z (List.mem_cons_of_mem _ hz)
    simp only [List.cons_append, insO, if_pos (h y List.mem_cons_self), ih, Option.map_map]
    rfl
theorem cmpL_pos {a b c : List Int} (h1 : 0 ≤ cmpL a c) (h2 : cmpL a b < 0) : 0 < cmpL b c := by
  rcases Int.lt_trichotomy (cmpL b c) 0 with h | h | h
  · exact absurd (cmpL_lt_trans h2 h) (by omega)
  · rw [cmpL_zero h] at h2; omega
  · exact h
theorem Pl.new {o y : Off} {out pre rest : List Off} (h : Pl o false out pre (y :: rest)) (ha : Asc (y :: rest)) (hk : cmpL y.h.rt o.h.rt = 0) (hv : ¬ o.h.ver < y.h.ver) (hv2 : ¬ y.h.ver = o.h.ver) : Pl o true (out ++ [o]) (pre ++ [y]) rest := by
  simp only [Pl, Bool.false_eq_true, if_false, if_true] at *
  refine ⟨?_, fun z hz => cmpL_pos (by omega) ((List.pairwise_cons.1 ha).1 z hz)⟩
  rw [List.append_assoc, insO_pre _ h.2, h.1]
  simp [insO, hk, hv, hv2]
theorem Pl.on {o y : Off} {out pre rest : List Off} (h : Pl o true out pre (y :: rest)) : Pl o true (out ++ [y]) (pre ++ [y]) rest := by
  simp only [Pl, if_true] at *
  exact ⟨by simpa using h.1, fun z hz => h.2 z (List.mem_cons_of_mem _ hz)⟩
end
section
set_option linter.unusedVariables false
set_option linter.unusedSimpArgs false
open Go.RowKit
attribute [local irreducible] OpTo wpListIn Code.wpIn MW Cal
theorem base_c {bt : Nat} {p : Option Addr} {len cap k : Nat} {xs : List Int} (W : World) (hT : TapeS W bt p len xs) (hb : W.heap[bt]? = some (tobj p len cap k)) :
    Cal Try.prog 11 [.pointer (some ⟨bt, 0, none⟩)].toArray W fun v w' => ∃ x k', v = .int .i64 x ∧ (0 ≤ x ∧ x ≤ 1099511627776) ∧ Mem [bt] W w' [(bt, tobj p len cap k')] := by
  refine fn_ofM (n := 16) [bt] Try.func11 rfl rfl rfl ?_
  intro a w F M hwW
  replace M := M.came hwW hb (by simp) (by simp)
  with_reducible refine c_seq ?_
  with_reducible refine c_region ?_
  refine stepD rfl F rfl (o_assign (F.ev rfl) ?_); clear F; clear a; intro a F
  with_reducible refine l_nil ?_
  with_reducible refine q_then ?_
  with_reducible refine c_seq ?_
  with_reducible refine c_seq ?_
  with_reducible refine c_region ?_
  refine stepD rfl F rfl (o_move (F.ev rfl) ?_); clear F; clear a; intro a F
  (refine stepD rfl F rfl (o_call (F.ev rfl) (F.evs rfl) (Cal.mono (nextE_c 6 (by omega) (by omega) _ (hT.later M.ext) (M.heap .here) ) ?_)); clear F; clear a; have M0 := M; clear M; rintro _ w ⟨x, k', rfl, hx, N⟩ a F)
  replace M := M0.turn1 N .here
  clear M0
  by_cases c1 : x = 0
  · with_reducible refine l_nil ?_
    with_reducible refine q_then ?_
    with_reducible refine c_block ?_
    with_reducible refine c_seq ?_
    with_reducible refine c_region ?_
    refine stepD rfl F rfl (o_eqlT (F.ev rfl) (F.ev rfl) (by omega) ?_); clear F; clear a; intro a F
    refine stepD rfl F rfl (o_assign (F.ev rfl) ?_); clear F; clear a; intro a F
    with_reducible refine l_nil ?_
    with_reducible refine q_then ?_
    refine c_true F rfl rfl ?_
    with_reducible refine c_seq ?_
    with_reducible refine c_region ?_
    refine stepD rfl F rfl (o_move (F.ev rfl) ?_); clear F; clear a; intro a F
    (refine stepD rfl F rfl (o_call (F.ev rfl) (F.evs rfl) (Cal.mono (nextE_c 5 (by omega) (by omega) _ (hT.later M.ext) (M.heap .here) ) ?_)); clear F; clear a; have M0 := M; clear M; rintro _ w ⟨x2, k2, rfl, hx2, N⟩ a F)
    replace M := M0.turn1 N .here
    refine stepD rfl F rfl (o_assign (F.ev rfl) ?_); clear F; clear a; intro a F
    with_reducible refine l_nil ?_
    with_reducible refine q_then ?_
    with_reducible refine c_ret ?_
    with_reducible refine q_inBR ?_
    with_reducible refine q_thenR ?_
    refine p_ret F rfl (.cons (.tmp (F.ev rfl)) .nil) ?_
    exact ⟨_, k2, rfl, by omega, M⟩
  by_cases c2 : x = 1
  · with_reducible refine l_nil ?_
    with_reducible refine q_then ?_
    with_reducible refine c_block ?_
    with_reducible refine c_seq ?_
    with_reducible refine c_region ?_
    refine stepD rfl F rfl (o_eqlF (F.ev rfl) (F.ev rfl) (by omega) ?_); clear F; clear a; intro a F
    refine stepD rfl F rfl (o_assign (F.ev rfl) ?_); clear F; clear a; intro a F
    with_reducible refine l_nil ?_
    with_reducible refine q_then ?_
    refine c_false F rfl rfl ?_
    with_reducible refine c_seq ?_
    with_reducible refine c_region ?_
    refine stepD rfl F rfl (o_eqlT (F.ev rfl) (F.ev rfl) (by omega) ?_); clear F; clear a; intro a F
    refine stepD rfl F rfl (o_assign (F.ev rfl) ?_); clear F; clear a; intro a F
    with_reducible refine l_nil ?_
    with_reducible refine q_then ?_
    refine c_true F rfl rfl ?_
    with_reducible refine c_seq ?_
    with_reducible refine c_region ?_
    refine stepD rfl F rfl (o_move (F.ev rfl) ?_); clear F; clear a; intro a F
    (refine stepD rfl F rfl (o_call (F.ev rfl) (F.evs rfl) (Cal.mono (nextE_c 40 (by omega) (by omega) _ (hT.later M.ext) (M.heap .here) ) ?_)); clear F; clear a; have M0 := M; clear M; rintro _ w ⟨x2, k2, rfl, hx2, N⟩ a F)
    replace M := M0.turn1 N .here
    refine stepD rfl F rfl (o_sub (F.ev rfl) (F.ev rfl) (w_i64 (by omega) (by omega)) ?_); clear F; clear a; intro a F
    refine stepD rfl F rfl (o_assign (F.ev rfl) ?_); clear F; clear a; intro a F
    with_reducible refine l_nil ?_
    with_reducible refine q_then ?_
    with_reducible refine c_ret ?_
    with_reducible refine q_inBR ?_
    with_reducible refine q_thenR ?_
    refine p_ret F rfl (.cons (.tmp (F.ev rfl)) .nil) ?_
    exact ⟨_, k2, rfl, by omega, M⟩
  · with_reducible refine l_nil ?_
    with_reducible refine q_then ?_
    with_reducible refine c_block ?_
    with_reducible refine c_seq ?_
    with_reducible refine c_region ?_
    refine stepD rfl F rfl (o_eqlF (F.ev rfl) (F.ev rfl) (by omega) ?_); clear F; clear a; intro a F
    refine stepD rfl F rfl (o_assign (F.ev rfl) ?_); clear F; clear a; intro a F
    with_reducible refine l_nil ?_
    with_reducible refine q_then ?_
    refine c_false F rfl rfl ?_
    with_reducible refine c_seq ?_
    with_reducible refine c_region ?_
    refine stepD rfl F rfl (o_eqlF (F.ev rfl) (F.ev rfl) (by omega) ?_); clear F; clear a; intro a F
    refine stepD rfl F rfl (o_assign (F.ev rfl) ?_); clear F; clear a; intro a F
    with_reducible refine l_nil ?_
    with_reducible refine q_then ?_
    refine c_false F rfl rfl ?_
    with_reducible refine c_skip ?_
    with_reducible refine q_inB ?_
    with_reducible refine q_then ?_
    with_reducible refine c_seq ?_
    with_reducible refine c_region ?_
    refine stepD rfl F rfl (o_move (F.ev rfl) ?_); clear F; clear a; intro a F
    (refine stepD rfl F rfl (o_call (F.ev rfl) (F.evs rfl) (Cal.mono (nextE_c 1000 (by omega) (by omega) _ (hT.later M.ext) (M.heap .here) ) ?_)); clear F; clear a; have M0 := M; clear M; rintro _ w ⟨x2, k2, rfl, hx2, N⟩ a F)
    replace M := M0.turn1 N .here
    refine stepD rfl F rfl (o_assign (F.ev rfl) ?_); clear F; clear a; intro a F
    with_reducible refine l_nil ?_
    with_reducible refine q_then ?_
    with_reducible refine c_ret ?_
    refine p_ret F rfl (.cons (.tmp (F.ev rfl)) .nil) ?_
    exact ⟨_, k2, rfl, by omega, M⟩
end
section
set_option linter.unusedVariables false
set_option linter.unusedSimpArgs false
open Go.RowKit
attribute [local irreducible] OpTo wpListIn Code.wpIn MW Cal
def wip0 (xs : List Int) (k : Nat) : List Int := [32, 1, 13, 184, 0, nxV xs k 2, nxV xs (nxK xs k) 2, 0, 0, 0, 0, 0, 0, 0, 0, nxV xs (nxK xs (nxK xs k)) 6]
def wip4 (xs : List Int) (k : Nat) : Nat := nxK xs (nxK xs (nxK xs (nxK xs k)))
def wipV (xs : List Int) (k : Nat) : List Int := if boolV xs (nxK xs (nxK xs (nxK xs k))) 9 then (wip0 xs k).set (nxV xs (wip4 xs k) 16).toNat (bitsOf .xor .u8 ((wip0 xs k).getD (nxV xs (wip4 xs k) 16).toNat 0) (IntKind.u8.wrap (1 * 2 ^ min (nxV xs (nxK xs (wip4 xs k)) 8).toNat IntKind.u8.bits))) else wip0 xs k
def wipK (xs : List Int) (k : Nat) : Nat := if boolV xs (nxK xs (nxK xs (nxK xs k))) 9 then nxK xs (nxK xs (wip4 xs k)) else wip4 xs k
theorem wip0_is (xs : List Int) (k : Nat) : IsIP (wip0 xs k) := by
  have h1 := nxV_bd xs k (n := 2) (by omega)
  have h2 := nxV_bd xs (nxK xs k) (n := 2) (by omega)
  have h3 := nxV_bd xs (nxK xs (nxK xs k)) (n := 6) (by omega)
  exact ⟨rfl, by intro x hx; simp [wip0] at hx; omega⟩
theorem wipV_is (xs : List Int) (k : Nat) : IsIP (wipV xs k) := by
  unfold wipV
  split
  · exact (wip0_is xs k).set _ (xor8_bd _ _).1 (xor8_bd _ _).2
  · exact wip0_is xs k
set_option maxHeartbeats 1000000 in
theorem wipD_c {bt : Nat} {p : Option Addr} {len cap k : Nat} {xs : List Int} (W : World) (hT : TapeS W bt p len xs) (hb : W.heap[bt]? = some (tobj p len cap k)) :
    Cal Try.prog 27 [.pointer (some ⟨bt, 0, none⟩)].toArray W fun v w' => v = .agg (ipC (wipV xs k)).toArray ∧ Mem [bt] W w' [(bt, tobj p len cap (wipK xs k))] := by
  refine fn_ofM (n := 28) [bt] Try.func27 rfl rfl rfl ?_
  intro a w F M hwW
  replace M := M.came hwW hb (by simp) (by simp)
  refine c_seq ?_
  refine c_region ?_
  (refine stepD rfl F rfl (o_alloc M ?_); clear F; clear M; intro b2 w M a F)
  with_reducible refine l_nil ?_
  with_reducible refine q_then ?_
  with_reducible refine c_seq ?_
  with_reducible refine c_region ?_
  refine stepD rfl F rfl (o_move (F.ev rfl) ?_); clear F; clear a; intro a F
  (refine stepD rfl F rfl (o_call (F.ev rfl) (F.evs rfl) (Cal.mono (next_c 2 (by omega) (by omega) _ (hT.later M.ext) (M.heap (.there .here)) ) ?_)); clear F; clear a; have M0 := M; clear M; rintro _ w ⟨rfl, N⟩ a F)
  have hx1 := nxV_bd xs k (n := 2) (by omega)
  replace M := M0.turn1 N (.there .here)
  refine stepD rfl F rfl (o_conv (F.ev rfl) (w_u8 (by omega) (by omega)) ?_); clear F; clear a; intro a F
  refine stepD rfl F rfl (o_move (F.ev rfl) ?_); clear F; clear a; intro a F
  (refine stepD rfl F rfl (o_call (F.ev rfl) (F.evs rfl) (Cal.mono (next_c 2 (by omega) (by omega) _ (hT.later M.ext) (M.heap (.there .here)) ) ?_)); clear F; clear a; have M0 := M; clear M; rintro _ w ⟨rfl, N⟩ a F)
  have hx2 := nxV_bd xs (nxK xs k) (n := 2) (by omega)
  replace M := M0.turn1 N (.there .here)
  refine stepD rfl F rfl (o_conv (F.ev rfl) (w_u8 (by omega) (by omega)) ?_); clear F; clear a; intro a F
  refine stepD rfl F rfl (o_build F rfl rfl ?_); clear F; clear a; intro a F
  (refine stepD rfl F rfl (o_alloc M ?_); clear F; clear M; intro b3 w M a F)
  (refine stepN rfl F (o_storeA M (F.ev rfl) (F.ev rfl) (by rfl) (by rfl) (by repeat (first | exact .here | apply Has.there)) (by rfl) (by repeat (first | exact .here | apply Upd.there)) ?_); clear F; clear M; intro w M a F)
  with_reducible refine l_nil ?_
  with_reducible refine q_then ?_
  with_reducible refine c_seq ?_
  with_reducible refine c_region ?_
  refine stepD rfl F rfl (o_move (F.ev rfl) ?_); clear F; clear a; intro a F
  (refine stepD rfl F rfl (o_call (F.ev rfl) (F.evs rfl) (Cal.mono (next_c 6 (by omega) (by omega) _ (hT.later M.ext) (M.heap (.there (.there .here))) ) ?_)); clear F; clear a; have M0 := M; clear M; rintro _ w ⟨rfl, N⟩ a F)
  have hx3 := nxV_bd xs (nxK xs (nxK xs k)) (n := 6) (by omega)
  replace M := M0.turn1 N (.there (.there .here))
  refine stepD rfl F rfl (o_conv (F.ev rfl) (w_u8 (by omega) (by omega)) ?_); clear F; clear a; intro a F
  refine stepD rfl F rfl (o_indexArr (F.ev rfl) (F.ev rfl) (by omega) (by omega) ?_); clear F; clear a; intro a F
  (refine stepN rfl F (o_store1 M (F.ev rfl) (F.ev rfl) rfl (by repeat (first | exact .here | apply Has.there)) (by rfl) (by repeat (first | exact .here | apply Upd.there)) ?_); clear F; clear M; intro w M a F)
  with_reducible refine l_nil ?_
  with_reducible refine q_then ?_
  with_reducible refine c_seq ?_
  with_reducible refine c_seq ?_
  with_reducible refine c_region ?_
  refine stepD rfl F rfl (o_move (F.ev rfl) ?_); clear F; clear a; intro a F
  obtain ⟨ip, hipd, hip, M⟩ : ∃ ip, ip = wip0 xs k ∧ IsIP ip ∧ Mem [bt] W w [(bt, tobj p len cap (nxK xs (nxK xs (nxK xs k)))), (b3, .cells (ipC ip).toArray 41 (0, 0)), (b2, .cells (ipC [0, 0, 0, 0, 0, 0, 0, 0, 0, 0, 0, 0, 0, 0, 0, 0]).toArray 41 (0, 0))] :=
    ⟨wip0 xs k, rfl, ⟨rfl, by intro x hx; simp [wip0] at hx; omega⟩, M.perm ((List.Perm.refl _).trans (List.perm_append_comm (l₁ := [_, _]) (l₂ := [_])))⟩
  (refine stepD rfl F rfl (o_call (F.ev rfl) (F.evs rfl) (Cal.mono (bool_c 9 (by omega) (by omega) _ (hT.later M.ext) (M.heap .here) ) ?_)); clear F; clear a; have M0 := M; clear M; rintro _ w ⟨rfl, N⟩ a F)
  replace M := M0.turn1 N .here
  clear M0
  have e0 : seg (ipC ip) 0 16 = some (ipC ip) := seg_all (ipC_len hip.len)
  rw [show nxK xs (nxK xs (nxK xs (nxK xs k))) = wip4 xs k from rfl] at M
  obtain ⟨k4, hk4⟩ : ∃ k4, k4 = wip4 xs k := ⟨_, rfl⟩
  rw [← hk4] at M
  cases hc : boolV xs (nxK xs (nxK xs (nxK xs k))) 9
  all_goals rw [hc] at F
  · with_reducible refine l_nil ?_
    with_reducible refine q_then ?_
    refine c_false F rfl rfl ?_
    with_reducible refine c_skip ?_
    with_reducible refine q_then ?_
    with_reducible refine c_seq ?_
    with_reducible refine c_region ?_
    refine stepD rfl F rfl (o_loadA M (F.ev rfl) (by repeat (first | exact .here | apply Has.there)) (by first | assumption | rfl) ?_); clear F; clear a; intro a F
    (refine stepN rfl F (o_storeA M (F.ev rfl) (F.ev rfl) (ipC_len hip.len) (one_ip _)  (by repeat (first | exact .here | apply Has.there))  (put_all (by rw [ipC_len hip.len]; rfl)) (by repeat (first | exact .here | apply Upd.there)) ?_); clear F; clear M; intro w M a F)
    with_reducible refine l_nil ?_
    with_reducible refine q_then ?_
    with_reducible refine c_ret ?_
    exact p_ret F rfl (.cons (.cell (F.ev rfl) (run_loadVar_agg TAgg.h (M.heap (.there (.there .here))) e0)) .nil) ⟨by rw [show wipV xs k = ip by rw [hipd]; unfold wipV; rw [if_neg (by simp [hc])]]; rfl, by rw [show wipK xs k = k4 by rw [hk4]; unfold wipK; rw [if_neg (by simp [hc])]]; exact M.sub (.cons_cons _ (.cons _ (.cons _ (.refl _))))⟩
  · replace F := F.only [0, 2, 3, 16] rfl
    have v1 := nxV_bd xs k4 (n := 16) (by omega)
    have v2 := nxV_bd xs (nxK xs k4) (n := 8) (by omega)
    have hib := hip.at_ (nxV xs k4 16).toNat
    have h1 : nth (ipC ip) (0 + (nxV xs k4 16).toNat * 1) = some (.int .u8 (ip.getD (nxV xs k4 16).toNat 0)) := nth_ip2 hip (by omega) (by omega)
    with_reducible refine l_nil ?_
    with_reducible refine q_then ?_
    refine c_true F rfl rfl ?_
    refine c_drawB (l0 := [(bt, tobj p len cap k4)]) [bt] [1, 5] M 9 F (by kernel_rfl) ?_
    intro w1 M1 hok hef
    have hB : ∀ k ∈ [bt], k ∈ ([(bt, tobj p len cap k4)] : List (Nat × Obj)).map (·.1) := by simp
    have hTw : ∀ w', Ext [bt] w1 w' → TapeS w' bt p len xs := fun w' E => hT.later (M1.ext.trans (E.mono (by simp)))
    refine mK hok rfl rfl (fun a' w' F' E' => o_move (F'.ev rfl) ⟨Ext.refl _ _, rfl⟩) ?_
    refine mE (T' := fun _ w => Mem _ _ w ([(bt, tobj p len cap (nxK xs k4))] ++ _)) hok rfl rfl (fun _ _ _ h k => h.later k) (fun a' w' σ' F' E' T' => o_call (F'.ev rfl) (F'.evs rfl) (Cal.mono (next_c 16 (by omega) (by omega) _ (hTw _ E') (T'.heap .here)) fun _ _ hh => ⟨hh.2.ext, hh.1, Mem.turn1 T' hh.2 .here⟩)) ?_
    refine mK hok rfl rfl (fun a' w' F' E' => o_indexArr (F'.ev rfl) (F'.ev rfl) (by omega) (by omega) ⟨Ext.refl _ _, rfl⟩) ?_
    refine mK hok rfl rfl (fun a' w' F' E' => o_load1 (M1.laterBut E' hB) (F'.ev rfl) (by repeat (first | exact .here | apply Has.there)) (by first | assumption | rfl) ⟨Ext.refl _ _, rfl⟩) ?_
    refine mK hok rfl rfl (fun a' w' F' E' => o_move (F'.ev rfl) ⟨Ext.refl _ _, rfl⟩) ?_
    refine mE (T' := fun _ w => Mem _ _ w ([(bt, tobj p len cap (nxK xs (nxK xs k4)))] ++ _)) hok rfl rfl (fun _ _ _ h k => h.later k) (fun a' w' σ' F' E' T' => o_call (F'.ev rfl) (F'.evs rfl) (Cal.mono (next_c 8 (by omega) (by omega) _ (hTw _ E') (T'.heap .here)) fun _ _ hh => ⟨hh.2.ext, hh.1, Mem.turn1 T' hh.2 .here⟩)) ?_
    refine mK hok rfl rfl (fun a' w' F' E' => o_conv (F'.ev rfl) (w_u64 (by omega) (by omega)) ⟨Ext.refl _ _, rfl⟩) ?_
    refine mK hok rfl rfl (fun a' w' F' E' => o_shl (F'.ev rfl) (F'.ev rfl) (by omega) rfl ⟨Ext.refl _ _, rfl⟩) ?_
    refine mK hok rfl rfl (fun a' w' F' E' => o_xor (F'.ev rfl) (F'.ev rfl) rfl ⟨Ext.refl _ _, rfl⟩) ?_
    clear hTw
    (refine mDone rfl hef ?_; clear F; clear M; intro a w F hE2 hX M hDD hPP; clear M1; clear hX; clear hE2; clear hok; clear hef; clear hB; clear hDD; clear hPP; (try dsimp only at F); (try simp only [List.cons_append, List.nil_append] at M))
    have hbd := xor8_bd (ip.getD (nxV xs k4 16).toNat 0) (IntKind.u8.wrap (1 * 2 ^ min (nxV xs (nxK xs k4) 8).toNat IntKind.u8.bits))
    obtain ⟨z, hz⟩ : ∃ z, z = bitsOf BinOp.xor IntKind.u8 (ip.getD (nxV xs k4 16).toNat 0) (IntKind.u8.wrap (1 * 2 ^ min (nxV xs (nxK xs k4) 8).toNat IntKind.u8.bits)) := ⟨_, rfl⟩
    rw [← hz] at F hbd
    refine stepD rfl F rfl (o_indexArr (F.ev rfl) (F.ev rfl) (by omega) (by omega) ?_); clear F; clear a; intro a F
    (refine stepN rfl F (o_store1 M (F.ev rfl) (F.ev rfl) rfl (by repeat (first | exact .here | apply Has.there)) (put1 (q := (nxV xs k4 16).toNat) _ (by omega) (by rw [ipC_len hip.len]; omega)) (by repeat (first | exact .here | apply Upd.there)) ?_); clear F; clear M; intro w M a F)
    rw [← ipC_set] at M
    have hip2 := hip.set (nxV xs k4 16).toNat hbd.1 hbd.2
    obtain ⟨ip2, hi2⟩ : ∃ ip2, ip2 = ip.set (nxV xs k4 16).toNat z := ⟨_, rfl⟩
    rw [← hi2] at M hip2
    have e2 : seg (ipC ip2) 0 16 = some (ipC ip2) := seg_all (ipC_len hip2.len)
    with_reducible refine l_nil ?_
    with_reducible refine q_then ?_
    with_reducible refine c_seq ?_
    with_reducible refine c_region ?_
    refine stepD rfl F rfl (o_loadA M (F.ev rfl) (by repeat (first | exact .here | apply Has.there)) (by first | assumption | rfl) ?_); clear F; clear a; intro a F
    (refine stepN rfl F (o_storeA M (F.ev rfl) (F.ev rfl) (ipC_len hip2.len) (one_ip _)  (by repeat (first | exact .here | apply Has.there))  (put_all (by rw [ipC_len hip2.len]; rfl)) (by repeat (first | exact .here | apply Upd.there)) ?_); clear F; clear M; intro w M a F)
    with_reducible refine l_nil ?_
    with_reducible refine q_then ?_
    with_reducible refine c_ret ?_
    exact p_ret F rfl (.cons (.cell (F.ev rfl) (run_loadVar_agg TAgg.h (M.heap (.there (.there .here))) e2)) .nil) ⟨by rw [show wipV xs k = ip2 by rw [hi2, hz, hipd, hk4]; unfold wipV; rw [if_pos hc]]; rfl, by rw [show wipK xs k = nxK xs (nxK xs k4) by rw [hk4]; unfold wipK; rw [if_pos hc]]; exact M.sub (.cons_cons _ (.cons _ (.cons _ (.refl _))))⟩
end
section
set_option linter.unusedVariables false
set_option linter.unusedSimpArgs false
open Go.RowKit
attribute [local irreducible] OpTo wpListIn Code.wpIn MW Cal
def wtV (xs : List Int) (k : Nat) (base : Int) : Int := if 0 < (if base + nxV xs k 60 - 30 < 1099511627776 then base + nxV xs k 60 - 30 else 1099511627776) then (if base + nxV xs k 60 - 30 < 1099511627776 then base + nxV xs k 60 - 30 else 1099511627776) else 0
theorem wtime_c {bt : Nat} {p : Option Addr} {len cap k : Nat} {xs : List Int} (base : Int) (h0 : 0 ≤ base) (h1 : base ≤ 1099511627776) (W : World) (hT : TapeS W bt p len xs) (hb : W.heap[bt]? = some (tobj p len cap k)) :
    Cal Try.prog 13 [.pointer (some ⟨bt, 0, none⟩), .int .i64 base].toArray W fun v w' => v = .int .i64 (wtV xs k base) ∧ Mem [bt] W w' [(bt, tobj p len cap (nxK xs k))] := by
  refine fn_ofM (n := 12) [bt] Try.func13 rfl rfl rfl ?_
  intro a w F M hwW
  replace M := M.came hwW hb (by simp) (by simp)
  have hx := nxV_bd xs k (n := 60) (by omega)
  with_reducible refine c_seq ?_
  with_reducible refine c_region ?_
  refine stepD rfl F rfl (o_assign (F.ev rfl) ?_); clear F; clear a; intro a F
  with_reducible refine l_nil ?_
  with_reducible refine q_then ?_
  with_reducible refine c_seq ?_
  with_reducible refine c_region ?_
  refine stepD rfl F rfl (o_move (F.ev rfl) ?_); clear F; clear a; intro a F
  refine stepD rfl F rfl (o_move (F.ev rfl) ?_); clear F; clear a; intro a F
  (refine stepD rfl F rfl (o_call (F.ev rfl) (F.evs rfl) (Cal.mono (next_c 60 (by omega) (by omega) _ (hT.later M.ext) (M.heap .here) ) ?_)); clear F; clear a; have M0 := M; clear M; rintro _ w ⟨rfl, N⟩ a F)
  replace M := M0.turn1 N .here
  clear M0
  refine stepD rfl F rfl (o_add (F.ev rfl) (F.ev rfl) (w_i64 (by omega) (by omega)) ?_); clear F; clear a; intro a F
  refine stepD rfl F rfl (o_sub (F.ev rfl) (F.ev rfl) (w_i64 (by omega) (by omega)) ?_); clear F; clear a; intro a F
  refine stepD rfl F rfl (o_min (F.ev rfl) (F.ev rfl) ?_); clear F; clear a; intro a F
  refine stepD rfl F rfl (o_max (F.ev rfl) (F.ev rfl) ?_); clear F; clear a; intro a F
  refine stepD rfl F rfl (o_assign (F.ev rfl) ?_); clear F; clear a; intro a F
  with_reducible refine l_nil ?_
  with_reducible refine q_then ?_
  with_reducible refine c_ret ?_
  refine p_ret F rfl (.cons (.tmp (F.ev rfl)) .nil) ?_
  exact ⟨rfl, M⟩
theorem nth_tab {k : IntKind} {xs : List Int} {i : Int} (h0 : 0 ≤ i) (h1 : i < xs.length) : nth (xs.map (Value.int k)) (0 + i.toNat * 1) = some (.int k (xs.getD i.toNat 0)) := by
  have h : i.toNat < xs.length := by omega
  rw [nth_spec, show 0 + i.toNat * 1 = i.toNat by omega]
  simp [h]
def tab10 : List Int := [128, 128, 64, 56, 48, 32, 0, 127, 3, 60]
theorem tab10_bd (i : Nat) : 0 ≤ tab10.getD i 0 ∧ tab10.getD i 0 ≤ 128 := by
  rcases Nat.lt_or_ge i 10 with h | h
  · have : ∀ i : Fin 10, 0 ≤ tab10.getD i.val 0 ∧ tab10.getD i.val 0 ≤ 128 := by decide
    exact this ⟨i, h⟩
  · rw [List.getD_eq_getElem?_getD, List.getElem?_eq_none (by simpa [tab10] using h)]
    simp
/-- a prefix off the tape -/
def wpN (xs : List Int) (k : Nat) : Int := if boolV xs (nxK xs k) 7 then nxV xs (nxK xs (nxK xs k)) 129 else tab10.getD (nxV xs k 10).toNat 0
def wpK0 (xs : List Int) (k : Nat) : Nat := if boolV xs (nxK xs k) 7 then nxK xs (nxK xs (nxK xs k)) else nxK xs (nxK xs k)
def wpA (xs : List Int) (k : Nat) : List Int := wipV xs (wpK0 xs k)
def wpK (xs : List Int) (k : Nat) : Nat := wipK xs (wpK0 xs k)
theorem wpN_bd (xs : List Int) (k : Nat) : 0 ≤ wpN xs k ∧ wpN xs k ≤ 128 := by
  have h1 := nxV_bd xs (nxK xs (nxK xs k)) (n := 129) (by omega)
  unfold wpN
  split
  · omega
  · exact tab10_bd _
set_option maxHeartbeats 1000000 in
theorem wprefix_c {bt : Nat} {p : Option Addr} {len cap k : Nat} {xs : List Int} (W : World) (hT : TapeS W bt p len xs) (hb : W.heap[bt]? = some (tobj p len cap k)) :
    Cal Try.prog 57 [.pointer (some ⟨bt, 0, none⟩)].toArray W fun v w' => v = .agg (pfC (maskI (wpA xs k) (wpN xs k)) (wpN xs k)).toArray ∧ Mem [bt] W w' [(bt, tobj p len cap (wpK xs k))] := by
  have v1 := nxV_bd xs k (n := 10) (by omega)
  have v3 := nxV_bd xs (nxK xs (nxK xs k)) (n := 129) (by omega)
  have n1 := nth_tab (k := .i64) (xs := tab10) v1.1 (by simpa [tab10] using v1.2)
  have hbd := wpN_bd xs k
  have hcl : clampB (wpN xs k) = wpN xs k := clamp_in hbd.1 hbd.2
  have s3 := seg_pf (maskI_len (wpA xs k) (wpN xs k)) (wpN xs k)
  refine fn_ofM (n := 17) [bt] Try.func57 rfl rfl rfl ?_
  intro a w F M hwW
  replace M := M.came hwW hb (by simp) (by simp)
  refine c_seq ?_
  refine c_region ?_
  (refine stepD rfl F rfl (o_alloc M ?_); clear F; clear M; intro b2 w M a F)
  with_reducible refine l_nil ?_
  with_reducible refine q_then ?_
  with_reducible refine c_seq ?_
  with_reducible refine c_region ?_
  (refine stepD rfl F rfl (o_buildSlice F M rfl rfl rfl rfl ?_); clear F; clear M; intro b4 w M a F)
  refine stepD rfl F rfl (o_move (F.ev rfl) ?_); clear F; clear a; intro a F
  (refine stepD rfl F rfl (o_call (F.ev rfl) (F.evs rfl) (Cal.mono (next_c 10 (by omega) (by omega) _ (hT.later M.ext) (M.heap (.there (.there .here))) ) ?_)); clear F; clear a; have M0 := M; clear M; rintro _ w ⟨rfl, N⟩ a F)
  replace M := M0.turn1 N (.there (.there .here))
  (refine stepD rfl F rfl (o_indexSl (F.ev rfl) (F.ev rfl) (by omega) (by omega) ?_); clear F; clear a; intro a F)
  (refine stepD rfl F rfl (o_load1 M (F.ev rfl) (by repeat (first | exact .here | apply Has.there)) (n1) ?_); clear F; clear a; intro a F)
  refine stepD rfl F rfl (o_assign (F.ev rfl) ?_); clear F; clear a; intro a F
  with_reducible refine l_nil ?_
  with_reducible refine q_then ?_
  with_reducible refine c_seq ?_
  with_reducible refine c_seq ?_
  with_reducible refine c_region ?_
  refine stepD rfl F rfl (o_move (F.ev rfl) ?_); clear F; clear a; intro a F
  (refine stepD rfl F rfl (o_call (F.ev rfl) (F.evs rfl) (Cal.mono (bool_c 7 (by omega) (by omega) _ (hT.later M.ext) (M.heap (.there (.there .here))) ) ?_)); clear F; clear a; have M0 := M; clear M; rintro _ w ⟨rfl, N⟩ a F)
  replace M := M0.turn1 N (.there (.there .here))
  cases hc : boolV xs (nxK xs k) 7
  · rw [hc] at F
    have hN : wpN xs k = tab10.getD (nxV xs k 10).toNat 0 := by unfold wpN; rw [hc]; rfl
    have hK : wpK0 xs k = nxK xs (nxK xs k) := by unfold wpK0; rw [hc]; rfl
    rw [← hK] at M
    rw [← hN] at F
    with_reducible refine l_nil ?_
    with_reducible refine q_then ?_
    refine c_false F rfl rfl ?_
    with_reducible refine c_skip ?_
    with_reducible refine q_then ?_
    with_reducible refine c_seq ?_
    with_reducible refine c_region ?_
    refine stepD rfl F rfl (o_move (F.ev rfl) ?_); clear F; clear a; intro a F
    (refine stepD rfl F rfl (o_call (F.ev rfl) (F.evs rfl) (Cal.mono (wipD_c _ (hT.later M.ext) (M.heap (.there (.there .here))) ) ?_)); clear F; clear a; have M0 := M; clear M; rintro _ w ⟨rfl, N⟩ a F)
    replace M := M0.turn1 N (.there (.there .here))
    refine stepD rfl F rfl (o_move (F.ev rfl) ?_); clear F; clear a; intro a F
    (refine stepD rfl F rfl (o_call (F.ev rfl) (F.evs rfl) (Cal.mono (Cal.to (rmask_c (wpA xs k) (wipV_is _ _) (wpN xs k) _) (by rw [hcl])) ?_)); clear F; clear a; rintro _ w ⟨rfl, hE⟩ a F; replace M := M.later hE; clear hE)
    (refine stepN rfl F (o_storeA M (F.ev rfl) (F.ev rfl) (pfC_len (maskI_len _ _) _) (one_pf _ _)  (by repeat (first | exact .here | apply Has.there))  (put_all (by rw [pfC_len (maskI_len (wpA xs k) (wpN xs k)) (wpN xs k)]; rfl)) (by repeat (first | exact .here | apply Upd.there)) ?_); clear F; clear M; intro w M a F)
    with_reducible refine l_nil ?_
    with_reducible refine q_then ?_
    with_reducible refine c_ret ?_
    refine p_ret F rfl (.cons (.cell (F.ev rfl) (run_loadVar_agg TAgg.h (M.heap (by repeat (first | exact .here | apply Has.there))) s3)) .nil) ⟨rfl, M.sub (by repeat (first | exact List.Sublist.refl _ | apply List.Sublist.cons))⟩
  · rw [hc] at F
    have hN : wpN xs k = nxV xs (nxK xs (nxK xs k)) 129 := by unfold wpN; rw [hc]; rfl
    have hK : wpK0 xs k = nxK xs (nxK xs (nxK xs k)) := by unfold wpK0; rw [hc]; rfl
    with_reducible refine l_nil ?_
    with_reducible refine q_then ?_
    refine c_true F rfl rfl ?_
    with_reducible refine c_region ?_
    refine stepD rfl F rfl (o_move (F.ev rfl) ?_); clear F; clear a; intro a F
    (refine stepD rfl F rfl (o_call (F.ev rfl) (F.evs rfl) (Cal.mono (next_c 129 (by omega) (by omega) _ (hT.later M.ext) (M.heap (.there (.there .here))) ) ?_)); clear F; clear a; have M0 := M; clear M; rintro _ w ⟨rfl, N⟩ a F)
    replace M := M0.turn1 N (.there (.there .here))
    rw [← hK] at M
    rw [← hN] at F
    refine stepD rfl F rfl (o_assign (F.ev rfl) ?_); clear F; clear a; intro a F
    with_reducible refine l_nil ?_
    with_reducible refine q_then ?_
    with_reducible refine c_seq ?_
    with_reducible refine c_region ?_
    refine stepD rfl F rfl (o_move (F.ev rfl) ?_); clear F; clear a; intro a F
    (refine stepD rfl F rfl (o_call (F.ev rfl) (F.evs rfl) (Cal.mono (wipD_c _ (hT.later M.ext) (M.heap (.there (.there .here))) ) ?_)); clear F; clear a; have M0 := M; clear M; rintro _ w ⟨rfl, N⟩ a F)
    replace M := M0.turn1 N (.there (.there .here))
    refine stepD rfl F rfl (o_move (F.ev rfl) ?_); clear F; clear a; intro a F
    (refine stepD rfl F rfl (o_call (F.ev rfl) (F.evs rfl) (Cal.mono (Cal.to (rmask_c (wpA xs k) (wipV_is _ _) (wpN xs k) _) (by rw [hcl])) ?_)); clear F; clear a; rintro _ w ⟨rfl, hE⟩ a F; replace M := M.later hE; clear hE)
    (refine stepN rfl F (o_storeA M (F.ev rfl) (F.ev rfl) (pfC_len (maskI_len _ _) _) (one_pf _ _)  (by repeat (first | exact .here | apply Has.there))  (put_all (by rw [pfC_len (maskI_len (wpA xs k) (wpN xs k)) (wpN xs k)]; rfl)) (by repeat (first | exact .here | apply Upd.there)) ?_); clear F; clear M; intro w M a F)
    with_reducible refine l_nil ?_
    with_reducible refine q_then ?_
    with_reducible refine c_ret ?_
    refine p_ret F rfl (.cons (.cell (F.ev rfl) (run_loadVar_agg TAgg.h (M.heap (by repeat (first | exact .here | apply Has.there))) s3)) .nil) ⟨rfl, M.sub (by repeat (first | exact List.Sublist.refl _ | apply List.Sublist.cons))⟩
end
section
set_option linter.unusedVariables false
set_option linter.unusedSimpArgs false
open Go.RowKit
attribute [local irreducible] OpTo wpListIn Code.wpIn MW Cal
/-- an offer in new memory -/
def OffNew (n0 : Nat) (W : World) (x : OV) : Prop := OffAt W x ∧ NewV n0 x.u ∧ NewV n0 x.v
end
section
set_option linter.unusedVariables false
set_option linter.unusedSimpArgs false
open Go.RowKit
attribute [local irreducible] OpTo wpListIn Code.wpIn MW Cal
theorem NewV.mono {n0 n1 : Nat} {v : Value} (h : NewV n1 v) (hle : n0 ≤ n1) : NewV n0 v := fun b o s n c e => Nat.le_trans hle (h b o s n c e)
theorem NewV.notIn {n0 bt : Nat} {v : Value} (h : NewV n0 v) (hbt : bt < n0) : ∀ b o s k c, v = .slice (some ⟨b, o, s⟩) k c → b ∉ [bt] := fun b o s k c e hb => by
  have := h b o s k c e
  simp only [List.mem_singleton] at hb
  omega
theorem OffNew.mono {n0 n1 : Nat} {W : World} {x : OV} (h : OffNew n1 W x) (hle : n0 ≤ n1) : OffNew n0 W x := ⟨h.1, h.2.1.mono hle, h.2.2.mono hle⟩
theorem OffNew.laterB {n0 bt : Nat} {W w : World} {x : OV} (h : OffNew n0 W x) (hbt : bt < n0) (E : Ext [bt] W w) : OffNew n0 w x :=
  ⟨⟨h.1.1.laterB (h.2.1.notIn hbt) E, h.1.2.laterB (h.2.2.notIn hbt) E⟩, h.2⟩
theorem OffsN.mono {n0 n1 : Nat} {W : World} {v : Value} {os : List Off} (h : OffsN n1 W v os) (hle : n0 ≤ n1) : OffsN n0 W v os := by
  obtain ⟨zs, h1, h2, h3, h4, h5⟩ := h
  exact ⟨zs, h1, h2, h3, h4.mono hle, fun z hz => ⟨(h5 z hz).1.mono hle, (h5 z hz).2.mono hle⟩⟩
theorem OffsN.laterB {n0 bt : Nat} {W w : World} {v : Value} {os : List Off} (h : OffsN n0 W v os) (hbt : bt < n0) (E : Ext [bt] W w) : OffsN n0 w v os := by
  obtain ⟨zs, h1, h2, h3, h4, h5⟩ := h
  exact ⟨zs, h1, h2.laterB (h4.notIn hbt) E, fun z hz => (OffNew.laterB ⟨h3 z hz, h5 z hz⟩ hbt E).1, h4, h5⟩
/-- offers off the tape -/
structure OffsO (n0 : Nat) (W : World) (v : Value) (os : List Off) : Prop where
  at_ : OffsN n0 W v os
  is : ∀ o ∈ os, IsOff o
  len : os.length ≤ 8
  small : ∀ o ∈ os, o.ps.length ≤ 16 ∧ o.cs.length ≤ 16
theorem OffsO.laterB {n0 bt : Nat} {W w : World} {v : Value} {os : List Off} (h : OffsO n0 W v os) (hbt : bt < n0) (E : Ext [bt] W w) : OffsO n0 w v os := ⟨h.at_.laterB hbt E, h.is, h.len, h.small⟩
/-- the memory, seen from here on -/
theorem Mem.re {S : List Nat} {W w : World} {l : List (Nat × Obj)} (M : Mem S W w l) (h : ∀ p ∈ l, p.1 ∈ S) : Mem S w w l := ⟨Ext.refl _ _, M.at_, M.nd, fun p hp => .inl (h p hp)⟩
theorem Mem.un {S : List Nat} {W w1 w : World} {l : List (Nat × Obj)} (M : Mem S w1 w l) (E : Ext S W w1) : Mem S W w l := ⟨E.trans M.ext, M.at_, M.nd, fun p hp => (M.own p hp).imp_right fun h => Nat.le_trans E.size h⟩
/-- its lists lie elsewhere -/
def OffNb (bt : Nat) (x : OV) : Prop := (∀ b o s k c, x.u = .slice (some ⟨b, o, s⟩) k c → b ∉ [bt]) ∧ ∀ b o s k c, x.v = .slice (some ⟨b, o, s⟩) k c → b ∉ [bt]
theorem OffAt.laterB {bt : Nat} {W w : World} {x : OV} (h : OffAt W x) (hn : OffNb bt x) (E : Ext [bt] W w) : OffAt w x := ⟨h.1.laterB hn.1 E, h.2.laterB hn.2 E⟩
end
section
set_option linter.unusedVariables false
set_option linter.unusedSimpArgs false
open Go.RowKit
attribute [local irreducible] OpTo wpListIn Code.wpIn MW Cal
theorem OffsO.mono {n0 n1 : Nat} {W : World} {v : Value} {os : List Off} (h : OffsO n1 W v os) (hle : n0 ≤ n1) : OffsO n0 W v os := ⟨h.at_.mono hle, h.is, h.len, h.small⟩
end
section
set_option linter.unusedVariables false
set_option linter.unusedSimpArgs false
open Go.RowKit
structure Msg where
  ty : Int
  hops : Int
  life : Int
  tgt : List Int
  sm : Int
  ss : Int
  se : Int
  oe : Int
  os : Int
  ost : Int
  ol : Int
  ho : Bool
  bv : Int
  bl : Int
  br : List Int
  hb : Bool
  deriving DecidableEq
/-- a message and the values of its lists -/
structure MV where
  m : Msg
  ps : List PInf
  cs : List CInf
  u : Value
  v : Value
def MsAt (W : World) (x : MV) : Prop := SlAt W 20 x.u x.ps.length (pisC x.ps) ∧ SlAt W 20 x.v x.cs.length (cisC x.cs)
theorem MsAt.later {W w : World} {x : MV} (h : MsAt W x) (E : Ext [] W w) : MsAt w x := ⟨h.1.later E, h.2.later E⟩
end
section
set_option linter.unusedVariables false
set_option linter.unusedSimpArgs false
open Go.RowKit
attribute [local irreducible] OpTo wpListIn Code.wpIn MW Cal
/-- offers in memory -/
def LSt (W : World) (v : Value) (zs : List OV) : Prop := SlAt W 20 v zs.length (encL ovC zs) ∧ ∀ z ∈ zs, OffAt W z
theorem LSt.later {W w : World} {v : Value} {zs : List OV} (h : LSt W v zs) (E : Ext [] W w) : LSt w v zs := ⟨h.1.later E, fun z hz => (h.2 z hz).later E⟩
end
end Go.Proofs.Ytilgoepokaaleaa
/-! UOpen -/
namespace Go.Proofs.Ytilgoepokaaleaa
set_option linter.unusedVariables false
set_option linter.unusedSimpArgs false
open Go.ChangeShapes Go.WideShapes Go.ChangeAt Go.RowKit
def loK : IntKind → Int
  | .i64 => -9223372036854775808 | .u64 => 0 | .u32 => 0 | .u16 => 0 | .u8 => 0 | .i32 => -2147483648 | k => k.min
def hiK : IntKind → Int
  | .i64 => 9223372036854775807 | .u64 => 18446744073709551615 | .u32 => 4294967295 | .u16 => 65535 | .u8 => 255 | .i32 => 2147483647 | k => k.max
theorem int_bd {k : IntKind} {n : Int} (h : (Lit.int k n).wf = true) : loK k ≤ n ∧ n ≤ hiK k := by
  have := wf_bd h
  cases k <;> simp [IntKind.min, IntKind.max, IntKind.signed, IntKind.bits, loK, hiK] at this ⊢ <;> omega
theorem wfV_int {k : IntKind} {v : Value} (h : wfV (.i k) v = true) : ∃ n, v = .int k n ∧ loK k ≤ n ∧ n ≤ hiK k := by
  cases v <;> simp [wfV] at h
  rename_i k' n
  obtain ⟨rfl, hw⟩ := h
  exact ⟨n, rfl, int_bd hw⟩
theorem wfK_cons {k : LK} {ks : List LK} {xs : List Value} (h : wfK (k :: ks) xs = true) : ∃ x ys, xs = x :: ys ∧ wfV k x = true ∧ wfK ks ys = true := by
  cases xs with
  | nil => cases h
  | cons x ys => simp only [wfK, Bool.and_eq_true] at h; exact ⟨x, ys, rfl, h.1, h.2⟩
theorem wfK_nil {xs : List Value} (h : wfK [] xs = true) : xs = [] := by
  cases xs with
  | nil => rfl
  | cons x ys => cases h
theorem ip_wf : ∀ (xs : List Value) (n : Nat), wfK (List.replicate n (.i .u8)) xs = true → ∃ a : List Int, xs = ipC a ∧ a.length = n ∧ ∀ x ∈ a, 0 ≤ x ∧ x < 256
  | [], 0, _ => ⟨[], rfl, rfl, by simp⟩
  | [], n + 1, h => by simp [List.replicate_succ, wfK] at h
  | _ :: _, 0, h => by simp [wfK] at h
  | x :: xs, n + 1, h => by
    simp only [List.replicate_succ, wfK, Bool.and_eq_true] at h
    obtain ⟨a, rfl, hl, hb⟩ := ip_wf xs n h.2
    obtain ⟨m, rfl, h0, h1⟩ := wfV_int h.1
    refine ⟨m :: a, rfl, by simp [hl], fun y hy => ?_⟩
    rcases List.mem_cons.1 hy with rfl | hy
    · simp only [loK, hiK] at h0 h1; omega
    · exact hb y hy
section
variable {H : Type} {enc : TypeId × Value → H} {w : World} {r : Reach} {b0 base : Nat} {sp : Nat → Bool} {held : Bool} {v : Value} {d : DataW H} {p : List MemPlace}
theorem wfK_split : ∀ {ks ks' : List LK} {xs : List Value}, wfK (ks ++ ks') xs = true → ∃ ys zs, xs = ys ++ zs ∧ wfK ks ys = true ∧ wfK ks' zs = true
  | [], ks', xs, h => ⟨[], xs, rfl, rfl, h⟩
  | k :: ks, ks', [], h => by cases h
  | k :: ks, ks', x :: xs, h => by
    simp only [List.cons_append, wfK, Bool.and_eq_true] at h
    obtain ⟨ys, zs, rfl, h1, h2⟩ := wfK_split h.2
    exact ⟨x :: ys, zs, rfl, by simp [wfK, h.1, h1], h2⟩
end
end Go.Proofs.Ytilgoepokaaleaa
/-! UOpen2 -/
namespace Go.Proofs.Ytilgoepokaaleaa
set_option linter.unusedVariables false
set_option linter.unusedSimpArgs false
open Go.ChangeShapes Go.WideShapes Go.ChangeAt Go.RowKit
set_option maxRecDepth 100000 in
theorem open_il {H : Type} {enc : TypeId × Value → H} {w : World} {r : Reach} {b0 base : Nat} {held : Bool} {v : Value} {d : DataW H} {p : List MemPlace} (hval : Value.okWide Try.prog w r b0 25 v) (h : DataW.Trod enc Try.prog w base (fun _ => true) held 25 v d p) :
    ∃ xs q cap, v = .slice q xs.length cap ∧ xs.length ≤ cap ∧ IntsAt w v xs := by
  obtain ⟨a, len, cap, rfl⟩ := okWide_slice Try.underlying25 hval
  obtain ⟨fuel, hf⟩ := h
  have hone : (Value.slice a len cap).cells.toList = [Value.slice a len cap] := rfl
  rw [hone] at hf
  rcases open_ints Try.underlying25 Try.underlying3 (by kernel_rfl) hf with ⟨h1, _⟩ | ⟨a', len', cap', zs, h1, _, hlc, hcm, hzl, _, hat, hwf⟩
  · cases h1
    exact ⟨[], none, 0, rfl, by simp, ⟨⟨none, 0, rfl, by simp, fun h => absurd h (by simp)⟩, by simp, by simp⟩⟩
  · cases h1
    simp only [if_true] at hzl
    have hml : maxLen = 9223372036854775807 := rfl
    have htl : (zs.take len).length = len := by rw [List.length_take]; omega
    refine ⟨zs.take len, some a', cap, by rw [htl], by omega, ⟨⟨some a', cap, by rw [htl], by omega, fun hl => ?_⟩, fun x hx => ?_, by omega⟩⟩
    · rw [htl] at hl
      have h0 := hat 0 (by omega)
      have hsp : a'.spot = none := by
        cases hs : a'.spot with
        | none => rfl
        | some q =>
          have e0 : a'.add 0 = a' := by simp [Addr.add]
          rw [e0] at h0
          simp only [World.cell?, hs] at h0
          split at h0 <;> simp at h0
      obtain ⟨b, o, sp⟩ := a'
      simp only at hsp
      subst hsp
      have hadd : ∀ i, (⟨b, o, none⟩ : Addr).add i = ⟨b, o + i, none⟩ := fun i => addr_add b o i
      rw [hadd] at h0
      cases hb : w.heap[b]? with
      | none => simp [World.cell?, hb] at h0
      | some ob =>
        cases ob with
        | cells cs t fz =>
          refine ⟨b, o, cs, t, fz, rfl, hb, ?_⟩
          have hcell : ∀ i, i < zs.length → cs[o + i]? = some (.int .i64 (zs.getD i 0)) := fun i hi => by
            have := hat i hi
            rw [hadd] at this
            simpa [World.cell?, hb] using this
          have hle : o + len ≤ cs.toList.length := by
            have := hcell (len - 1) (by omega)
            have := (Array.getElem?_eq_some_iff.1 this).1
            simp only [Array.length_toList]
            omega
          rw [htl, seg_eq, if_pos hle]
          congr 1
          apply List.ext_getElem
          · simp only [List.length_take, List.length_drop, i64C, List.length_map]
            omega
          · intro i h1 h2
            have hi : i < len := by simp only [List.length_take] at h1; omega
            have := hcell i (by omega)
            have h3 := Array.getElem?_eq_some_iff.1 this
            obtain ⟨h4, h5⟩ := h3
            simp only [List.getElem_take, List.getElem_drop, Array.getElem_toList, h5, i64C, List.getElem_map]
            rw [List.getD_eq_getElem?_getD, List.getElem?_eq_getElem (by omega)]
            rfl
        | _ => simp [World.cell?, hb] at h0
    · have := int_bd (hwf x (List.mem_of_mem_take hx))
      exact this
end Go.Proofs.Ytilgoepokaaleaa
/-! LibT -/
namespace Go.Proofs.Ytilgoepokaaleaa
set_option linter.unusedVariables false
set_option linter.unusedSimpArgs false
open Go.RowKit
theorem add_add (a : Addr) (m r : Nat) : (a.add m).add r = a.add (m + r) := by
  obtain ⟨b, o, sp⟩ := a
  unfold Addr.add
  by_cases hm : m = 0
  · subst hm
    simp
  · by_cases hr : r = 0
    · subst hr; simp [hm]
    · simp [hm, hr, show ¬ m + r = 0 by omega]; omega
section
variable {H : Type} {enc : TypeId × Value → H} {P : Program} {w : World} {base : Nat} {sp : Nat → Bool} {held : Bool}
theorem open_slG {α : Type} {encE : α → List Value} {Is : α → Prop} {t e : TypeId} {sz : Nat} (ht : P.underlying t = some (.slice e)) (hsz : P.cellsOf e = sz) (h0 : 0 < sz)
    (hdec : ∀ n cs y, DataW.trod enc P w base sp held n e cs = some y → ∃ x : α, Is x ∧ cs = encE x) {fuel : Nat} {cs : List Value} {x : DataW H × List MemPlace} (h : DataW.trod enc P w base sp held fuel t cs = some x) :
    ∃ (v : Value) (ls : List α), cs = [v] ∧ (∀ x ∈ ls, Is x) ∧ SlAt w sz v ls.length (encL encE ls) ∧ ls.length ≤ 9223372036854775807 := by
  rcases DataW.trod_slice ht h with ⟨rfl, _⟩ | ⟨a, len, cap, elems, rest, n, _, rfl, _, _, hlc, hcm, hel, hat, _, _⟩
  · exact ⟨_, [], rfl, by simp, SlAt.nil _ _, by simp⟩
  have hml : maxLen = 9223372036854775807 := rfl
  rw [hsz] at hat
  have key : ∀ k, k ≤ len → ∃ ls : List α, ls.length = k ∧ (∀ x ∈ ls, Is x) ∧ (encL encE ls).length = k * sz ∧ ∀ j, j < k * sz → w.cell? (a.add j) = (encL encE ls)[j]? := by
    intro k
    induction k with
    | zero => exact fun _ => ⟨[], rfl, by simp, by simp [encL_nil], by simp⟩
    | succ k ih =>
      intro hk
      obtain ⟨ls, h1, h2, h3, h4⟩ := ih (by omega)
      have hb := hat k (by omega)
      rw [List.getElem?_eq_getElem (by omega), Option.bind_eq_some_iff] at hb
      obtain ⟨ck, hc, hy⟩ := hb
      obtain ⟨x, hx, rfl⟩ := hdec _ _ _ hy
      obtain ⟨_, hcl, hca⟩ := World.cells?_some hc
      refine ⟨ls ++ [x], by simp [h1], fun z hz => ?_, ?_, fun j hj => ?_⟩
      · rcases List.mem_append.1 hz with h | h
        · exact h2 z h
        · simp only [List.mem_singleton] at h
          rw [h]; exact hx
      · rw [encL_app, encL_one, List.length_append, h3, hcl, Nat.add_mul]; omega
      · rw [encL_app, encL_one]
        rcases Nat.lt_or_ge j (k * sz) with h | h
        · rw [List.getElem?_append_left (by omega)]
          exact h4 j h
        · rw [List.getElem?_append_right (by omega), h3, ← hca (j - k * sz) (by rw [Nat.add_mul] at hj; omega), add_add]
          congr 2
          omega
  obtain ⟨ls, h1, h2, h3, h4⟩ := key len (Nat.le_refl _)
  refine ⟨_, ls, rfl, h2, ⟨some a, cap, by rw [h1], by omega, fun _ _ => trivial, by rw [h3, h1], fun hl => ?_⟩, by omega⟩
  have hpos : 0 < len * sz := Nat.mul_pos (by omega) h0
  have hc0 := h4 0 hpos
  have hsp : a.spot = none := by
    cases hs : a.spot with
    | none => rfl
    | some q =>
      have e0 : a.add 0 = a := by simp [Addr.add]
      rw [e0, List.getElem?_eq_getElem (by omega)] at hc0
      simp only [World.cell?, hs] at hc0
      split at hc0 <;> simp at hc0
  obtain ⟨b, o, spt⟩ := a
  simp only at hsp
  subst hsp
  have hadd : ∀ i, (⟨b, o, none⟩ : Addr).add i = ⟨b, o + i, none⟩ := fun i => addr_add b o i
  rw [hadd, List.getElem?_eq_getElem (by omega)] at hc0
  cases hb : w.heap[b]? with
  | none => simp [World.cell?, hb] at hc0
  | some ob =>
    cases ob with
    | cells cs t fz =>
      refine ⟨b, o, cs.toList, t, fz, rfl, by simpa using hb, ?_⟩
      have hcell : ∀ i, i < len * sz → cs[o + i]? = (encL encE ls)[i]? := fun i hi => by
        have := h4 i hi
        rw [hadd] at this
        simpa [World.cell?, hb] using this
      have hle : o + len * sz ≤ cs.toList.length := by
        have := hcell (len * sz - 1) (by omega)
        rw [List.getElem?_eq_getElem (by omega)] at this
        have := (Array.getElem?_eq_some_iff.1 this).1
        simp only [Array.length_toList]
        omega
      rw [h1, sg_eq, if_pos hle]
      congr 1
      apply List.ext_getElem?
      intro i
      rcases Nat.lt_or_ge i (len * sz) with hi | hi
      · rw [List.getElem?_take_of_lt hi, List.getElem?_drop, Array.getElem?_toList, hcell i hi]
      · rw [List.getElem?_eq_none (by simp; omega), List.getElem?_eq_none (by omega)]
    | _ => simp [World.cell?, hb] at hc0
end
end Go.Proofs.Ytilgoepokaaleaa
/-! Y0 -/
namespace Go.Proofs.Ytilgoepokaaleaa
set_option linter.unusedVariables false
set_option linter.unusedSimpArgs false
open Go.RowKit
/-! DstV -/
structure DstV where
  dip : List Int
  dbits : Int
  sip : List Int
  sbits : Int
  rt : Int
  deriving DecidableEq
def dvC (o : DstV) : List Value := pfC o.dip o.dbits ++ (pfC o.sip o.sbits ++ ([.int .u64 o.rt]))
def IsDv (o : DstV) : Prop := IsIP o.dip ∧ IsIP o.sip
theorem dv_len {o : DstV} (h : IsDv o) : (dvC o).length = 35 := by
  obtain ⟨f_dip, f_dbits, f_sip, f_sbits, f_rt⟩ := o
  obtain ⟨x0_0, x0_1, x0_2, x0_3, x0_4, x0_5, x0_6, x0_7, x0_8, x0_9, x0_10, x0_11, x0_12, x0_13, x0_14, x0_15, e0⟩ := len16 (show f_dip.length = 16 from (h.1).len)
  obtain ⟨x1_0, x1_1, x1_2, x1_3, x1_4, x1_5, x1_6, x1_7, x1_8, x1_9, x1_10, x1_11, x1_12, x1_13, x1_14, x1_15, e1⟩ := len16 (show f_sip.length = 16 from (h.2).len)
  subst e0
  subst e1
  rfl
theorem dv_all {o : DstV} (h : IsDv o) : seg (dvC o) 0 35 = some (dvC o) := sg_all (dv_len h)
theorem dv_dst {o : DstV} (h : IsDv o) : seg (dvC o) 0 17 = some (pfC o.dip o.dbits) := by
  obtain ⟨f_dip, f_dbits, f_sip, f_sbits, f_rt⟩ := o
  obtain ⟨x0_0, x0_1, x0_2, x0_3, x0_4, x0_5, x0_6, x0_7, x0_8, x0_9, x0_10, x0_11, x0_12, x0_13, x0_14, x0_15, e0⟩ := len16 (show f_dip.length = 16 from (h.1).len)
  obtain ⟨x1_0, x1_1, x1_2, x1_3, x1_4, x1_5, x1_6, x1_7, x1_8, x1_9, x1_10, x1_11, x1_12, x1_13, x1_14, x1_15, e1⟩ := len16 (show f_sip.length = 16 from (h.2).len)
  subst e0
  subst e1
  rfl
theorem dv_dip {o : DstV} (h : IsDv o) : seg (dvC o) 0 16 = some (ipC o.dip) := by
  obtain ⟨f_dip, f_dbits, f_sip, f_sbits, f_rt⟩ := o
  obtain ⟨x0_0, x0_1, x0_2, x0_3, x0_4, x0_5, x0_6, x0_7, x0_8, x0_9, x0_10, x0_11, x0_12, x0_13, x0_14, x0_15, e0⟩ := len16 (show f_dip.length = 16 from (h.1).len)
  obtain ⟨x1_0, x1_1, x1_2, x1_3, x1_4, x1_5, x1_6, x1_7, x1_8, x1_9, x1_10, x1_11, x1_12, x1_13, x1_14, x1_15, e1⟩ := len16 (show f_sip.length = 16 from (h.2).len)
  subst e0
  subst e1
  rfl
theorem dv_dbits {o : DstV} (h : IsDv o) : nth (dvC o) 16 = some (.int .i64 o.dbits) := by
  obtain ⟨f_dip, f_dbits, f_sip, f_sbits, f_rt⟩ := o
  obtain ⟨x0_0, x0_1, x0_2, x0_3, x0_4, x0_5, x0_6, x0_7, x0_8, x0_9, x0_10, x0_11, x0_12, x0_13, x0_14, x0_15, e0⟩ := len16 (show f_dip.length = 16 from (h.1).len)
  obtain ⟨x1_0, x1_1, x1_2, x1_3, x1_4, x1_5, x1_6, x1_7, x1_8, x1_9, x1_10, x1_11, x1_12, x1_13, x1_14, x1_15, e1⟩ := len16 (show f_sip.length = 16 from (h.2).len)
  subst e0
  subst e1
  rfl
theorem dv_src {o : DstV} (h : IsDv o) : seg (dvC o) 17 17 = some (pfC o.sip o.sbits) := by
  obtain ⟨f_dip, f_dbits, f_sip, f_sbits, f_rt⟩ := o
  obtain ⟨x0_0, x0_1, x0_2, x0_3, x0_4, x0_5, x0_6, x0_7, x0_8, x0_9, x0_10, x0_11, x0_12, x0_13, x0_14, x0_15, e0⟩ := len16 (show f_dip.length = 16 from (h.1).len)
  obtain ⟨x1_0, x1_1, x1_2, x1_3, x1_4, x1_5, x1_6, x1_7, x1_8, x1_9, x1_10, x1_11, x1_12, x1_13, x1_14, x1_15, e1⟩ := len16 (show f_sip.length = 16 from (h.2).len)
  subst e0
  subst e1
  rfl
theorem dv_sip {o : DstV} (h : IsDv o) : seg (dvC o) 17 16 = some (ipC o.sip) := by
  obtain ⟨f_dip, f_dbits, f_sip, f_sbits, f_rt⟩ := o
  obtain ⟨x0_0, x0_1, x0_2, x0_3, x0_4, x0_5, x0_6, x0_7, x0_8, x0_9, x0_10, x0_11, x0_12, x0_13, x0_14, x0_15, e0⟩ := len16 (show f_dip.length = 16 from (h.1).len)
  obtain ⟨x1_0, x1_1, x1_2, x1_3, x1_4, x1_5, x1_6, x1_7, x1_8, x1_9, x1_10, x1_11, x1_12, x1_13, x1_14, x1_15, e1⟩ := len16 (show f_sip.length = 16 from (h.2).len)
  subst e0
  subst e1
  rfl
theorem dv_sbits {o : DstV} (h : IsDv o) : nth (dvC o) 33 = some (.int .i64 o.sbits) := by
  obtain ⟨f_dip, f_dbits, f_sip, f_sbits, f_rt⟩ := o
  obtain ⟨x0_0, x0_1, x0_2, x0_3, x0_4, x0_5, x0_6, x0_7, x0_8, x0_9, x0_10, x0_11, x0_12, x0_13, x0_14, x0_15, e0⟩ := len16 (show f_dip.length = 16 from (h.1).len)
  obtain ⟨x1_0, x1_1, x1_2, x1_3, x1_4, x1_5, x1_6, x1_7, x1_8, x1_9, x1_10, x1_11, x1_12, x1_13, x1_14, x1_15, e1⟩ := len16 (show f_sip.length = 16 from (h.2).len)
  subst e0
  subst e1
  rfl
theorem dv_put_src {o : DstV} (h : IsDv o) {z : List Int} (hz : IsIP z) (y : Int) : put (dvC o) 17 (pfC z y) = some (dvC { o with sip := z, sbits := y }) := by
  obtain ⟨f_dip, f_dbits, f_sip, f_sbits, f_rt⟩ := o
  obtain ⟨x0_0, x0_1, x0_2, x0_3, x0_4, x0_5, x0_6, x0_7, x0_8, x0_9, x0_10, x0_11, x0_12, x0_13, x0_14, x0_15, e0⟩ := len16 (show f_dip.length = 16 from (h.1).len)
  obtain ⟨x1_0, x1_1, x1_2, x1_3, x1_4, x1_5, x1_6, x1_7, x1_8, x1_9, x1_10, x1_11, x1_12, x1_13, x1_14, x1_15, e1⟩ := len16 (show f_sip.length = 16 from (h.2).len)
  subst e0
  subst e1
  obtain ⟨z0, z1, z2, z3, z4, z5, z6, z7, z8, z9, z10, z11, z12, z13, z14, z15, ez⟩ := len16 hz.len
  subst ez
  rfl
theorem dv_rt {o : DstV} (h : IsDv o) : nth (dvC o) 34 = some (.int .u64 o.rt) := by
  obtain ⟨f_dip, f_dbits, f_sip, f_sbits, f_rt⟩ := o
  obtain ⟨x0_0, x0_1, x0_2, x0_3, x0_4, x0_5, x0_6, x0_7, x0_8, x0_9, x0_10, x0_11, x0_12, x0_13, x0_14, x0_15, e0⟩ := len16 (show f_dip.length = 16 from (h.1).len)
  obtain ⟨x1_0, x1_1, x1_2, x1_3, x1_4, x1_5, x1_6, x1_7, x1_8, x1_9, x1_10, x1_11, x1_12, x1_13, x1_14, x1_15, e1⟩ := len16 (show f_sip.length = 16 from (h.2).len)
  subst e0
  subst e1
  rfl
theorem dv_one (o : DstV) : (dvC o).all (·.oneCell') = true := by
  simp [pfC, ipC, dvC, Value.oneCell']
def dvZ : List Value := [.int .u8 0, .int .u8 0, .int .u8 0, .int .u8 0, .int .u8 0, .int .u8 0, .int .u8 0, .int .u8 0, .int .u8 0, .int .u8 0, .int .u8 0, .int .u8 0, .int .u8 0, .int .u8 0, .int .u8 0, .int .u8 0, .int .i64 0, .int .u8 0, .int .u8 0, .int .u8 0, .int .u8 0, .int .u8 0, .int .u8 0, .int .u8 0, .int .u8 0, .int .u8 0, .int .u8 0, .int .u8 0, .int .u8 0, .int .u8 0, .int .u8 0, .int .u8 0, .int .u8 0, .int .i64 0, .int .u64 0]
abbrev dvK : List LK := [.i .u8, .i .u8, .i .u8, .i .u8, .i .u8, .i .u8, .i .u8, .i .u8, .i .u8, .i .u8, .i .u8, .i .u8, .i .u8, .i .u8, .i .u8, .i .u8, .i .i64, .i .u8, .i .u8, .i .u8, .i .u8, .i .u8, .i .u8, .i .u8, .i .u8, .i .u8, .i .u8, .i .u8, .i .u8, .i .u8, .i .u8, .i .u8, .i .u8, .i .i64, .i .u64]
theorem dv_fits {o : DstV} (h : IsDv o) : fitsK dvK (dvC o) = true := by
  obtain ⟨f_dip, f_dbits, f_sip, f_sbits, f_rt⟩ := o
  obtain ⟨x0_0, x0_1, x0_2, x0_3, x0_4, x0_5, x0_6, x0_7, x0_8, x0_9, x0_10, x0_11, x0_12, x0_13, x0_14, x0_15, e0⟩ := len16 (show f_dip.length = 16 from (h.1).len)
  obtain ⟨x1_0, x1_1, x1_2, x1_3, x1_4, x1_5, x1_6, x1_7, x1_8, x1_9, x1_10, x1_11, x1_12, x1_13, x1_14, x1_15, e1⟩ := len16 (show f_sip.length = 16 from (h.2).len)
  subst e0
  subst e1
  rfl
theorem dv_eq {a b : DstV} (ha : IsDv a) (hb : IsDv b) : eqVs (dvC a) (dvC b) = decide (a = b) := by
  have l0 : a.dip.length = b.dip.length := by rw [(ha.1).len, (hb.1).len]
  have l1 : a.sip.length = b.sip.length := by rw [(ha.2).len, (hb.2).len]
  rw [Bool.eq_iff_iff, decide_eq_true_eq]
  obtain ⟨a_dip, a_dbits, a_sip, a_sbits, a_rt⟩ := a
  obtain ⟨b_dip, b_dbits, b_sip, b_sbits, b_rt⟩ := b
  dsimp only at l0 l1
  simp only [dvC, DstV.mk.injEq]
  rw [eqVs_append _ _ _ _ (by first | rfl | assumption | (simp [pfC, ipC]; assumption))]
  rw [eqVs_append _ _ _ _ (by first | rfl | assumption | (simp [pfC, ipC]; assumption))]
  rw [eqVs_pf l0]
  rw [eqVs_pf l1]
  simp [eqVs, eqV, Bool.and_eq_true, beq_iff_eq, Bool.and_true, and_assoc, decide_eq_true_eq, List.cons_append, List.nil_append]
/-! DisV -/
structure DisV where
  seq : Int
  met : Int
  deriving DecidableEq
def diC (o : DisV) : List Value := [.int .u16 o.seq, .int .i64 o.met]
def IsDi (o : DisV) : Prop := True
theorem di_len {o : DisV} (h : IsDi o) : (diC o).length = 2 := by
  obtain ⟨f_seq, f_met⟩ := o
  rfl
theorem di_all {o : DisV} (h : IsDi o) : seg (diC o) 0 2 = some (diC o) := sg_all (di_len h)
theorem di_met {o : DisV} (h : IsDi o) : nth (diC o) 1 = some (.int .i64 o.met) := by
  obtain ⟨f_seq, f_met⟩ := o
  rfl
theorem di_one (o : DisV) : (diC o).all (·.oneCell') = true := by
  simp [pfC, ipC, diC, Value.oneCell']
theorem di_eq {a b : DisV} (ha : IsDi a) (hb : IsDi b) : eqVs (diC a) (diC b) = decide (a = b) := by
  rw [Bool.eq_iff_iff, decide_eq_true_eq]
  obtain ⟨a_seq, a_met⟩ := a
  obtain ⟨b_seq, b_met⟩ := b
  simp only [diC, DisV.mk.injEq]
  simp [eqVs, eqV, Bool.and_eq_true, beq_iff_eq, Bool.and_true, and_assoc, decide_eq_true_eq, List.cons_append, List.nil_append]
/-! AdvV -/
structure AdvV where
  to : DstV
  own : DisV
  deriving DecidableEq
def avC (o : AdvV) : List Value := dvC o.to ++ (diC o.own)
def IsAv (o : AdvV) : Prop := IsDv o.to ∧ IsDi o.own
theorem av_len {o : AdvV} (h : IsAv o) : (avC o).length = 37 := by
  obtain ⟨⟨f_to_dip, f_to_dbits, f_to_sip, f_to_sbits, f_to_rt⟩, ⟨f_own_seq, f_own_met⟩⟩ := o
  obtain ⟨x0_0, x0_1, x0_2, x0_3, x0_4, x0_5, x0_6, x0_7, x0_8, x0_9, x0_10, x0_11, x0_12, x0_13, x0_14, x0_15, e0⟩ := len16 (show f_to_dip.length = 16 from (h.1.1).len)
  obtain ⟨x1_0, x1_1, x1_2, x1_3, x1_4, x1_5, x1_6, x1_7, x1_8, x1_9, x1_10, x1_11, x1_12, x1_13, x1_14, x1_15, e1⟩ := len16 (show f_to_sip.length = 16 from (h.1.2).len)
  subst e0
  subst e1
  rfl
theorem av_all {o : AdvV} (h : IsAv o) : seg (avC o) 0 37 = some (avC o) := sg_all (av_len h)
theorem av_to {o : AdvV} (h : IsAv o) : seg (avC o) 0 35 = some (dvC o.to) := by
  obtain ⟨⟨f_to_dip, f_to_dbits, f_to_sip, f_to_sbits, f_to_rt⟩, ⟨f_own_seq, f_own_met⟩⟩ := o
  obtain ⟨x0_0, x0_1, x0_2, x0_3, x0_4, x0_5, x0_6, x0_7, x0_8, x0_9, x0_10, x0_11, x0_12, x0_13, x0_14, x0_15, e0⟩ := len16 (show f_to_dip.length = 16 from (h.1.1).len)
  obtain ⟨x1_0, x1_1, x1_2, x1_3, x1_4, x1_5, x1_6, x1_7, x1_8, x1_9, x1_10, x1_11, x1_12, x1_13, x1_14, x1_15, e1⟩ := len16 (show f_to_sip.length = 16 from (h.1.2).len)
  subst e0
  subst e1
  rfl
theorem av_put_to_rt {o : AdvV} (h : IsAv o) (z : Int) : put (avC o) 34 [.int .u64 z] = some (avC { o with to := { o.to with rt := z } }) := by
  obtain ⟨⟨f_to_dip, f_to_dbits, f_to_sip, f_to_sbits, f_to_rt⟩, ⟨f_own_seq, f_own_met⟩⟩ := o
  obtain ⟨x0_0, x0_1, x0_2, x0_3, x0_4, x0_5, x0_6, x0_7, x0_8, x0_9, x0_10, x0_11, x0_12, x0_13, x0_14, x0_15, e0⟩ := len16 (show f_to_dip.length = 16 from (h.1.1).len)
  obtain ⟨x1_0, x1_1, x1_2, x1_3, x1_4, x1_5, x1_6, x1_7, x1_8, x1_9, x1_10, x1_11, x1_12, x1_13, x1_14, x1_15, e1⟩ := len16 (show f_to_sip.length = 16 from (h.1.2).len)
  subst e0
  subst e1
  rfl
theorem av_own {o : AdvV} (h : IsAv o) : seg (avC o) 35 2 = some (diC o.own) := by
  obtain ⟨⟨f_to_dip, f_to_dbits, f_to_sip, f_to_sbits, f_to_rt⟩, ⟨f_own_seq, f_own_met⟩⟩ := o
  obtain ⟨x0_0, x0_1, x0_2, x0_3, x0_4, x0_5, x0_6, x0_7, x0_8, x0_9, x0_10, x0_11, x0_12, x0_13, x0_14, x0_15, e0⟩ := len16 (show f_to_dip.length = 16 from (h.1.1).len)
  obtain ⟨x1_0, x1_1, x1_2, x1_3, x1_4, x1_5, x1_6, x1_7, x1_8, x1_9, x1_10, x1_11, x1_12, x1_13, x1_14, x1_15, e1⟩ := len16 (show f_to_sip.length = 16 from (h.1.2).len)
  subst e0
  subst e1
  rfl
theorem av_own_seq {o : AdvV} (h : IsAv o) : nth (avC o) 35 = some (.int .u16 o.own.seq) := by
  obtain ⟨⟨f_to_dip, f_to_dbits, f_to_sip, f_to_sbits, f_to_rt⟩, ⟨f_own_seq, f_own_met⟩⟩ := o
  obtain ⟨x0_0, x0_1, x0_2, x0_3, x0_4, x0_5, x0_6, x0_7, x0_8, x0_9, x0_10, x0_11, x0_12, x0_13, x0_14, x0_15, e0⟩ := len16 (show f_to_dip.length = 16 from (h.1.1).len)
  obtain ⟨x1_0, x1_1, x1_2, x1_3, x1_4, x1_5, x1_6, x1_7, x1_8, x1_9, x1_10, x1_11, x1_12, x1_13, x1_14, x1_15, e1⟩ := len16 (show f_to_sip.length = 16 from (h.1.2).len)
  subst e0
  subst e1
  rfl
theorem av_own_met {o : AdvV} (h : IsAv o) : nth (avC o) 36 = some (.int .i64 o.own.met) := by
  obtain ⟨⟨f_to_dip, f_to_dbits, f_to_sip, f_to_sbits, f_to_rt⟩, ⟨f_own_seq, f_own_met⟩⟩ := o
  obtain ⟨x0_0, x0_1, x0_2, x0_3, x0_4, x0_5, x0_6, x0_7, x0_8, x0_9, x0_10, x0_11, x0_12, x0_13, x0_14, x0_15, e0⟩ := len16 (show f_to_dip.length = 16 from (h.1.1).len)
  obtain ⟨x1_0, x1_1, x1_2, x1_3, x1_4, x1_5, x1_6, x1_7, x1_8, x1_9, x1_10, x1_11, x1_12, x1_13, x1_14, x1_15, e1⟩ := len16 (show f_to_sip.length = 16 from (h.1.2).len)
  subst e0
  subst e1
  rfl
theorem av_put_own {o : AdvV} (h : IsAv o) {z : DisV} (hz : IsDi z) : put (avC o) 35 (diC z) = some (avC { o with own := z }) := by
  obtain ⟨⟨f_to_dip, f_to_dbits, f_to_sip, f_to_sbits, f_to_rt⟩, ⟨f_own_seq, f_own_met⟩⟩ := o
  obtain ⟨x0_0, x0_1, x0_2, x0_3, x0_4, x0_5, x0_6, x0_7, x0_8, x0_9, x0_10, x0_11, x0_12, x0_13, x0_14, x0_15, e0⟩ := len16 (show f_to_dip.length = 16 from (h.1.1).len)
  obtain ⟨x1_0, x1_1, x1_2, x1_3, x1_4, x1_5, x1_6, x1_7, x1_8, x1_9, x1_10, x1_11, x1_12, x1_13, x1_14, x1_15, e1⟩ := len16 (show f_to_sip.length = 16 from (h.1.2).len)
  subst e0
  subst e1
  obtain ⟨z_seq, z_met⟩ := z
  rfl
theorem av_put_own_met {o : AdvV} (h : IsAv o) (z : Int) : put (avC o) 36 [.int .i64 z] = some (avC { o with own := { o.own with met := z } }) := by
  obtain ⟨⟨f_to_dip, f_to_dbits, f_to_sip, f_to_sbits, f_to_rt⟩, ⟨f_own_seq, f_own_met⟩⟩ := o
  obtain ⟨x0_0, x0_1, x0_2, x0_3, x0_4, x0_5, x0_6, x0_7, x0_8, x0_9, x0_10, x0_11, x0_12, x0_13, x0_14, x0_15, e0⟩ := len16 (show f_to_dip.length = 16 from (h.1.1).len)
  obtain ⟨x1_0, x1_1, x1_2, x1_3, x1_4, x1_5, x1_6, x1_7, x1_8, x1_9, x1_10, x1_11, x1_12, x1_13, x1_14, x1_15, e1⟩ := len16 (show f_to_sip.length = 16 from (h.1.2).len)
  subst e0
  subst e1
  rfl
theorem av_one (o : AdvV) : (avC o).all (·.oneCell') = true := by
  simp [pfC, ipC, avC, dvC, diC, Value.oneCell']
def avZ : List Value := [.int .u8 0, .int .u8 0, .int .u8 0, .int .u8 0, .int .u8 0, .int .u8 0, .int .u8 0, .int .u8 0, .int .u8 0, .int .u8 0, .int .u8 0, .int .u8 0, .int .u8 0, .int .u8 0, .int .u8 0, .int .u8 0, .int .i64 0, .int .u8 0, .int .u8 0, .int .u8 0, .int .u8 0, .int .u8 0, .int .u8 0, .int .u8 0, .int .u8 0, .int .u8 0, .int .u8 0, .int .u8 0, .int .u8 0, .int .u8 0, .int .u8 0, .int .u8 0, .int .u8 0, .int .i64 0, .int .u64 0, .int .u16 0, .int .i64 0]
theorem av_build {o : AdvV} (h : IsAv o) : putAll [(0, 35), (35, 2)] avZ [(0, dvC o.to), (1, diC o.own)] = some (avC o) := by
  obtain ⟨⟨f_to_dip, f_to_dbits, f_to_sip, f_to_sbits, f_to_rt⟩, ⟨f_own_seq, f_own_met⟩⟩ := o
  obtain ⟨x0_0, x0_1, x0_2, x0_3, x0_4, x0_5, x0_6, x0_7, x0_8, x0_9, x0_10, x0_11, x0_12, x0_13, x0_14, x0_15, e0⟩ := len16 (show f_to_dip.length = 16 from (h.1.1).len)
  obtain ⟨x1_0, x1_1, x1_2, x1_3, x1_4, x1_5, x1_6, x1_7, x1_8, x1_9, x1_10, x1_11, x1_12, x1_13, x1_14, x1_15, e1⟩ := len16 (show f_to_sip.length = 16 from (h.1.2).len)
  subst e0
  subst e1
  rfl
theorem av_build1 {o : AdvV} (h : IsAv o) : putAll (placesL 1 37) (zerosL avZ (1 * 37)) [(0, avC o)] = some (avC o) := by
  obtain ⟨⟨f_to_dip, f_to_dbits, f_to_sip, f_to_sbits, f_to_rt⟩, ⟨f_own_seq, f_own_met⟩⟩ := o
  obtain ⟨x0_0, x0_1, x0_2, x0_3, x0_4, x0_5, x0_6, x0_7, x0_8, x0_9, x0_10, x0_11, x0_12, x0_13, x0_14, x0_15, e0⟩ := len16 (show f_to_dip.length = 16 from (h.1.1).len)
  obtain ⟨x1_0, x1_1, x1_2, x1_3, x1_4, x1_5, x1_6, x1_7, x1_8, x1_9, x1_10, x1_11, x1_12, x1_13, x1_14, x1_15, e1⟩ := len16 (show f_to_sip.length = 16 from (h.1.2).len)
  subst e0
  subst e1
  rfl
abbrev avK : List LK := [.i .u8, .i .u8, .i .u8, .i .u8, .i .u8, .i .u8, .i .u8, .i .u8, .i .u8, .i .u8, .i .u8, .i .u8, .i .u8, .i .u8, .i .u8, .i .u8, .i .i64, .i .u8, .i .u8, .i .u8, .i .u8, .i .u8, .i .u8, .i .u8, .i .u8, .i .u8, .i .u8, .i .u8, .i .u8, .i .u8, .i .u8, .i .u8, .i .u8, .i .i64, .i .u64, .i .u16, .i .i64]
theorem av_fits {o : AdvV} (h : IsAv o) : fitsK avK (avC o) = true := by
  obtain ⟨⟨f_to_dip, f_to_dbits, f_to_sip, f_to_sbits, f_to_rt⟩, ⟨f_own_seq, f_own_met⟩⟩ := o
  obtain ⟨x0_0, x0_1, x0_2, x0_3, x0_4, x0_5, x0_6, x0_7, x0_8, x0_9, x0_10, x0_11, x0_12, x0_13, x0_14, x0_15, e0⟩ := len16 (show f_to_dip.length = 16 from (h.1.1).len)
  obtain ⟨x1_0, x1_1, x1_2, x1_3, x1_4, x1_5, x1_6, x1_7, x1_8, x1_9, x1_10, x1_11, x1_12, x1_13, x1_14, x1_15, e1⟩ := len16 (show f_to_sip.length = 16 from (h.1.2).len)
  subst e0
  subst e1
  rfl
theorem av_eq {a b : AdvV} (ha : IsAv a) (hb : IsAv b) : eqVs (avC a) (avC b) = decide (a = b) := by
  have l0 := dv_eq (ha.1) (hb.1)
  have m0 : (dvC a.to).length = (dvC b.to).length := by rw [dv_len (ha.1), dv_len (hb.1)]
  have l1 := di_eq (ha.2) (hb.2)
  have m1 : (diC a.own).length = (diC b.own).length := by rw [di_len (ha.2), di_len (hb.2)]
  rw [Bool.eq_iff_iff, decide_eq_true_eq]
  obtain ⟨a_to, a_own⟩ := a
  obtain ⟨b_to, b_own⟩ := b
  dsimp only at l0 l1 m0 m1
  simp only [avC, AdvV.mk.injEq]
  rw [eqVs_append _ _ _ _ (by first | rfl | assumption | (simp [pfC, ipC]; assumption))]
  rw [l0]
  rw [l1]
  simp [eqVs, eqV, Bool.and_eq_true, beq_iff_eq, Bool.and_true, and_assoc, decide_eq_true_eq, List.cons_append, List.nil_append]
abbrev avsC (l : List AdvV) : List Value := encL avC l
theorem avs_len {l : List AdvV} (h : ∀ x ∈ l, IsAv x) : ∀ x ∈ l, (avC x).length = 37 := fun x hx => av_len (h x hx)
theorem avs_one {l : List AdvV} : (avsC l).all (·.oneCell') = true := encL_all fun x _ => av_one x
/-! InsV -/
structure InsV where
  to : DstV
  nb : Int
  own : DisV
  btn : Int
  til : Int
  deriving DecidableEq
def inC (o : InsV) : List Value := dvC o.to ++ ([.int .u64 o.nb] ++ (diC o.own ++ ([.int .i64 o.btn, .int .i64 o.til])))
def IsIn (o : InsV) : Prop := IsDv o.to ∧ IsDi o.own
theorem in_len {o : InsV} (h : IsIn o) : (inC o).length = 40 := by
  obtain ⟨⟨f_to_dip, f_to_dbits, f_to_sip, f_to_sbits, f_to_rt⟩, f_nb, ⟨f_own_seq, f_own_met⟩, f_btn, f_til⟩ := o
  obtain ⟨x0_0, x0_1, x0_2, x0_3, x0_4, x0_5, x0_6, x0_7, x0_8, x0_9, x0_10, x0_11, x0_12, x0_13, x0_14, x0_15, e0⟩ := len16 (show f_to_dip.length = 16 from (h.1.1).len)
  obtain ⟨x1_0, x1_1, x1_2, x1_3, x1_4, x1_5, x1_6, x1_7, x1_8, x1_9, x1_10, x1_11, x1_12, x1_13, x1_14, x1_15, e1⟩ := len16 (show f_to_sip.length = 16 from (h.1.2).len)
  subst e0
  subst e1
  rfl
theorem in_all {o : InsV} (h : IsIn o) : seg (inC o) 0 40 = some (inC o) := sg_all (in_len h)
theorem in_to {o : InsV} (h : IsIn o) : seg (inC o) 0 35 = some (dvC o.to) := by
  obtain ⟨⟨f_to_dip, f_to_dbits, f_to_sip, f_to_sbits, f_to_rt⟩, f_nb, ⟨f_own_seq, f_own_met⟩, f_btn, f_til⟩ := o
  obtain ⟨x0_0, x0_1, x0_2, x0_3, x0_4, x0_5, x0_6, x0_7, x0_8, x0_9, x0_10, x0_11, x0_12, x0_13, x0_14, x0_15, e0⟩ := len16 (show f_to_dip.length = 16 from (h.1.1).len)
  obtain ⟨x1_0, x1_1, x1_2, x1_3, x1_4, x1_5, x1_6, x1_7, x1_8, x1_9, x1_10, x1_11, x1_12, x1_13, x1_14, x1_15, e1⟩ := len16 (show f_to_sip.length = 16 from (h.1.2).len)
  subst e0
  subst e1
  rfl
theorem in_put_nb {o : InsV} (h : IsIn o) (z : Int) : put (inC o) 35 [.int .u64 z] = some (inC { o with nb := z }) := by
  obtain ⟨⟨f_to_dip, f_to_dbits, f_to_sip, f_to_sbits, f_to_rt⟩, f_nb, ⟨f_own_seq, f_own_met⟩, f_btn, f_til⟩ := o
  obtain ⟨x0_0, x0_1, x0_2, x0_3, x0_4, x0_5, x0_6, x0_7, x0_8, x0_9, x0_10, x0_11, x0_12, x0_13, x0_14, x0_15, e0⟩ := len16 (show f_to_dip.length = 16 from (h.1.1).len)
  obtain ⟨x1_0, x1_1, x1_2, x1_3, x1_4, x1_5, x1_6, x1_7, x1_8, x1_9, x1_10, x1_11, x1_12, x1_13, x1_14, x1_15, e1⟩ := len16 (show f_to_sip.length = 16 from (h.1.2).len)
  subst e0
  subst e1
  rfl
theorem in_own {o : InsV} (h : IsIn o) : seg (inC o) 36 2 = some (diC o.own) := by
  obtain ⟨⟨f_to_dip, f_to_dbits, f_to_sip, f_to_sbits, f_to_rt⟩, f_nb, ⟨f_own_seq, f_own_met⟩, f_btn, f_til⟩ := o
  obtain ⟨x0_0, x0_1, x0_2, x0_3, x0_4, x0_5, x0_6, x0_7, x0_8, x0_9, x0_10, x0_11, x0_12, x0_13, x0_14, x0_15, e0⟩ := len16 (show f_to_dip.length = 16 from (h.1.1).len)
  obtain ⟨x1_0, x1_1, x1_2, x1_3, x1_4, x1_5, x1_6, x1_7, x1_8, x1_9, x1_10, x1_11, x1_12, x1_13, x1_14, x1_15, e1⟩ := len16 (show f_to_sip.length = 16 from (h.1.2).len)
  subst e0
  subst e1
  rfl
theorem in_put_own_met {o : InsV} (h : IsIn o) (z : Int) : put (inC o) 37 [.int .i64 z] = some (inC { o with own := { o.own with met := z } }) := by
  obtain ⟨⟨f_to_dip, f_to_dbits, f_to_sip, f_to_sbits, f_to_rt⟩, f_nb, ⟨f_own_seq, f_own_met⟩, f_btn, f_til⟩ := o
  obtain ⟨x0_0, x0_1, x0_2, x0_3, x0_4, x0_5, x0_6, x0_7, x0_8, x0_9, x0_10, x0_11, x0_12, x0_13, x0_14, x0_15, e0⟩ := len16 (show f_to_dip.length = 16 from (h.1.1).len)
  obtain ⟨x1_0, x1_1, x1_2, x1_3, x1_4, x1_5, x1_6, x1_7, x1_8, x1_9, x1_10, x1_11, x1_12, x1_13, x1_14, x1_15, e1⟩ := len16 (show f_to_sip.length = 16 from (h.1.2).len)
  subst e0
  subst e1
  rfl
theorem in_put_btn {o : InsV} (h : IsIn o) (z : Int) : put (inC o) 38 [.int .i64 z] = some (inC { o with btn := z }) := by
  obtain ⟨⟨f_to_dip, f_to_dbits, f_to_sip, f_to_sbits, f_to_rt⟩, f_nb, ⟨f_own_seq, f_own_met⟩, f_btn, f_til⟩ := o
  obtain ⟨x0_0, x0_1, x0_2, x0_3, x0_4, x0_5, x0_6, x0_7, x0_8, x0_9, x0_10, x0_11, x0_12, x0_13, x0_14, x0_15, e0⟩ := len16 (show f_to_dip.length = 16 from (h.1.1).len)
  obtain ⟨x1_0, x1_1, x1_2, x1_3, x1_4, x1_5, x1_6, x1_7, x1_8, x1_9, x1_10, x1_11, x1_12, x1_13, x1_14, x1_15, e1⟩ := len16 (show f_to_sip.length = 16 from (h.1.2).len)
  subst e0
  subst e1
  rfl
theorem in_put_til {o : InsV} (h : IsIn o) (z : Int) : put (inC o) 39 [.int .i64 z] = some (inC { o with til := z }) := by
  obtain ⟨⟨f_to_dip, f_to_dbits, f_to_sip, f_to_sbits, f_to_rt⟩, f_nb, ⟨f_own_seq, f_own_met⟩, f_btn, f_til⟩ := o
  obtain ⟨x0_0, x0_1, x0_2, x0_3, x0_4, x0_5, x0_6, x0_7, x0_8, x0_9, x0_10, x0_11, x0_12, x0_13, x0_14, x0_15, e0⟩ := len16 (show f_to_dip.length = 16 from (h.1.1).len)
  obtain ⟨x1_0, x1_1, x1_2, x1_3, x1_4, x1_5, x1_6, x1_7, x1_8, x1_9, x1_10, x1_11, x1_12, x1_13, x1_14, x1_15, e1⟩ := len16 (show f_to_sip.length = 16 from (h.1.2).len)
  subst e0
  subst e1
  rfl
theorem in_one (o : InsV) : (inC o).all (·.oneCell') = true := by
  simp [pfC, ipC, inC, dvC, diC, Value.oneCell']
def inZ : List Value := [.int .u8 0, .int .u8 0, .int .u8 0, .int .u8 0, .int .u8 0, .int .u8 0, .int .u8 0, .int .u8 0, .int .u8 0, .int .u8 0, .int .u8 0, .int .u8 0, .int .u8 0, .int .u8 0, .int .u8 0, .int .u8 0, .int .i64 0, .int .u8 0, .int .u8 0, .int .u8 0, .int .u8 0, .int .u8 0, .int .u8 0, .int .u8 0, .int .u8 0, .int .u8 0, .int .u8 0, .int .u8 0, .int .u8 0, .int .u8 0, .int .u8 0, .int .u8 0, .int .u8 0, .int .i64 0, .int .u64 0, .int .u64 0, .int .u16 0, .int .i64 0, .int .i64 0, .int .i64 0]
theorem in_build1 {o : InsV} (h : IsIn o) : putAll (placesL 1 40) (zerosL inZ (1 * 40)) [(0, inC o)] = some (inC o) := by
  obtain ⟨⟨f_to_dip, f_to_dbits, f_to_sip, f_to_sbits, f_to_rt⟩, f_nb, ⟨f_own_seq, f_own_met⟩, f_btn, f_til⟩ := o
  obtain ⟨x0_0, x0_1, x0_2, x0_3, x0_4, x0_5, x0_6, x0_7, x0_8, x0_9, x0_10, x0_11, x0_12, x0_13, x0_14, x0_15, e0⟩ := len16 (show f_to_dip.length = 16 from (h.1.1).len)
  obtain ⟨x1_0, x1_1, x1_2, x1_3, x1_4, x1_5, x1_6, x1_7, x1_8, x1_9, x1_10, x1_11, x1_12, x1_13, x1_14, x1_15, e1⟩ := len16 (show f_to_sip.length = 16 from (h.1.2).len)
  subst e0
  subst e1
  rfl
abbrev insC (l : List InsV) : List Value := encL inC l
theorem ins_len {l : List InsV} (h : ∀ x ∈ l, IsIn x) : ∀ x ∈ l, (inC x).length = 40 := fun x hx => in_len (h x hx)
end Go.Proofs.Ytilgoepokaaleaa
/-! Y1 -/
namespace Go.Proofs.Ytilgoepokaaleaa
set_option linter.unusedVariables false
set_option linter.unusedSimpArgs false
def keyD (d : DstV) : List Int := d.dip ++ (d.dbits :: (d.sip ++ [d.sbits, d.rt]))
def cmpD (a b : DstV) : Int := cmpL (keyD a) (keyD b)
theorem cmpD_self (a : DstV) : cmpD a a = 0 := cmpL_self _
theorem cmpD_anti (a b : DstV) : cmpD b a = - cmpD a b := cmpL_anti _ _
theorem cmpD_trans {a b c : DstV} (h : cmpD a b < 0) (k : cmpD b c < 0) : cmpD a c < 0 := cmpL_lt_trans h k
theorem cmpD_zero {a b : DstV} (ha : IsDv a) (hb : IsDv b) (h : cmpD a b = 0) : a = b := by
  have h1 := cmpL_zero h
  obtain ⟨d1, d2, s1, s2, r⟩ := a
  obtain ⟨e1, e2, t1, t2, q⟩ := b
  simp only [keyD] at h1
  obtain ⟨h2, h3⟩ := List.append_inj h1 (by rw [(show IsIP d1 from ha.1).len, (show IsIP e1 from hb.1).len])
  simp only [List.cons.injEq] at h3
  obtain ⟨h4, h5⟩ := List.append_inj h3.2 (by rw [(show IsIP s1 from ha.2).len, (show IsIP t1 from hb.2).len])
  simp only [List.cons.injEq, and_true] at h5
  rw [h2, h3.1, h4, h5.1, h5.2]
/-- the parts in their order -/
def cmpI (a b : Int) : Int := if a < b then -1 else if b < a then 1 else 0
def orI (a b : Int) : Int := if a = 0 then b else a
theorem cmpL_cons (x y : Int) (xs ys : List Int) : cmpL (x :: xs) (y :: ys) = orI (cmpI x y) (cmpL xs ys) := by
  simp only [cmpL, orI, cmpI]
  split
  · rfl
  · split <;> rfl
theorem cmpL_two : ∀ (xs ys us vs : List Int), xs.length = ys.length → cmpL (xs ++ us) (ys ++ vs) = orI (cmpL xs ys) (cmpL us vs)
  | [], [], _, _, _ => rfl
  | x :: xs, y :: ys, us, vs, h => by
    rw [List.cons_append, List.cons_append, cmpL_cons, cmpL_cons, cmpL_two xs ys us vs (by simpa using h)]
    simp only [orI]
    split <;> simp_all
  | [], _ :: _, _, _, h => by cases h
  | _ :: _, [], _, _, h => by cases h
theorem cmpD_or {a b : DstV} (ha : IsDv a) (hb : IsDv b) : cmpD a b = orI (cmpL a.dip b.dip) (orI (cmpI a.dbits b.dbits) (orI (cmpL a.sip b.sip) (orI (cmpI a.sbits b.sbits) (cmpI a.rt b.rt)))) := by
  unfold cmpD keyD
  rw [cmpL_two _ _ _ _ (by rw [ha.1.len, hb.1.len]), cmpL_cons, cmpL_two _ _ _ _ (by rw [ha.2.len, hb.2.len]), cmpL_cons, cmpL_cons]
  congr 4
  simp only [cmpL, orI, cmpI]
  split <;> simp_all
/-! strictly ascending lists over their keys -/
section asc
variable {α : Type} (key : α → DstV)
def AscK (l : List α) : Prop := l.Pairwise fun a b => cmpD (key a) (key b) < 0
theorem ascK_unique : ∀ (az bs : List α), AscK key az → AscK key bs → (∀ x, x ∈ az ↔ x ∈ bs) → az = bs
  | [], bs, _, _, h => by
    cases bs with
    | nil => rfl
    | cons b bs => have := (h b).2 (by simp); cases this
  | a :: az, [], _, _, h => by have := (h a).1 (by simp); cases this
  | a :: az, b :: bs, ha, hb, h => by
    obtain ⟨ha1, ha2⟩ := List.pairwise_cons.1 ha
    obtain ⟨hb1, hb2⟩ := List.pairwise_cons.1 hb
    have hab : a = b := by
      rcases List.mem_cons.1 ((h a).1 (by simp)) with h1 | h1
      · exact h1
      · rcases List.mem_cons.1 ((h b).2 (by simp)) with h2 | h2
        · exact h2.symm
        · have h3 := hb1 a h1
          have h4 := ha1 b h2
          have := cmpD_anti (key a) (key b)
          omega
    subst hab
    have hne : ∀ x, cmpD (key a) (key x) < 0 → x ≠ a := fun x hx e => by rw [e, cmpD_self] at hx; omega
    rw [ascK_unique az bs ha2 hb2 fun x => ⟨fun hx => by
      rcases List.mem_cons.1 ((h x).1 (by simp [hx])) with h1 | h1
      · exact absurd h1 (hne x (ha1 x hx))
      · exact h1, fun hx => by
      rcases List.mem_cons.1 ((h x).2 (by simp [hx])) with h1 | h1
      · exact absurd h1 (hne x (hb1 x hx))
      · exact h1⟩]
variable {key}
theorem AscK.key_inj {l : List α} (h : AscK key l) {x y : α} (hx : x ∈ l) (hy : y ∈ l) (e : key x = key y) : x = y := by
  induction l with
  | nil => cases hx
  | cons a l ih =>
    obtain ⟨h1, h2⟩ := List.pairwise_cons.1 h
    rcases List.mem_cons.1 hx with ex | ex
    · rcases List.mem_cons.1 hy with ey | ey
      · rw [ex, ey]
      · have := h1 y ey
        rw [← ex, e, cmpD_self] at this
        omega
    · rcases List.mem_cons.1 hy with ey | ey
      · have := h1 x ex
        rw [← ey, e, cmpD_self] at this
        omega
      · exact ih h2 ex ey
theorem AscK.sub {l m : List α} (h : AscK key l) (hs : m.Sublist l) : AscK key m := List.Pairwise.sublist hs h
theorem AscK.filter {l : List α} (h : AscK key l) (f : α → Bool) : AscK key (l.filter f) := h.sub List.filter_sublist
end asc
/-! what is announced -/
def inf : Int := 65535
def getO (l : List AdvV) (t : DstV) : Option DisV := (l.find? fun a => decide (a.to = t)).map (·.own)
abbrev AscA (l : List AdvV) : Prop := AscK AdvV.to l
theorem getO_none {l : List AdvV} {t : DstV} : getO l t = none ↔ ∀ a ∈ l, a.to ≠ t := by
  simp [getO]
theorem getO_some {l : List AdvV} (h : AscA l) {t : DstV} {o : DisV} : getO l t = some o ↔ (⟨t, o⟩ : AdvV) ∈ l := by
  unfold getO
  constructor
  · intro h1
    simp only [Option.map_eq_some_iff] at h1
    obtain ⟨a, h2, rfl⟩ := h1
    have h3 := List.find?_some h2
    simp only [decide_eq_true_eq] at h3
    subst h3
    exact List.mem_of_find?_eq_some h2
  · intro h1
    cases h2 : l.find? fun a => decide (a.to = t) with
    | none =>
      have := List.find?_eq_none.1 h2 _ h1
      simp at this
    | some b =>
      have h3 := List.find?_some h2
      simp only [decide_eq_true_eq] at h3
      have := h.key_inj (List.mem_of_find?_eq_some h2) h1 h3
      subst this
      rfl
theorem getO_mem {l : List AdvV} (h : AscA l) {a : AdvV} (ha : a ∈ l) : getO l a.to = some a.own := (getO_some h).2 ha
def keepG (full : Bool) (T : List AdvV) (a : AdvV) : Bool := full || match getO T a.to with
  | some own => !decide (own = a.own)
  | none => !decide (a.own.met = inf)
def dropG (l : List AdvV) (a : AdvV) : Bool := (getO l a.to).isNone && !decide (a.own.met = inf)
def retr (a : AdvV) : AdvV := { a with own := { a.own with met := inf } }
def sentG (full : Bool) (T l : List AdvV) : List AdvV := l.filter (keepG full T) ++ (T.filter (dropG l)).map retr
/-- both at once, as the reference goes -/
def mrg (full : Bool) : List AdvV → List AdvV → List AdvV
  | [], [] => []
  | x :: l, [] => (if full || !decide (x.own.met = inf) then [x] else []) ++ mrg full l []
  | [], y :: t => (if decide (y.own.met = inf) then [] else [retr y]) ++ mrg full [] t
  | x :: l, y :: t =>
    if x.to = y.to then (if full || !decide (y.own = x.own) then [x] else []) ++ mrg full l t
    else if cmpD x.to y.to < 0 then (if full || !decide (x.own.met = inf) then [x] else []) ++ mrg full l (y :: t)
    else (if decide (y.own.met = inf) then [] else [retr y]) ++ mrg full (x :: l) t
termination_by l t => l.length + t.length
/-- all of them behind a destination -/
def Lo (d : DstV) (l : List AdvV) : Prop := ∀ x ∈ l, cmpD d x.to < 0
theorem Lo.ne {d : DstV} {l : List AdvV} (h : Lo d l) : getO l d = none := getO_none.2 fun a ha e => by
  have := h a ha
  rw [e, cmpD_self] at this
  omega
theorem Lo.trans {d e : DstV} {l : List AdvV} (h : Lo e l) (k : cmpD d e < 0) : Lo d l := fun x hx => cmpD_trans k (h x hx)
theorem lo_cons {d : DstV} {x : AdvV} {l : List AdvV} (ha : AscA (x :: l)) (h : cmpD d x.to < 0) : Lo d (x :: l) := fun z hz => by
  rcases List.mem_cons.1 hz with rfl | hz
  · exact h
  · exact cmpD_trans h ((List.pairwise_cons.1 ha).1 z hz)
theorem getO_cons (a : AdvV) (l : List AdvV) (t : DstV) : getO (a :: l) t = if a.to = t then some a.own else getO l t := by
  unfold getO
  rw [List.find?_cons]
  by_cases h : a.to = t
  · simp [h]
  · simp [h]
theorem mem_ite {c : Bool} {x a : AdvV} : a ∈ (if c then [x] else []) ↔ c = true ∧ a = x := by
  cases c <;> simp
theorem mem_ite' {c : Bool} {x a : AdvV} : a ∈ (if c then [] else [x]) ↔ c = false ∧ a = x := by
  cases c <;> simp
theorem mrg_spec (full : Bool) : ∀ (l t : List AdvV), AscA l → AscA t → (∀ x ∈ l, IsDv x.to) → (∀ x ∈ t, IsDv x.to) →
    (∀ a, a ∈ mrg full l t ↔ (a ∈ l ∧ keepG full t a = true) ∨ ∃ y ∈ t, dropG l y = true ∧ a = retr y) ∧ AscA (mrg full l t) ∧ (∀ d, Lo d l → Lo d t → Lo d (mrg full l t))
  | [], [], _, _, _, _ => by
    unfold mrg
    exact ⟨fun a => by simp, .nil, fun d _ _ x hx => by cases hx⟩
  | x :: l, [], hl, _, il, _ => by
    obtain ⟨h1, h2⟩ := List.pairwise_cons.1 hl
    obtain ⟨m1, m2, m3⟩ := mrg_spec full l [] h2 .nil (fun z hz => il z (List.mem_cons_of_mem _ hz)) (fun z hz => by cases hz)
    have hlo : Lo x.to (mrg full l []) := m3 _ (fun z hz => h1 z hz) (fun z hz => by cases hz)
    unfold mrg
    refine ⟨fun a => ?_, ?_, fun d hd _ => ?_⟩
    · rw [List.mem_append, m1, mem_ite]
      simp only [List.mem_cons, List.not_mem_nil, false_and, exists_false, or_false]
      constructor
      · rintro (⟨c, rfl⟩ | ⟨ha, hk⟩)
        · exact ⟨.inl rfl, c⟩
        · exact ⟨.inr ha, hk⟩
      · rintro ⟨rfl | ha, hk⟩
        · exact .inl ⟨hk, rfl⟩
        · exact .inr ⟨ha, hk⟩
    · split
      · exact List.pairwise_cons.2 ⟨hlo, m2⟩
      · simpa using m2
    · intro z hz
      rcases List.mem_append.1 hz with hz | hz
      · obtain ⟨_, rfl⟩ := mem_ite.1 hz
        exact hd _ List.mem_cons_self
      · exact m3 d (fun z hz => hd z (List.mem_cons_of_mem _ hz)) (fun z hz => by cases hz) z hz
  | [], y :: t, _, ht, _, it => by
    obtain ⟨h1, h2⟩ := List.pairwise_cons.1 ht
    obtain ⟨m1, m2, m3⟩ := mrg_spec full [] t .nil h2 (fun z hz => by cases hz) (fun z hz => it z (List.mem_cons_of_mem _ hz))
    have hlo : Lo y.to (mrg full [] t) := m3 _ (fun z hz => by cases hz) (fun z hz => h1 z hz)
    unfold mrg
    refine ⟨fun a => ?_, ?_, fun d _ hd => ?_⟩
    · rw [List.mem_append, m1, mem_ite']
      simp only [List.mem_cons, List.not_mem_nil, false_and, false_or, exists_eq_or_imp]
      have hd : ∀ z : AdvV, dropG [] z = !decide (z.own.met = inf) := fun z => by simp [dropG, getO]
      simp only [hd]
      constructor
      · rintro (⟨c, rfl⟩ | h)
        · exact .inl ⟨by rw [c]; rfl, rfl⟩
        · exact .inr h
      · rintro (⟨c, rfl⟩ | h)
        · exact .inl ⟨by simpa using c, rfl⟩
        · exact .inr h
    · split
      · simpa using m2
      · exact List.pairwise_cons.2 ⟨hlo, m2⟩
    · intro z hz
      rcases List.mem_append.1 hz with hz | hz
      · obtain ⟨_, rfl⟩ := mem_ite'.1 hz
        exact hd y List.mem_cons_self
      · exact m3 d (fun z hz => by cases hz) (fun z hz => hd z (List.mem_cons_of_mem _ hz)) z hz
  | x :: l, y :: t, hl, ht, il, it => by
    obtain ⟨l1, l2⟩ := List.pairwise_cons.1 hl
    obtain ⟨t1, t2⟩ := List.pairwise_cons.1 ht
    have il2 : ∀ z ∈ l, IsDv z.to := fun z hz => il z (List.mem_cons_of_mem _ hz)
    have it2 : ∀ z ∈ t, IsDv z.to := fun z hz => it z (List.mem_cons_of_mem _ hz)
    by_cases hxy : x.to = y.to
    · obtain ⟨m1, m2, m3⟩ := mrg_spec full l t l2 t2 il2 it2
      have e : mrg full (x :: l) (y :: t) = (if full || !decide (y.own = x.own) then [x] else []) ++ mrg full l t := by
        conv => lhs; unfold mrg
        rw [if_pos hxy]
      rw [e]
      have hlo : Lo x.to (mrg full l t) := m3 _ l1 (by rw [hxy]; exact t1)
      have kx : keepG full (y :: t) x = (full || !decide (y.own = x.own)) := by simp [keepG, getO_cons, hxy]
      have kl : ∀ z ∈ l, keepG full (y :: t) z = keepG full t z := fun z hz => by
        have : y.to ≠ z.to := fun e => by
          have := l1 z hz
          rw [hxy, e, cmpD_self] at this
          omega
        simp [keepG, getO_cons, this]
      have dy : dropG (x :: l) y = false := by simp [dropG, getO_cons, hxy]
      have dt : ∀ z ∈ t, dropG (x :: l) z = dropG l z := fun z hz => by
        have : x.to ≠ z.to := fun e => by
          have := t1 z hz
          rw [← hxy, e, cmpD_self] at this
          omega
        simp [dropG, getO_cons, this]
      refine ⟨fun a => ?_, ?_, fun d hd _ => ?_⟩
      · rw [List.mem_append, m1, mem_ite, ← kx]
        simp only [List.mem_cons, exists_eq_or_imp, dy, Bool.false_eq_true, false_and, false_or]
        constructor
        · rintro (⟨c, rfl⟩ | ⟨ha, hk⟩ | ⟨z, hz, hd, rfl⟩)
          · exact .inl ⟨.inl rfl, c⟩
          · exact .inl ⟨.inr ha, by rw [kl a ha]; exact hk⟩
          · exact .inr ⟨z, hz, by rw [dt z hz]; exact hd, rfl⟩
        · rintro (⟨rfl | ha, hk⟩ | ⟨z, hz, hd, rfl⟩)
          · exact .inl ⟨hk, rfl⟩
          · exact .inr (.inl ⟨ha, by rw [← kl a ha]; exact hk⟩)
          · exact .inr (.inr ⟨z, hz, by rw [← dt z hz]; exact hd, rfl⟩)
      · split
        · exact List.pairwise_cons.2 ⟨hlo, m2⟩
        · simpa using m2
      · intro z hz
        rcases List.mem_append.1 hz with hz | hz
        · obtain ⟨_, rfl⟩ := mem_ite.1 hz
          exact hd _ List.mem_cons_self
        · exact hlo.trans (hd x List.mem_cons_self) z hz
    · by_cases hlt : cmpD x.to y.to < 0
      · obtain ⟨m1, m2, m3⟩ := mrg_spec full l (y :: t) l2 ht il2 it
        have e : mrg full (x :: l) (y :: t) = (if full || !decide (x.own.met = inf) then [x] else []) ++ mrg full l (y :: t) := by
          conv => lhs; unfold mrg
          rw [if_neg hxy, if_pos hlt]
        rw [e]
        have hly : Lo x.to (y :: t) := lo_cons ht hlt
        have hlo : Lo x.to (mrg full l (y :: t)) := m3 _ l1 hly
        have kx : keepG full (y :: t) x = (full || !decide (x.own.met = inf)) := by simp [keepG, hly.ne]
        have dt : ∀ z ∈ y :: t, dropG (x :: l) z = dropG l z := fun z hz => by
          have : x.to ≠ z.to := fun e => by
            have := hly z hz
            rw [e, cmpD_self] at this
            omega
          simp [dropG, getO_cons, this]
        refine ⟨fun a => ?_, ?_, fun d hd _ => ?_⟩
        · rw [List.mem_append, m1, mem_ite, ← kx]
          constructor
          · rintro (⟨c, rfl⟩ | ⟨ha, hk⟩ | ⟨z, hz, hd, rfl⟩)
            · exact .inl ⟨List.mem_cons_self, c⟩
            · exact .inl ⟨List.mem_cons_of_mem _ ha, hk⟩
            · exact .inr ⟨z, hz, by rw [dt z hz]; exact hd, rfl⟩
          · rintro (⟨ha, hk⟩ | ⟨z, hz, hd, rfl⟩)
            · rcases List.mem_cons.1 ha with rfl | ha
              · exact .inl ⟨hk, rfl⟩
              · exact .inr (.inl ⟨ha, hk⟩)
            · exact .inr (.inr ⟨z, hz, by rw [← dt z hz]; exact hd, rfl⟩)
        · split
          · exact List.pairwise_cons.2 ⟨hlo, m2⟩
          · simpa using m2
        · intro z hz
          rcases List.mem_append.1 hz with hz | hz
          · obtain ⟨_, rfl⟩ := mem_ite.1 hz
            exact hd _ List.mem_cons_self
          · exact hlo.trans (hd x List.mem_cons_self) z hz
      · have hgt : cmpD y.to x.to < 0 := by
          have h1 := cmpD_anti x.to y.to
          have h2 : cmpD x.to y.to ≠ 0 := fun h => hxy (cmpD_zero (il x List.mem_cons_self) (it y List.mem_cons_self) h)
          omega
        obtain ⟨m1, m2, m3⟩ := mrg_spec full (x :: l) t hl t2 il it2
        have e : mrg full (x :: l) (y :: t) = (if decide (y.own.met = inf) then [] else [retr y]) ++ mrg full (x :: l) t := by
          conv => lhs; unfold mrg
          rw [if_neg hxy, if_neg hlt]
        rw [e]
        have hlx : Lo y.to (x :: l) := lo_cons hl hgt
        have hlo : Lo y.to (mrg full (x :: l) t) := m3 _ hlx t1
        have dy : dropG (x :: l) y = !decide (y.own.met = inf) := by simp [dropG, hlx.ne]
        have kl : ∀ z ∈ x :: l, keepG full (y :: t) z = keepG full t z := fun z hz => by
          have : y.to ≠ z.to := fun e => by
            have := hlx z hz
            rw [e, cmpD_self] at this
            omega
          simp [keepG, getO_cons, this]
        refine ⟨fun a => ?_, ?_, fun d _ hd => ?_⟩
        · rw [List.mem_append, m1, mem_ite']
          constructor
          · rintro (⟨c, rfl⟩ | ⟨ha, hk⟩ | ⟨z, hz, hd, rfl⟩)
            · exact .inr ⟨y, List.mem_cons_self, by rw [dy, c]; rfl, rfl⟩
            · exact .inl ⟨ha, by rw [kl a ha]; exact hk⟩
            · exact .inr ⟨z, List.mem_cons_of_mem _ hz, hd, rfl⟩
          · rintro (⟨ha, hk⟩ | ⟨z, hz, hd, rfl⟩)
            · exact .inr (.inl ⟨ha, by rw [← kl a ha]; exact hk⟩)
            · rcases List.mem_cons.1 hz with rfl | hz
              · rw [dy] at hd
                exact .inl ⟨by simpa using hd, rfl⟩
              · exact .inr (.inr ⟨z, hz, hd, rfl⟩)
        · split
          · simpa using m2
          · exact List.pairwise_cons.2 ⟨hlo, m2⟩
        · intro z hz
          rcases List.mem_append.1 hz with hz | hz
          · obtain ⟨_, rfl⟩ := mem_ite'.1 hz
            exact hd y List.mem_cons_self
          · exact hlo.trans (hd y List.mem_cons_self) z hz
termination_by l t => l.length + t.length
end Go.Proofs.Ytilgoepokaaleaa
/-! Y2 -/
namespace Go.Proofs.Ytilgoepokaaleaa
set_option linter.unusedVariables false
set_option linter.unusedSimpArgs false
/-! validity -/
def validT (d : DstV) : Bool := validP d.dip d.dbits && validP d.sip d.sbits && !decide (d.rt = 0)
def validM (m : Int) : Bool := decide (0 ≤ m) && decide (m ≤ 65535)
def adv1 (l : List AdvV) (i : Nat) : Bool := match l[i]? with
  | none => true
  | some a => validT a.to && validM a.own.met && (decide (i = 0) || match l[i - 1]? with
    | none => true
    | some b => decide (cmpD b.to a.to < 0))
def validAs (l : List AdvV) : Bool := decide (l.length ≤ 520) && (List.range l.length).all (adv1 l)
theorem validAs_iff {l : List AdvV} : validAs l = true ↔ l.length ≤ 520 ∧ (∀ a ∈ l, validT a.to = true ∧ validM a.own.met = true) ∧ AscA l := by
  unfold validAs
  rw [Bool.and_eq_true, decide_eq_true_eq, List.all_eq_true]
  constructor
  · rintro ⟨h1, h2⟩
    have hat : ∀ i (hi : i < l.length), (validT l[i].to = true ∧ validM l[i].own.met = true) ∧ (0 < i → ∀ h : i - 1 < l.length, cmpD l[i - 1].to l[i].to < 0) := by
      intro i hi
      have := h2 i (List.mem_range.2 hi)
      simp only [adv1, List.getElem?_eq_getElem hi, Bool.and_eq_true, Bool.or_eq_true, decide_eq_true_eq] at this
      refine ⟨this.1, fun h0 h => ?_⟩
      rcases this.2 with h3 | h3
      · omega
      · rw [List.getElem?_eq_getElem h] at h3
        simpa using h3
    refine ⟨h1, fun a ha => ?_, ?_⟩
    · obtain ⟨i, hi, rfl⟩ := List.mem_iff_getElem.1 ha
      exact (hat i hi).1
    · refine List.pairwise_iff_getElem.2 ?_
      intro i j hi hj hij
      have key : ∀ n, ∀ (hn : i + 1 + n < l.length), cmpD l[i].to (l[i + 1 + n]'hn).to < 0 := by
        intro n
        induction n with
        | zero => intro hn; exact (hat (i + 1) hn).2 (by omega) (by omega)
        | succ n ih =>
          intro hn
          have h3 := (hat (i + 1 + (n + 1)) hn).2 (by omega) (by omega)
          exact cmpD_trans (ih (by omega)) h3
      have := key (j - i - 1) (by omega)
      simpa [show i + 1 + (j - i - 1) = j by omega] using this
  · rintro ⟨h1, h2, h3⟩
    refine ⟨h1, fun i hi => ?_⟩
    have hi' := List.mem_range.1 hi
    replace h3 := List.pairwise_iff_getElem.1 h3
    have h4 := h2 l[i] (List.getElem_mem hi')
    simp only [adv1, List.getElem?_eq_getElem hi', h4.1, h4.2, Bool.and_self, Bool.true_and, Bool.or_eq_true, decide_eq_true_eq]
    by_cases h0 : i = 0
    · exact .inl h0
    · right
      rw [List.getElem?_eq_getElem (show i - 1 < l.length by omega)]
      simpa using h3 (i - 1) i (by omega) hi' (by omega)
theorem validAs_asc {l : List AdvV} (h : validAs l = true) : AscA l := (validAs_iff.1 h).2.2
/-- What is sent is valid. -/
theorem mrg_valid {full : Bool} {T l : List AdvV} (hT : validAs T = true) (hl : validAs l = true) (iT : ∀ x ∈ T, IsDv x.to) (il : ∀ x ∈ l, IsDv x.to) (hn : (mrg full l T).length ≤ 520) : validAs (mrg full l T) = true := by
  obtain ⟨_, v1, a1⟩ := validAs_iff.1 hT
  obtain ⟨_, v2, a2⟩ := validAs_iff.1 hl
  obtain ⟨m1, m2, _⟩ := mrg_spec full l T a2 a1 il iT
  refine validAs_iff.2 ⟨hn, fun a ha => ?_, m2⟩
  rcases (m1 a).1 ha with ⟨h, _⟩ | ⟨y, h, _, rfl⟩
  · exact v2 a h
  · exact ⟨(v1 y h).1, rfl⟩
theorem mrg_len (full : Bool) : ∀ l t : List AdvV, (mrg full l t).length ≤ l.length + t.length
  | [], [] => by unfold mrg; simp
  | x :: l, [] => by
    have := mrg_len full l []
    unfold mrg
    rw [List.length_append]
    simp only [List.length_cons, List.length_nil] at *
    split <;> simp <;> omega
  | [], y :: t => by
    have := mrg_len full [] t
    unfold mrg
    rw [List.length_append]
    simp only [List.length_cons, List.length_nil] at *
    split <;> simp <;> omega
  | x :: l, y :: t => by
    have h1 := mrg_len full l t
    have h2 := mrg_len full l (y :: t)
    have h3 := mrg_len full (x :: l) t
    unfold mrg
    simp only [List.length_cons] at *
    split
    · rw [List.length_append]
      split <;> simp <;> omega
    · split
      · rw [List.length_append]
        split <;> simp <;> omega
      · rw [List.length_append]
        split <;> simp <;> omega
termination_by l t => l.length + t.length
/-- Due: the plan behind it, what is sent, whether it holds a retraction, how it ends -/
structure DueR where
  told : List AdvV
  full : Int
  sent : List AdvV
  urg : Bool
  err : Int
def dueV (T : List AdvV) (fl now : Int) (l : List AdvV) : DueR :=
  if !(validAs T && isTime fl) || !validAs l then ⟨[], 0, [], false, 1⟩
  else if !isTime now then ⟨[], 0, [], false, 2⟩
  else
    let full := decide (fl ≤ now)
    let sent := mrg full l T
    ⟨l, if full then laterV now 3 else fl, sent, sent.any fun a => decide (a.own.met = inf), 0⟩
end Go.Proofs.Ytilgoepokaaleaa
/-! Y3 -/
namespace Go.Proofs.Ytilgoepokaaleaa
set_option linter.unusedVariables false
set_option linter.unusedSimpArgs false
open Go.RowKit
attribute [local irreducible] OpTo wpListIn Code.wpIn MW Cal
theorem uisTime_c (t : Int) (W : World) : Cal Try.prog 46 [.int .i64 t].toArray W fun v w' => v = .bool (isTime t) ∧ Ext [] W w' := by
  unfold isTime
  by_cases h : 0 ≤ t
  · rw [decide_eq_true h, Bool.true_and]
    refine fn_ofM (n := 9) [] Try.func46 rfl rfl rfl ?_
    intro a w F M hwW
    with_reducible refine c_seq ?_
    with_reducible refine c_region ?_
    refine stepD rfl F rfl (o_assign (F.ev rfl) ?_); clear F; clear a; intro a F
    with_reducible refine l_nil ?_
    with_reducible refine q_then ?_
    with_reducible refine c_seq ?_
    with_reducible refine c_region ?_
    refine stepD rfl F rfl (o_move (F.ev rfl) ?_); clear F; clear a; intro a F
    refine stepD rfl F rfl (o_geqT (F.ev rfl) (F.ev rfl) (by omega) ?_); clear F; clear a; intro a F
    refine stepD rfl F rfl (o_move (F.ev rfl) ?_); clear F; clear a; intro a F
    refine stepG rfl F rfl rfl rfl (o_move (F.ev rfl) ?_); clear F; clear a; intro a F
    refine stepG rfl F rfl rfl rfl (o_leq (F.ev rfl) (F.ev rfl) ?_); clear F; clear a; intro a F
    refine stepD rfl F rfl (o_pickT (F.ev rfl) (F.ev rfl) ?_); clear F; clear a; intro a F
    refine stepD rfl F rfl (o_assign (F.ev rfl) ?_); clear F; clear a; intro a F
    with_reducible refine l_nil ?_
    with_reducible refine q_then ?_
    with_reducible refine c_ret ?_
    refine p_ret F rfl (.cons (.tmp (F.ev rfl)) .nil) ?_
    exact ⟨rfl, M.ext⟩
  · rw [decide_eq_false h, Bool.false_and]
    refine fn_ofM (n := 9) [] Try.func46 rfl rfl rfl ?_
    intro a w F M hwW
    with_reducible refine c_seq ?_
    with_reducible refine c_region ?_
    refine stepD rfl F rfl (o_assign (F.ev rfl) ?_); clear F; clear a; intro a F
    with_reducible refine l_nil ?_
    with_reducible refine q_then ?_
    with_reducible refine c_seq ?_
    with_reducible refine c_region ?_
    refine stepD rfl F rfl (o_move (F.ev rfl) ?_); clear F; clear a; intro a F
    refine stepD rfl F rfl (o_geqF (F.ev rfl) (F.ev rfl) (by omega) ?_); clear F; clear a; intro a F
    refine stepD rfl F rfl (o_move (F.ev rfl) ?_); clear F; clear a; intro a F
    refine stepOff F rfl rfl rfl rfl ?_; clear F; clear a; intro a F
    refine stepOff F rfl rfl rfl rfl ?_; clear F; clear a; intro a F
    refine stepD rfl F rfl (o_pickF (F.ev rfl) (F.ev rfl) ?_); clear F; clear a; intro a F
    refine stepD rfl F rfl (o_assign (F.ev rfl) ?_); clear F; clear a; intro a F
    with_reducible refine l_nil ?_
    with_reducible refine q_then ?_
    with_reducible refine c_ret ?_
    refine p_ret F rfl (.cons (.tmp (F.ev rfl)) .nil) ?_
    exact ⟨rfl, M.ext⟩
theorem mvalid_c (t : Int) (W : World) : Cal Try.prog 87 [.int .i64 t].toArray W fun v w' => v = .bool (validM t) ∧ Ext [] W w' := by
  unfold validM
  by_cases h : 0 ≤ t
  · rw [decide_eq_true h, Bool.true_and]
    refine fn_ofM (n := 9) [] Try.func87 rfl rfl rfl ?_
    intro a w F M hwW
    with_reducible refine c_seq ?_
    with_reducible refine c_region ?_
    refine stepD rfl F rfl (o_assign (F.ev rfl) ?_); clear F; clear a; intro a F
    with_reducible refine l_nil ?_
    with_reducible refine q_then ?_
    with_reducible refine c_seq ?_
    with_reducible refine c_region ?_
    refine stepD rfl F rfl (o_move (F.ev rfl) ?_); clear F; clear a; intro a F
    refine stepD rfl F rfl (o_geqT (F.ev rfl) (F.ev rfl) (by omega) ?_); clear F; clear a; intro a F
    refine stepD rfl F rfl (o_move (F.ev rfl) ?_); clear F; clear a; intro a F
    refine stepG rfl F rfl rfl rfl (o_move (F.ev rfl) ?_); clear F; clear a; intro a F
    refine stepG rfl F rfl rfl rfl (o_leq (F.ev rfl) (F.ev rfl) ?_); clear F; clear a; intro a F
    refine stepD rfl F rfl (o_pickT (F.ev rfl) (F.ev rfl) ?_); clear F; clear a; intro a F
    refine stepD rfl F rfl (o_assign (F.ev rfl) ?_); clear F; clear a; intro a F
    with_reducible refine l_nil ?_
    with_reducible refine q_then ?_
    with_reducible refine c_ret ?_
    refine p_ret F rfl (.cons (.tmp (F.ev rfl)) .nil) ?_
    exact ⟨rfl, M.ext⟩
  · rw [decide_eq_false h, Bool.false_and]
    refine fn_ofM (n := 9) [] Try.func87 rfl rfl rfl ?_
    intro a w F M hwW
    with_reducible refine c_seq ?_
    with_reducible refine c_region ?_
    refine stepD rfl F rfl (o_assign (F.ev rfl) ?_); clear F; clear a; intro a F
    with_reducible refine l_nil ?_
    with_reducible refine q_then ?_
    with_reducible refine c_seq ?_
    with_reducible refine c_region ?_
    refine stepD rfl F rfl (o_move (F.ev rfl) ?_); clear F; clear a; intro a F
    refine stepD rfl F rfl (o_geqF (F.ev rfl) (F.ev rfl) (by omega) ?_); clear F; clear a; intro a F
    refine stepD rfl F rfl (o_move (F.ev rfl) ?_); clear F; clear a; intro a F
    refine stepOff F rfl rfl rfl rfl ?_; clear F; clear a; intro a F
    refine stepOff F rfl rfl rfl rfl ?_; clear F; clear a; intro a F
    refine stepD rfl F rfl (o_pickF (F.ev rfl) (F.ev rfl) ?_); clear F; clear a; intro a F
    refine stepD rfl F rfl (o_assign (F.ev rfl) ?_); clear F; clear a; intro a F
    with_reducible refine l_nil ?_
    with_reducible refine q_then ?_
    with_reducible refine c_ret ?_
    refine p_ret F rfl (.cons (.tmp (F.ev rfl)) .nil) ?_
    exact ⟨rfl, M.ext⟩
theorem rmvalid_c (t : Int) (W : World) : Cal Try.prog 111 [.int .i64 t].toArray W fun v w' => v = .bool (validM t) ∧ Ext [] W w' := by
  unfold validM
  by_cases h : 0 ≤ t
  · rw [decide_eq_true h, Bool.true_and]
    refine fn_ofM (n := 9) [] Try.func111 rfl rfl rfl ?_
    intro a w F M hwW
    with_reducible refine c_seq ?_
    with_reducible refine c_region ?_
    refine stepD rfl F rfl (o_assign (F.ev rfl) ?_); clear F; clear a; intro a F
    with_reducible refine l_nil ?_
    with_reducible refine q_then ?_
    with_reducible refine c_seq ?_
    with_reducible refine c_region ?_
    refine stepD rfl F rfl (o_move (F.ev rfl) ?_); clear F; clear a; intro a F
    refine stepD rfl F rfl (o_geqT (F.ev rfl) (F.ev rfl) (by omega) ?_); clear F; clear a; intro a F
    refine stepD rfl F rfl (o_move (F.ev rfl) ?_); clear F; clear a; intro a F
    refine stepG rfl F rfl rfl rfl (o_move (F.ev rfl) ?_); clear F; clear a; intro a F
    refine stepG rfl F rfl rfl rfl (o_leq (F.ev rfl) (F.ev rfl) ?_); clear F; clear a; intro a F
    refine stepD rfl F rfl (o_pickT (F.ev rfl) (F.ev rfl) ?_); clear F; clear a; intro a F
    refine stepD rfl F rfl (o_assign (F.ev rfl) ?_); clear F; clear a; intro a F
    with_reducible refine l_nil ?_
    with_reducible refine q_then ?_
    with_reducible refine c_ret ?_
    refine p_ret F rfl (.cons (.tmp (F.ev rfl)) .nil) ?_
    exact ⟨rfl, M.ext⟩
  · rw [decide_eq_false h, Bool.false_and]
    refine fn_ofM (n := 9) [] Try.func111 rfl rfl rfl ?_
    intro a w F M hwW
    with_reducible refine c_seq ?_
    with_reducible refine c_region ?_
    refine stepD rfl F rfl (o_assign (F.ev rfl) ?_); clear F; clear a; intro a F
    with_reducible refine l_nil ?_
    with_reducible refine q_then ?_
    with_reducible refine c_seq ?_
    with_reducible refine c_region ?_
    refine stepD rfl F rfl (o_move (F.ev rfl) ?_); clear F; clear a; intro a F
    refine stepD rfl F rfl (o_geqF (F.ev rfl) (F.ev rfl) (by omega) ?_); clear F; clear a; intro a F
    refine stepD rfl F rfl (o_move (F.ev rfl) ?_); clear F; clear a; intro a F
    refine stepOff F rfl rfl rfl rfl ?_; clear F; clear a; intro a F
    refine stepOff F rfl rfl rfl rfl ?_; clear F; clear a; intro a F
    refine stepD rfl F rfl (o_pickF (F.ev rfl) (F.ev rfl) ?_); clear F; clear a; intro a F
    refine stepD rfl F rfl (o_assign (F.ev rfl) ?_); clear F; clear a; intro a F
    with_reducible refine l_nil ?_
    with_reducible refine q_then ?_
    with_reducible refine c_ret ?_
    refine p_ret F rfl (.cons (.tmp (F.ev rfl)) .nil) ?_
    exact ⟨rfl, M.ext⟩
theorem rdvalid_c (d : DisV) (W : World) : Cal Try.prog 89 [.agg (diC d).toArray].toArray W fun v w' => v = .bool (validM d.met) ∧ Ext [] W w' := by
  have e1 := di_met (o := d) trivial
  refine fn_ofM (n := 6) [] Try.func89 rfl rfl rfl ?_
  intro a w F M hwW
  refine c_seq ?_
  refine c_region ?_
  (refine stepD rfl F rfl (o_box M (F.ev rfl) rfl ?_); clear F; clear M; intro b1 w M a F)
  refine stepD rfl F rfl (o_assign (F.ev rfl) ?_); clear F; clear a; intro a F
  with_reducible refine l_nil ?_
  with_reducible refine q_then ?_
  with_reducible refine c_seq ?_
  with_reducible refine c_region ?_
  refine stepD rfl F rfl (o_fieldAddr (F.ev rfl) ?_); clear F; clear a; intro a F
  refine stepD rfl F rfl (o_load1 M (F.ev rfl) (by repeat (first | exact .here | apply Has.there)) (by first | assumption | rfl) ?_); clear F; clear a; intro a F
  (refine stepD rfl F rfl (o_call (F.ev rfl) (F.evs rfl) (Cal.mono (rmvalid_c d.met _) ?_)); clear F; clear a; rintro _ w ⟨rfl, hE⟩ a F; replace M := M.later hE; clear hE)
  refine stepD rfl F rfl (o_assign (F.ev rfl) ?_); clear F; clear a; intro a F
  with_reducible refine l_nil ?_
  with_reducible refine q_then ?_
  with_reducible refine c_ret ?_
  refine p_ret F rfl (.cons (.tmp (F.ev rfl)) .nil) ?_
  exact ⟨rfl, M.ext⟩
set_option maxHeartbeats 1000000 in
theorem validTo_c (d : DstV) (hd : IsDv d) (W : World) : Cal Try.prog 61 [.agg (dvC d).toArray].toArray W fun v w' => v = .bool (validT d) ∧ Ext [] W w' := by
  have e1 := dv_dst hd
  have e2 := dv_src hd
  have e3 := dv_rt hd
  unfold validT
  refine fn_ofM (n := 16) [] Try.func61 rfl rfl rfl ?_
  intro a w F M hwW
  refine c_seq ?_
  refine c_region ?_
  (refine stepD rfl F rfl (o_box M (F.ev rfl) rfl ?_); clear F; clear M; intro b1 w M a F)
  refine stepD rfl F rfl (o_assign (F.ev rfl) ?_); clear F; clear a; intro a F
  with_reducible refine l_nil ?_
  with_reducible refine q_then ?_
  with_reducible refine c_seq ?_
  with_reducible refine c_region ?_
  refine stepD rfl F rfl (o_fieldAddr (F.ev rfl) ?_); clear F; clear a; intro a F
  refine stepD rfl F rfl (o_loadA M (F.ev rfl) (by repeat (first | exact .here | apply Has.there)) (by first | assumption | rfl) ?_); clear F; clear a; intro a F
  (refine stepD rfl F rfl (o_call (F.ev rfl) (F.evs rfl) (Cal.mono (validPrefix_c d.dip d.dbits hd.1.len _) ?_)); clear F; clear a; rintro _ w ⟨rfl, hE⟩ a F; replace M := M.later hE; clear hE)
  cases h1 : validP d.dip d.dbits
  · rw [h1] at F
    refine stepD rfl F rfl (o_move (F.ev rfl) ?_); clear F; clear a; intro a F
    refine stepOff F rfl rfl rfl rfl ?_; clear F; clear a; intro a F
    refine stepOff F rfl rfl rfl rfl ?_; clear F; clear a; intro a F
    refine stepOff F rfl rfl rfl rfl ?_; clear F; clear a; intro a F
    refine stepD rfl F rfl (o_pickF (F.ev rfl) (F.ev rfl) ?_); clear F; clear a; intro a F
    refine stepD rfl F rfl (o_move (F.ev rfl) ?_); clear F; clear a; intro a F
    refine stepOff F rfl rfl rfl rfl ?_; clear F; clear a; intro a F
    refine stepOff F rfl rfl rfl rfl ?_; clear F; clear a; intro a F
    refine stepOff F rfl rfl rfl rfl ?_; clear F; clear a; intro a F
    refine stepD rfl F rfl (o_pickF (F.ev rfl) (F.ev rfl) ?_); clear F; clear a; intro a F
    refine stepD rfl F rfl (o_assign (F.ev rfl) ?_); clear F; clear a; intro a F
    with_reducible refine l_nil ?_
    with_reducible refine q_then ?_
    with_reducible refine c_ret ?_
    refine p_ret F rfl (.cons (.tmp (F.ev rfl)) .nil) ?_
    exact ⟨rfl, M.ext⟩
  · rw [h1] at F
    refine stepD rfl F rfl (o_move (F.ev rfl) ?_); clear F; clear a; intro a F
    refine stepG rfl F rfl rfl rfl (o_fieldAddr (F.ev rfl) ?_); clear F; clear a; intro a F
    refine stepG rfl F rfl rfl rfl (o_loadA M (F.ev rfl) (by repeat (first | exact .here | apply Has.there)) (by first | assumption | rfl) ?_); clear F; clear a; intro a F
    (refine stepG rfl F rfl rfl rfl (o_call (F.ev rfl) (F.evs rfl) (Cal.mono (validPrefix_c d.sip d.sbits hd.2.len _) ?_)); clear F; clear a; rintro _ w ⟨rfl, hE⟩ a F; replace M := M.later hE; clear hE)
    cases h2 : validP d.sip d.sbits
    · rw [h2] at F
      refine stepD rfl F rfl (o_pickT (F.ev rfl) (F.ev rfl) ?_); clear F; clear a; intro a F
      refine stepD rfl F rfl (o_move (F.ev rfl) ?_); clear F; clear a; intro a F
      refine stepOff F rfl rfl rfl rfl ?_; clear F; clear a; intro a F
      refine stepOff F rfl rfl rfl rfl ?_; clear F; clear a; intro a F
      refine stepOff F rfl rfl rfl rfl ?_; clear F; clear a; intro a F
      refine stepD rfl F rfl (o_pickF (F.ev rfl) (F.ev rfl) ?_); clear F; clear a; intro a F
      refine stepD rfl F rfl (o_assign (F.ev rfl) ?_); clear F; clear a; intro a F
      with_reducible refine l_nil ?_
      with_reducible refine q_then ?_
      with_reducible refine c_ret ?_
      refine p_ret F rfl (.cons (.tmp (F.ev rfl)) .nil) ?_
      exact ⟨rfl, M.ext⟩
    · rw [h2] at F
      by_cases h3 : d.rt = 0
      · rw [decide_eq_true h3]
        refine stepD rfl F rfl (o_pickT (F.ev rfl) (F.ev rfl) ?_); clear F; clear a; intro a F
        refine stepD rfl F rfl (o_move (F.ev rfl) ?_); clear F; clear a; intro a F
        refine stepG rfl F rfl rfl rfl (o_fieldAddr (F.ev rfl) ?_); clear F; clear a; intro a F
        refine stepG rfl F rfl rfl rfl (o_load1 M (F.ev rfl) (by repeat (first | exact .here | apply Has.there)) (by first | assumption | rfl) ?_); clear F; clear a; intro a F
        refine stepG rfl F rfl rfl rfl (o_neqF (F.ev rfl) (F.ev rfl) (by omega) ?_); clear F; clear a; intro a F
        refine stepD rfl F rfl (o_pickT (F.ev rfl) (F.ev rfl) ?_); clear F; clear a; intro a F
        refine stepD rfl F rfl (o_assign (F.ev rfl) ?_); clear F; clear a; intro a F
        with_reducible refine l_nil ?_
        with_reducible refine q_then ?_
        with_reducible refine c_ret ?_
        refine p_ret F rfl (.cons (.tmp (F.ev rfl)) .nil) ?_
        exact ⟨rfl, M.ext⟩
      · rw [decide_eq_false h3]
        refine stepD rfl F rfl (o_pickT (F.ev rfl) (F.ev rfl) ?_); clear F; clear a; intro a F
        refine stepD rfl F rfl (o_move (F.ev rfl) ?_); clear F; clear a; intro a F
        refine stepG rfl F rfl rfl rfl (o_fieldAddr (F.ev rfl) ?_); clear F; clear a; intro a F
        refine stepG rfl F rfl rfl rfl (o_load1 M (F.ev rfl) (by repeat (first | exact .here | apply Has.there)) (by first | assumption | rfl) ?_); clear F; clear a; intro a F
        refine stepG rfl F rfl rfl rfl (o_neqT (F.ev rfl) (F.ev rfl) (by omega) ?_); clear F; clear a; intro a F
        refine stepD rfl F rfl (o_pickT (F.ev rfl) (F.ev rfl) ?_); clear F; clear a; intro a F
        refine stepD rfl F rfl (o_assign (F.ev rfl) ?_); clear F; clear a; intro a F
        with_reducible refine l_nil ?_
        with_reducible refine q_then ?_
        with_reducible refine c_ret ?_
        refine p_ret F rfl (.cons (.tmp (F.ev rfl)) .nil) ?_
        exact ⟨rfl, M.ext⟩
set_option maxHeartbeats 1000000 in
theorem rvalidTo_c (d : DstV) (hd : IsDv d) (W : World) : Cal Try.prog 88 [.agg (dvC d).toArray].toArray W fun v w' => v = .bool (validT d) ∧ Ext [] W w' := by
  have e1 := dv_dst hd
  have e2 := dv_src hd
  have e3 := dv_rt hd
  unfold validT
  refine fn_ofM (n := 16) [] Try.func88 rfl rfl rfl ?_
  intro a w F M hwW
  refine c_seq ?_
  refine c_region ?_
  (refine stepD rfl F rfl (o_box M (F.ev rfl) rfl ?_); clear F; clear M; intro b1 w M a F)
  refine stepD rfl F rfl (o_assign (F.ev rfl) ?_); clear F; clear a; intro a F
  with_reducible refine l_nil ?_
  with_reducible refine q_then ?_
  with_reducible refine c_seq ?_
  with_reducible refine c_region ?_
  refine stepD rfl F rfl (o_fieldAddr (F.ev rfl) ?_); clear F; clear a; intro a F
  refine stepD rfl F rfl (o_loadA M (F.ev rfl) (by repeat (first | exact .here | apply Has.there)) (by first | assumption | rfl) ?_); clear F; clear a; intro a F
  (refine stepD rfl F rfl (o_call (F.ev rfl) (F.evs rfl) (Cal.mono (rvalidPrefix_c d.dip d.dbits hd.1 _) ?_)); clear F; clear a; rintro _ w ⟨rfl, hE⟩ a F; replace M := M.later hE; clear hE)
  cases h1 : validP d.dip d.dbits
  · rw [h1] at F
    refine stepD rfl F rfl (o_move (F.ev rfl) ?_); clear F; clear a; intro a F
    refine stepOff F rfl rfl rfl rfl ?_; clear F; clear a; intro a F
    refine stepOff F rfl rfl rfl rfl ?_; clear F; clear a; intro a F
    refine stepOff F rfl rfl rfl rfl ?_; clear F; clear a; intro a F
    refine stepD rfl F rfl (o_pickF (F.ev rfl) (F.ev rfl) ?_); clear F; clear a; intro a F
    refine stepD rfl F rfl (o_move (F.ev rfl) ?_); clear F; clear a; intro a F
    refine stepOff F rfl rfl rfl rfl ?_; clear F; clear a; intro a F
    refine stepOff F rfl rfl rfl rfl ?_; clear F; clear a; intro a F
    refine stepOff F rfl rfl rfl rfl ?_; clear F; clear a; intro a F
    refine stepD rfl F rfl (o_pickF (F.ev rfl) (F.ev rfl) ?_); clear F; clear a; intro a F
    refine stepD rfl F rfl (o_assign (F.ev rfl) ?_); clear F; clear a; intro a F
    with_reducible refine l_nil ?_
    with_reducible refine q_then ?_
    with_reducible refine c_ret ?_
    refine p_ret F rfl (.cons (.tmp (F.ev rfl)) .nil) ?_
    exact ⟨rfl, M.ext⟩
  · rw [h1] at F
    refine stepD rfl F rfl (o_move (F.ev rfl) ?_); clear F; clear a; intro a F
    refine stepG rfl F rfl rfl rfl (o_fieldAddr (F.ev rfl) ?_); clear F; clear a; intro a F
    refine stepG rfl F rfl rfl rfl (o_loadA M (F.ev rfl) (by repeat (first | exact .here | apply Has.there)) (by first | assumption | rfl) ?_); clear F; clear a; intro a F
    (refine stepG rfl F rfl rfl rfl (o_call (F.ev rfl) (F.evs rfl) (Cal.mono (rvalidPrefix_c d.sip d.sbits hd.2 _) ?_)); clear F; clear a; rintro _ w ⟨rfl, hE⟩ a F; replace M := M.later hE; clear hE)
    cases h2 : validP d.sip d.sbits
    · rw [h2] at F
      refine stepD rfl F rfl (o_pickT (F.ev rfl) (F.ev rfl) ?_); clear F; clear a; intro a F
      refine stepD rfl F rfl (o_move (F.ev rfl) ?_); clear F; clear a; intro a F
      refine stepOff F rfl rfl rfl rfl ?_; clear F; clear a; intro a F
      refine stepOff F rfl rfl rfl rfl ?_; clear F; clear a; intro a F
      refine stepOff F rfl rfl rfl rfl ?_; clear F; clear a; intro a F
      refine stepD rfl F rfl (o_pickF (F.ev rfl) (F.ev rfl) ?_); clear F; clear a; intro a F
      refine stepD rfl F rfl (o_assign (F.ev rfl) ?_); clear F; clear a; intro a F
      with_reducible refine l_nil ?_
      with_reducible refine q_then ?_
      with_reducible refine c_ret ?_
      refine p_ret F rfl (.cons (.tmp (F.ev rfl)) .nil) ?_
      exact ⟨rfl, M.ext⟩
    · rw [h2] at F
      by_cases h3 : d.rt = 0
      · rw [decide_eq_true h3]
        refine stepD rfl F rfl (o_pickT (F.ev rfl) (F.ev rfl) ?_); clear F; clear a; intro a F
        refine stepD rfl F rfl (o_move (F.ev rfl) ?_); clear F; clear a; intro a F
        refine stepG rfl F rfl rfl rfl (o_fieldAddr (F.ev rfl) ?_); clear F; clear a; intro a F
        refine stepG rfl F rfl rfl rfl (o_load1 M (F.ev rfl) (by repeat (first | exact .here | apply Has.there)) (by first | assumption | rfl) ?_); clear F; clear a; intro a F
        refine stepG rfl F rfl rfl rfl (o_neqF (F.ev rfl) (F.ev rfl) (by omega) ?_); clear F; clear a; intro a F
        refine stepD rfl F rfl (o_pickT (F.ev rfl) (F.ev rfl) ?_); clear F; clear a; intro a F
        refine stepD rfl F rfl (o_assign (F.ev rfl) ?_); clear F; clear a; intro a F
        with_reducible refine l_nil ?_
        with_reducible refine q_then ?_
        with_reducible refine c_ret ?_
        refine p_ret F rfl (.cons (.tmp (F.ev rfl)) .nil) ?_
        exact ⟨rfl, M.ext⟩
      · rw [decide_eq_false h3]
        refine stepD rfl F rfl (o_pickT (F.ev rfl) (F.ev rfl) ?_); clear F; clear a; intro a F
        refine stepD rfl F rfl (o_move (F.ev rfl) ?_); clear F; clear a; intro a F
        refine stepG rfl F rfl rfl rfl (o_fieldAddr (F.ev rfl) ?_); clear F; clear a; intro a F
        refine stepG rfl F rfl rfl rfl (o_load1 M (F.ev rfl) (by repeat (first | exact .here | apply Has.there)) (by first | assumption | rfl) ?_); clear F; clear a; intro a F
        refine stepG rfl F rfl rfl rfl (o_neqT (F.ev rfl) (F.ev rfl) (by omega) ?_); clear F; clear a; intro a F
        refine stepD rfl F rfl (o_pickT (F.ev rfl) (F.ev rfl) ?_); clear F; clear a; intro a F
        refine stepD rfl F rfl (o_assign (F.ev rfl) ?_); clear F; clear a; intro a F
        with_reducible refine l_nil ?_
        with_reducible refine q_then ?_
        with_reducible refine c_ret ?_
        refine p_ret F rfl (.cons (.tmp (F.ev rfl)) .nil) ?_
        exact ⟨rfl, M.ext⟩
set_option maxHeartbeats 2000000 in
theorem scompare_c (x y : DstV) (ha : IsDv x) (hb : IsDv y) (W : World) : Cal Try.prog 50 [.agg (dvC x).toArray, .agg (dvC y).toArray].toArray W fun v w' => v = .int .i64 (cmpD x y) ∧ Ext [] W w' := by
  have a1 := dv_dip ha
  have a2 := dv_dbits ha
  have a3 := dv_sip ha
  have a4 := dv_sbits ha
  have a5 := dv_rt ha
  have c1 := dv_dip hb
  have c2 := dv_dbits hb
  have c3 := dv_sip hb
  have c4 := dv_sbits hb
  have c5 := dv_rt hb
  have hr : cmpD x y = orV [cmpL x.dip y.dip, cmpV x.dbits y.dbits, cmpL x.sip y.sip, cmpV x.sbits y.sbits, cmpV x.rt y.rt] := by
    rw [cmpD_or ha hb]
    simp only [orV, orI]
    repeat' split
    all_goals first | rfl | (rename_i h; exact h) | (rename_i h; exact h.symm) | simp_all [cmpI, cmpV]
  rw [hr]
  refine fn_ofM (n := 40) [] Try.func50 rfl rfl rfl ?_
  intro a w F M hwW
  refine c_seq ?_
  refine c_region ?_
  (refine stepD rfl F rfl (o_box M (F.ev rfl) rfl ?_); clear F; clear M; intro b2 w M a F)
  (refine stepD rfl F rfl (o_box M (F.ev rfl) rfl ?_); clear F; clear M; intro b3 w M a F)
  refine stepD rfl F rfl (o_assign (F.ev rfl) ?_); clear F; clear a; intro a F
  with_reducible refine l_nil ?_
  with_reducible refine q_then ?_
  with_reducible refine c_seq ?_
  replace F := F.only [2, 3] rfl
  refine c_draw 33 F (by kernel_rfl) ?_
  intro w1 hE hok
  have M1 := M.later hE
  refine mK hok rfl rfl (fun a' w' F' E' => o_fieldAddr (F'.ev rfl) ⟨Ext.refl _ _, rfl⟩) ?_
  refine mK hok rfl rfl (fun a' w' F' E' => o_fieldAddr (F'.ev rfl) ⟨Ext.refl _ _, rfl⟩) ?_
  (refine mK hok rfl rfl (fun a' w' F' E' => o_arrAll (F'.ev rfl) ⟨Ext.refl _ _, rfl⟩) ?_)
  refine mK hok rfl rfl (fun a' w' F' E' => o_fieldAddr (F'.ev rfl) ⟨Ext.refl _ _, rfl⟩) ?_
  refine mK hok rfl rfl (fun a' w' F' E' => o_fieldAddr (F'.ev rfl) ⟨Ext.refl _ _, rfl⟩) ?_
  (refine mK hok rfl rfl (fun a' w' F' E' => o_arrAll (F'.ev rfl) ⟨Ext.refl _ _, rfl⟩) ?_)
  skip
  (refine mK hok rfl rfl (fun a' w' F' E' => o_call (F'.ev rfl) (F'.evs rfl) (Cal.mono (bytesCompare_c _ (n := 16) (m := 16) ⟨_, _, rfl, by omega, by simp, (ipC_len ha.1.len), fun _ => ⟨b2, 0, dvC x, _, _, rfl, (M1.later E').heap (.there .here), a1⟩⟩ ⟨_, _, rfl, by omega, by simp, (ipC_len hb.1.len), fun _ => ⟨b3, 0, dvC y, _, _, rfl, (M1.later E').heap .here, c1⟩⟩ ha.1.bd hb.1.bd) fun _ _ hh => ⟨hh.2, hh.1⟩)) ?_)
  refine mK hok rfl rfl (fun a' w' F' E' => o_fieldAddr (F'.ev rfl) ⟨Ext.refl _ _, rfl⟩) ?_
  refine mK hok rfl rfl (fun a' w' F' E' => o_fieldAddr (F'.ev rfl) ⟨Ext.refl _ _, rfl⟩) ?_
  refine mK hok rfl rfl (fun a' w' F' E' => o_load1 (M1.later E') (F'.ev rfl) (by repeat (first | exact .here | apply Has.there)) (by first | assumption | rfl) ⟨Ext.refl _ _, rfl⟩) ?_
  refine mK hok rfl rfl (fun a' w' F' E' => o_fieldAddr (F'.ev rfl) ⟨Ext.refl _ _, rfl⟩) ?_
  refine mK hok rfl rfl (fun a' w' F' E' => o_fieldAddr (F'.ev rfl) ⟨Ext.refl _ _, rfl⟩) ?_
  refine mK hok rfl rfl (fun a' w' F' E' => o_load1 (M1.later E') (F'.ev rfl) (by repeat (first | exact .here | apply Has.there)) (by first | assumption | rfl) ⟨Ext.refl _ _, rfl⟩) ?_
  (refine mK hok rfl rfl (fun a' w' F' E' => o_call (F'.ev rfl) (F'.evs rfl) (Cal.mono (cmp_int x.dbits y.dbits _) fun _ _ hh => ⟨hh.2, hh.1⟩)) ?_)
  refine mK hok rfl rfl (fun a' w' F' E' => o_fieldAddr (F'.ev rfl) ⟨Ext.refl _ _, rfl⟩) ?_
  refine mK hok rfl rfl (fun a' w' F' E' => o_fieldAddr (F'.ev rfl) ⟨Ext.refl _ _, rfl⟩) ?_
  (refine mK hok rfl rfl (fun a' w' F' E' => o_arrAll (F'.ev rfl) ⟨Ext.refl _ _, rfl⟩) ?_)
  refine mK hok rfl rfl (fun a' w' F' E' => o_fieldAddr (F'.ev rfl) ⟨Ext.refl _ _, rfl⟩) ?_
  refine mK hok rfl rfl (fun a' w' F' E' => o_fieldAddr (F'.ev rfl) ⟨Ext.refl _ _, rfl⟩) ?_
  (refine mK hok rfl rfl (fun a' w' F' E' => o_arrAll (F'.ev rfl) ⟨Ext.refl _ _, rfl⟩) ?_)
  skip
  (refine mK hok rfl rfl (fun a' w' F' E' => o_call (F'.ev rfl) (F'.evs rfl) (Cal.mono (bytesCompare_c _ (n := 16) (m := 16) ⟨_, _, rfl, by omega, by simp, (ipC_len ha.2.len), fun _ => ⟨b2, 17, dvC x, _, _, rfl, (M1.later E').heap (.there .here), a3⟩⟩ ⟨_, _, rfl, by omega, by simp, (ipC_len hb.2.len), fun _ => ⟨b3, 17, dvC y, _, _, rfl, (M1.later E').heap .here, c3⟩⟩ ha.2.bd hb.2.bd) fun _ _ hh => ⟨hh.2, hh.1⟩)) ?_)
  refine mK hok rfl rfl (fun a' w' F' E' => o_fieldAddr (F'.ev rfl) ⟨Ext.refl _ _, rfl⟩) ?_
  refine mK hok rfl rfl (fun a' w' F' E' => o_fieldAddr (F'.ev rfl) ⟨Ext.refl _ _, rfl⟩) ?_
  refine mK hok rfl rfl (fun a' w' F' E' => o_load1 (M1.later E') (F'.ev rfl) (by repeat (first | exact .here | apply Has.there)) (by first | assumption | rfl) ⟨Ext.refl _ _, rfl⟩) ?_
  refine mK hok rfl rfl (fun a' w' F' E' => o_fieldAddr (F'.ev rfl) ⟨Ext.refl _ _, rfl⟩) ?_
  refine mK hok rfl rfl (fun a' w' F' E' => o_fieldAddr (F'.ev rfl) ⟨Ext.refl _ _, rfl⟩) ?_
  refine mK hok rfl rfl (fun a' w' F' E' => o_load1 (M1.later E') (F'.ev rfl) (by repeat (first | exact .here | apply Has.there)) (by first | assumption | rfl) ⟨Ext.refl _ _, rfl⟩) ?_
  (refine mK hok rfl rfl (fun a' w' F' E' => o_call (F'.ev rfl) (F'.evs rfl) (Cal.mono (cmp_int x.sbits y.sbits _) fun _ _ hh => ⟨hh.2, hh.1⟩)) ?_)
  refine mK hok rfl rfl (fun a' w' F' E' => o_fieldAddr (F'.ev rfl) ⟨Ext.refl _ _, rfl⟩) ?_
  refine mK hok rfl rfl (fun a' w' F' E' => o_load1 (M1.later E') (F'.ev rfl) (by repeat (first | exact .here | apply Has.there)) (by first | assumption | rfl) ⟨Ext.refl _ _, rfl⟩) ?_
  refine mK hok rfl rfl (fun a' w' F' E' => o_fieldAddr (F'.ev rfl) ⟨Ext.refl _ _, rfl⟩) ?_
  refine mK hok rfl rfl (fun a' w' F' E' => o_load1 (M1.later E') (F'.ev rfl) (by repeat (first | exact .here | apply Has.there)) (by first | assumption | rfl) ⟨Ext.refl _ _, rfl⟩) ?_
  (refine mK hok rfl rfl (fun a' w' F' E' => o_call (F'.ev rfl) (F'.evs rfl) (Cal.mono (cmp_eui x.rt y.rt _) fun _ _ hh => ⟨hh.2, hh.1⟩)) ?_)
  skip
  (refine mDone rfl rfl ?_; clear F; clear M; intro a w F hE2 hX hTT hDD hPP; have M := M1.later hE2; clear M1; clear hX; clear hE2; clear hok; clear hE; clear hTT; clear hDD; clear hPP; (try dsimp only at F))
  (refine stepD rfl F rfl (o_buildSlice F M rfl rfl rfl rfl ?_); clear F; clear M; intro b38 w M a F)
  (refine stepD rfl F rfl (o_call (F.ev rfl) (F.evs rfl) (Cal.mono (or_c (b := b38) [cmpL x.dip y.dip, cmpV x.dbits y.dbits, cmpL x.sip y.sip, cmpV x.sbits y.sbits, cmpV x.rt y.rt] 5 rfl (by omega) _ (M.heap .here)) ?_)); clear F; clear a; rintro _ w ⟨rfl, hE⟩ a F; replace M := M.later hE; clear hE)
  refine stepD rfl F rfl (o_assign (F.ev rfl) ?_); clear F; clear a; intro a F
  with_reducible refine l_nil ?_
  with_reducible refine q_then ?_
  with_reducible refine c_ret ?_
  refine p_ret F rfl (.cons (.tmp (F.ev rfl)) .nil) ?_
  exact ⟨rfl, M.ext⟩
set_option maxHeartbeats 1000000 in
theorem rcmpPf_c (p : List Int) (n : Int) (q : List Int) (m : Int) (hp : IsIP p) (hq : IsIP q) (W : World) : Cal Try.prog 97 [.agg (pfC p n).toArray, .agg (pfC q m).toArray].toArray W fun v w' => v = .int .i64 (orI (cmpL p q) (cmpI n m)) ∧ Ext [] W w' := by
  have e1 : seg (pfC p n) 0 16 = some (ipC p) := seg_pf0 hp.len n
  have e2 : seg (pfC q m) 0 16 = some (ipC q) := seg_pf0 hq.len m
  have e3 : nth (pfC p n) 16 = some (.int .i64 n) := nth_pf hp.len n
  have e4 : nth (pfC q m) 16 = some (.int .i64 m) := nth_pf hq.len m
  unfold orI cmpI
  refine fn_ofM (n := 24) [] Try.func97 rfl rfl rfl ?_
  intro a w F M hwW
  refine c_seq ?_
  refine c_region ?_
  (refine stepD rfl F rfl (o_box M (F.ev rfl) rfl ?_); clear F; clear M; intro b2 w M a F)
  (refine stepD rfl F rfl (o_box M (F.ev rfl) rfl ?_); clear F; clear M; intro b3 w M a F)
  refine stepD rfl F rfl (o_assign (F.ev rfl) ?_); clear F; clear a; intro a F
  with_reducible refine l_nil ?_
  with_reducible refine q_then ?_
  with_reducible refine c_seq ?_
  with_reducible refine c_seq ?_
  with_reducible refine c_region ?_
  refine stepD rfl F rfl (o_fieldAddr (F.ev rfl) ?_); clear F; clear a; intro a F
  refine stepD rfl F rfl (o_loadA M (F.ev rfl) (by repeat (first | exact .here | apply Has.there)) (by first | assumption | rfl) ?_); clear F; clear a; intro a F
  refine stepD rfl F rfl (o_fieldAddr (F.ev rfl) ?_); clear F; clear a; intro a F
  refine stepD rfl F rfl (o_loadA M (F.ev rfl) (by repeat (first | exact .here | apply Has.there)) (by first | assumption | rfl) ?_); clear F; clear a; intro a F
  (refine stepD rfl F rfl (o_call (F.ev rfl) (F.evs rfl) (Cal.mono (rcompareIP_c p q hp hq _) ?_)); clear F; clear a; rintro _ w ⟨rfl, hE⟩ a F; replace M := M.later hE; clear hE)
  by_cases h0 : cmpL p q = 0
  · rw [if_pos h0]
    by_cases h1 : n < m
    · rw [if_pos h1]
      refine stepD rfl F rfl (o_assign (F.ev rfl) ?_); clear F; clear a; intro a F
      with_reducible refine l_nil ?_
      with_reducible refine q_then ?_
      with_reducible refine c_seq ?_
      with_reducible refine c_region ?_
      refine stepD rfl F rfl (o_move (F.ev rfl) ?_); clear F; clear a; intro a F
      refine stepD rfl F rfl (o_neqF (F.ev rfl) (F.ev rfl) (by omega) ?_); clear F; clear a; intro a F
      with_reducible refine l_nil ?_
      with_reducible refine q_then ?_
      refine c_false F rfl rfl ?_
      with_reducible refine c_skip ?_
      with_reducible refine q_then ?_
      with_reducible refine c_seq ?_
      with_reducible refine c_seq ?_
      with_reducible refine c_region ?_
      refine stepD rfl F rfl (o_fieldAddr (F.ev rfl) ?_); clear F; clear a; intro a F
      refine stepD rfl F rfl (o_load1 M (F.ev rfl) (by repeat (first | exact .here | apply Has.there)) (by first | assumption | rfl) ?_); clear F; clear a; intro a F
      refine stepD rfl F rfl (o_fieldAddr (F.ev rfl) ?_); clear F; clear a; intro a F
      refine stepD rfl F rfl (o_load1 M (F.ev rfl) (by repeat (first | exact .here | apply Has.there)) (by first | assumption | rfl) ?_); clear F; clear a; intro a F
      refine stepD rfl F rfl (o_lssT (F.ev rfl) (F.ev rfl) (by omega) ?_); clear F; clear a; intro a F
      with_reducible refine l_nil ?_
      with_reducible refine q_then ?_
      refine c_true F rfl rfl ?_
      with_reducible refine c_seq ?_
      with_reducible refine c_region ?_
      refine stepD rfl F rfl (o_assign (F.ev rfl) ?_); clear F; clear a; intro a F
      with_reducible refine l_nil ?_
      with_reducible refine q_then ?_
      with_reducible refine c_ret ?_
      with_reducible refine q_thenR ?_
      refine p_ret F rfl (.cons (.tmp (F.ev rfl)) .nil) ?_
      exact ⟨rfl, M.ext⟩
    · rw [if_neg h1]
      by_cases h2 : m < n
      · rw [if_pos h2]
        refine stepD rfl F rfl (o_assign (F.ev rfl) ?_); clear F; clear a; intro a F
        with_reducible refine l_nil ?_
        with_reducible refine q_then ?_
        with_reducible refine c_seq ?_
        with_reducible refine c_region ?_
        refine stepD rfl F rfl (o_move (F.ev rfl) ?_); clear F; clear a; intro a F
        refine stepD rfl F rfl (o_neqF (F.ev rfl) (F.ev rfl) (by omega) ?_); clear F; clear a; intro a F
        with_reducible refine l_nil ?_
        with_reducible refine q_then ?_
        refine c_false F rfl rfl ?_
        with_reducible refine c_skip ?_
        with_reducible refine q_then ?_
        with_reducible refine c_seq ?_
        with_reducible refine c_seq ?_
        with_reducible refine c_region ?_
        refine stepD rfl F rfl (o_fieldAddr (F.ev rfl) ?_); clear F; clear a; intro a F
        refine stepD rfl F rfl (o_load1 M (F.ev rfl) (by repeat (first | exact .here | apply Has.there)) (by first | assumption | rfl) ?_); clear F; clear a; intro a F
        refine stepD rfl F rfl (o_fieldAddr (F.ev rfl) ?_); clear F; clear a; intro a F
        refine stepD rfl F rfl (o_load1 M (F.ev rfl) (by repeat (first | exact .here | apply Has.there)) (by first | assumption | rfl) ?_); clear F; clear a; intro a F
        refine stepD rfl F rfl (o_lssF (F.ev rfl) (F.ev rfl) (by omega) ?_); clear F; clear a; intro a F
        with_reducible refine l_nil ?_
        with_reducible refine q_then ?_
        refine c_false F rfl rfl ?_
        with_reducible refine c_skip ?_
        with_reducible refine q_then ?_
        with_reducible refine c_seq ?_
        with_reducible refine c_seq ?_
        with_reducible refine c_region ?_
        refine stepD rfl F rfl (o_fieldAddr (F.ev rfl) ?_); clear F; clear a; intro a F
        refine stepD rfl F rfl (o_load1 M (F.ev rfl) (by repeat (first | exact .here | apply Has.there)) (by first | assumption | rfl) ?_); clear F; clear a; intro a F
        refine stepD rfl F rfl (o_fieldAddr (F.ev rfl) ?_); clear F; clear a; intro a F
        refine stepD rfl F rfl (o_load1 M (F.ev rfl) (by repeat (first | exact .here | apply Has.there)) (by first | assumption | rfl) ?_); clear F; clear a; intro a F
        refine stepD rfl F rfl (o_gtrT (F.ev rfl) (F.ev rfl) (by omega) ?_); clear F; clear a; intro a F
        with_reducible refine l_nil ?_
        with_reducible refine q_then ?_
        refine c_true F rfl rfl ?_
        with_reducible refine c_seq ?_
        with_reducible refine c_region ?_
        refine stepD rfl F rfl (o_assign (F.ev rfl) ?_); clear F; clear a; intro a F
        with_reducible refine l_nil ?_
        with_reducible refine q_then ?_
        with_reducible refine c_ret ?_
        with_reducible refine q_thenR ?_
        refine p_ret F rfl (.cons (.tmp (F.ev rfl)) .nil) ?_
        exact ⟨rfl, M.ext⟩
      · rw [if_neg h2]
        refine stepD rfl F rfl (o_assign (F.ev rfl) ?_); clear F; clear a; intro a F
        with_reducible refine l_nil ?_
        with_reducible refine q_then ?_
        with_reducible refine c_seq ?_
        with_reducible refine c_region ?_
        refine stepD rfl F rfl (o_move (F.ev rfl) ?_); clear F; clear a; intro a F
        refine stepD rfl F rfl (o_neqF (F.ev rfl) (F.ev rfl) (by omega) ?_); clear F; clear a; intro a F
        with_reducible refine l_nil ?_
        with_reducible refine q_then ?_
        refine c_false F rfl rfl ?_
        with_reducible refine c_skip ?_
        with_reducible refine q_then ?_
        with_reducible refine c_seq ?_
        with_reducible refine c_seq ?_
        with_reducible refine c_region ?_
        refine stepD rfl F rfl (o_fieldAddr (F.ev rfl) ?_); clear F; clear a; intro a F
        refine stepD rfl F rfl (o_load1 M (F.ev rfl) (by repeat (first | exact .here | apply Has.there)) (by first | assumption | rfl) ?_); clear F; clear a; intro a F
        refine stepD rfl F rfl (o_fieldAddr (F.ev rfl) ?_); clear F; clear a; intro a F
        refine stepD rfl F rfl (o_load1 M (F.ev rfl) (by repeat (first | exact .here | apply Has.there)) (by first | assumption | rfl) ?_); clear F; clear a; intro a F
        refine stepD rfl F rfl (o_lssF (F.ev rfl) (F.ev rfl) (by omega) ?_); clear F; clear a; intro a F
        with_reducible refine l_nil ?_
        with_reducible refine q_then ?_
        refine c_false F rfl rfl ?_
        with_reducible refine c_skip ?_
        with_reducible refine q_then ?_
        with_reducible refine c_seq ?_
        with_reducible refine c_seq ?_
        with_reducible refine c_region ?_
        refine stepD rfl F rfl (o_fieldAddr (F.ev rfl) ?_); clear F; clear a; intro a F
        refine stepD rfl F rfl (o_load1 M (F.ev rfl) (by repeat (first | exact .here | apply Has.there)) (by first | assumption | rfl) ?_); clear F; clear a; intro a F
        refine stepD rfl F rfl (o_fieldAddr (F.ev rfl) ?_); clear F; clear a; intro a F
        refine stepD rfl F rfl (o_load1 M (F.ev rfl) (by repeat (first | exact .here | apply Has.there)) (by first | assumption | rfl) ?_); clear F; clear a; intro a F
        refine stepD rfl F rfl (o_gtrF (F.ev rfl) (F.ev rfl) (by omega) ?_); clear F; clear a; intro a F
        with_reducible refine l_nil ?_
        with_reducible refine q_then ?_
        refine c_false F rfl rfl ?_
        with_reducible refine c_skip ?_
        with_reducible refine q_then ?_
        with_reducible refine c_seq ?_
        with_reducible refine c_region ?_
        refine stepD rfl F rfl (o_assign (F.ev rfl) ?_); clear F; clear a; intro a F
        with_reducible refine l_nil ?_
        with_reducible refine q_then ?_
        with_reducible refine c_ret ?_
        refine p_ret F rfl (.cons (.tmp (F.ev rfl)) .nil) ?_
        exact ⟨rfl, M.ext⟩
  · rw [if_neg h0]
    refine stepD rfl F rfl (o_assign (F.ev rfl) ?_); clear F; clear a; intro a F
    with_reducible refine l_nil ?_
    with_reducible refine q_then ?_
    with_reducible refine c_seq ?_
    with_reducible refine c_region ?_
    refine stepD rfl F rfl (o_move (F.ev rfl) ?_); clear F; clear a; intro a F
    refine stepD rfl F rfl (o_neqT (F.ev rfl) (F.ev rfl) (by omega) ?_); clear F; clear a; intro a F
    with_reducible refine l_nil ?_
    with_reducible refine q_then ?_
    refine c_true F rfl rfl ?_
    with_reducible refine c_seq ?_
    with_reducible refine c_region ?_
    refine stepD rfl F rfl (o_move (F.ev rfl) ?_); clear F; clear a; intro a F
    refine stepD rfl F rfl (o_assign (F.ev rfl) ?_); clear F; clear a; intro a F
    with_reducible refine l_nil ?_
    with_reducible refine q_then ?_
    with_reducible refine c_ret ?_
    with_reducible refine q_thenR ?_
    refine p_ret F rfl (.cons (.tmp (F.ev rfl)) .nil) ?_
    exact ⟨rfl, M.ext⟩
theorem orI_assoc (a b c : Int) : orI (orI a b) c = orI a (orI b c) := by
  unfold orI
  repeat' split
  all_goals simp_all
set_option maxHeartbeats 1000000 in
theorem rcompare_c (x y : DstV) (ha : IsDv x) (hb : IsDv y) (W : World) : Cal Try.prog 53 [.agg (dvC x).toArray, .agg (dvC y).toArray].toArray W fun v w' => v = .int .i64 (cmpD x y) ∧ Ext [] W w' := by
  have a1 := dv_dst ha
  have a3 := dv_src ha
  have a5 := dv_rt ha
  have c1 := dv_dst hb
  have c3 := dv_src hb
  have c5 := dv_rt hb
  have hr : cmpD x y = orI (orI (cmpL x.dip y.dip) (cmpI x.dbits y.dbits)) (orI (orI (cmpL x.sip y.sip) (cmpI x.sbits y.sbits)) (cmpI x.rt y.rt)) := by
    rw [cmpD_or ha hb, orI_assoc, orI_assoc]
  rw [hr]
  obtain ⟨p, hp⟩ : ∃ p, p = orI (cmpL x.dip y.dip) (cmpI x.dbits y.dbits) := ⟨_, rfl⟩
  obtain ⟨q, hq⟩ : ∃ q, q = orI (cmpL x.sip y.sip) (cmpI x.sbits y.sbits) := ⟨_, rfl⟩
  rw [← hp, ← hq]
  have k1 := rcmpPf_c x.dip x.dbits y.dip y.dbits ha.1 hb.1
  have k2 := rcmpPf_c x.sip x.sbits y.sip y.sbits ha.2 hb.2
  rw [← hp] at k1
  rw [← hq] at k2
  unfold orI cmpI
  refine fn_ofM (n := 33) [] Try.func53 rfl rfl rfl ?_
  intro a w F M hwW
  refine c_seq ?_
  refine c_region ?_
  (refine stepD rfl F rfl (o_box M (F.ev rfl) rfl ?_); clear F; clear M; intro b2 w M a F)
  (refine stepD rfl F rfl (o_box M (F.ev rfl) rfl ?_); clear F; clear M; intro b3 w M a F)
  refine stepD rfl F rfl (o_assign (F.ev rfl) ?_); clear F; clear a; intro a F
  with_reducible refine l_nil ?_
  with_reducible refine q_then ?_
  with_reducible refine c_seq ?_
  with_reducible refine c_seq ?_
  with_reducible refine c_region ?_
  refine stepD rfl F rfl (o_fieldAddr (F.ev rfl) ?_); clear F; clear a; intro a F
  refine stepD rfl F rfl (o_loadA M (F.ev rfl) (by repeat (first | exact .here | apply Has.there)) (by first | assumption | rfl) ?_); clear F; clear a; intro a F
  refine stepD rfl F rfl (o_fieldAddr (F.ev rfl) ?_); clear F; clear a; intro a F
  refine stepD rfl F rfl (o_loadA M (F.ev rfl) (by repeat (first | exact .here | apply Has.there)) (by first | assumption | rfl) ?_); clear F; clear a; intro a F
  (refine stepD rfl F rfl (o_call (F.ev rfl) (F.evs rfl) (Cal.mono (k1 _) ?_)); clear F; clear a; rintro _ w ⟨rfl, hE⟩ a F; replace M := M.later hE; clear hE)
  by_cases h0 : p = 0
  · rw [if_pos h0]
    refine stepD rfl F rfl (o_assign (F.ev rfl) ?_); clear F; clear a; intro a F
    with_reducible refine l_nil ?_
    with_reducible refine q_then ?_
    with_reducible refine c_seq ?_
    with_reducible refine c_region ?_
    refine stepD rfl F rfl (o_move (F.ev rfl) ?_); clear F; clear a; intro a F
    refine stepD rfl F rfl (o_neqF (F.ev rfl) (F.ev rfl) (by omega) ?_); clear F; clear a; intro a F
    with_reducible refine l_nil ?_
    with_reducible refine q_then ?_
    refine c_false F rfl rfl ?_
    with_reducible refine c_skip ?_
    with_reducible refine q_then ?_
    with_reducible refine c_seq ?_
    with_reducible refine c_seq ?_
    with_reducible refine c_region ?_
    refine stepD rfl F rfl (o_fieldAddr (F.ev rfl) ?_); clear F; clear a; intro a F
    refine stepD rfl F rfl (o_loadA M (F.ev rfl) (by repeat (first | exact .here | apply Has.there)) (by first | assumption | rfl) ?_); clear F; clear a; intro a F
    refine stepD rfl F rfl (o_fieldAddr (F.ev rfl) ?_); clear F; clear a; intro a F
    refine stepD rfl F rfl (o_loadA M (F.ev rfl) (by repeat (first | exact .here | apply Has.there)) (by first | assumption | rfl) ?_); clear F; clear a; intro a F
    (refine stepD rfl F rfl (o_call (F.ev rfl) (F.evs rfl) (Cal.mono (k2 _) ?_)); clear F; clear a; rintro _ w ⟨rfl, hE⟩ a F; replace M := M.later hE; clear hE)
    by_cases h1 : q = 0
    · rw [if_pos h1]
      by_cases h2 : x.rt < y.rt
      · rw [if_pos h2]
        refine stepD rfl F rfl (o_assign (F.ev rfl) ?_); clear F; clear a; intro a F
        with_reducible refine l_nil ?_
        with_reducible refine q_then ?_
        with_reducible refine c_seq ?_
        with_reducible refine c_region ?_
        refine stepD rfl F rfl (o_move (F.ev rfl) ?_); clear F; clear a; intro a F
        refine stepD rfl F rfl (o_neqF (F.ev rfl) (F.ev rfl) (by omega) ?_); clear F; clear a; intro a F
        with_reducible refine l_nil ?_
        with_reducible refine q_then ?_
        refine c_false F rfl rfl ?_
        with_reducible refine c_skip ?_
        with_reducible refine q_then ?_
        with_reducible refine c_seq ?_
        with_reducible refine c_seq ?_
        with_reducible refine c_region ?_
        refine stepD rfl F rfl (o_fieldAddr (F.ev rfl) ?_); clear F; clear a; intro a F
        refine stepD rfl F rfl (o_load1 M (F.ev rfl) (by repeat (first | exact .here | apply Has.there)) (by first | assumption | rfl) ?_); clear F; clear a; intro a F
        refine stepD rfl F rfl (o_fieldAddr (F.ev rfl) ?_); clear F; clear a; intro a F
        refine stepD rfl F rfl (o_load1 M (F.ev rfl) (by repeat (first | exact .here | apply Has.there)) (by first | assumption | rfl) ?_); clear F; clear a; intro a F
        refine stepD rfl F rfl (o_lssT (F.ev rfl) (F.ev rfl) (by omega) ?_); clear F; clear a; intro a F
        with_reducible refine l_nil ?_
        with_reducible refine q_then ?_
        refine c_true F rfl rfl ?_
        with_reducible refine c_seq ?_
        with_reducible refine c_region ?_
        refine stepD rfl F rfl (o_assign (F.ev rfl) ?_); clear F; clear a; intro a F
        with_reducible refine l_nil ?_
        with_reducible refine q_then ?_
        with_reducible refine c_ret ?_
        with_reducible refine q_thenR ?_
        refine p_ret F rfl (.cons (.tmp (F.ev rfl)) .nil) ?_
        exact ⟨rfl, M.ext⟩
      · rw [if_neg h2]
        by_cases h3 : y.rt < x.rt
        · rw [if_pos h3]
          refine stepD rfl F rfl (o_assign (F.ev rfl) ?_); clear F; clear a; intro a F
          with_reducible refine l_nil ?_
          with_reducible refine q_then ?_
          with_reducible refine c_seq ?_
          with_reducible refine c_region ?_
          refine stepD rfl F rfl (o_move (F.ev rfl) ?_); clear F; clear a; intro a F
          refine stepD rfl F rfl (o_neqF (F.ev rfl) (F.ev rfl) (by omega) ?_); clear F; clear a; intro a F
          with_reducible refine l_nil ?_
          with_reducible refine q_then ?_
          refine c_false F rfl rfl ?_
          with_reducible refine c_skip ?_
          with_reducible refine q_then ?_
          with_reducible refine c_seq ?_
          with_reducible refine c_seq ?_
          with_reducible refine c_region ?_
          refine stepD rfl F rfl (o_fieldAddr (F.ev rfl) ?_); clear F; clear a; intro a F
          refine stepD rfl F rfl (o_load1 M (F.ev rfl) (by repeat (first | exact .here | apply Has.there)) (by first | assumption | rfl) ?_); clear F; clear a; intro a F
          refine stepD rfl F rfl (o_fieldAddr (F.ev rfl) ?_); clear F; clear a; intro a F
          refine stepD rfl F rfl (o_load1 M (F.ev rfl) (by repeat (first | exact .here | apply Has.there)) (by first | assumption | rfl) ?_); clear F; clear a; intro a F
          refine stepD rfl F rfl (o_lssF (F.ev rfl) (F.ev rfl) (by omega) ?_); clear F; clear a; intro a F
          with_reducible refine l_nil ?_
          with_reducible refine q_then ?_
          refine c_false F rfl rfl ?_
          with_reducible refine c_skip ?_
          with_reducible refine q_then ?_
          with_reducible refine c_seq ?_
          with_reducible refine c_seq ?_
          with_reducible refine c_region ?_
          refine stepD rfl F rfl (o_fieldAddr (F.ev rfl) ?_); clear F; clear a; intro a F
          refine stepD rfl F rfl (o_load1 M (F.ev rfl) (by repeat (first | exact .here | apply Has.there)) (by first | assumption | rfl) ?_); clear F; clear a; intro a F
          refine stepD rfl F rfl (o_fieldAddr (F.ev rfl) ?_); clear F; clear a; intro a F
          refine stepD rfl F rfl (o_load1 M (F.ev rfl) (by repeat (first | exact .here | apply Has.there)) (by first | assumption | rfl) ?_); clear F; clear a; intro a F
          refine stepD rfl F rfl (o_gtrT (F.ev rfl) (F.ev rfl) (by omega) ?_); clear F; clear a; intro a F
          with_reducible refine l_nil ?_
          with_reducible refine q_then ?_
          refine c_true F rfl rfl ?_
          with_reducible refine c_seq ?_
          with_reducible refine c_region ?_
          refine stepD rfl F rfl (o_assign (F.ev rfl) ?_); clear F; clear a; intro a F
          with_reducible refine l_nil ?_
          with_reducible refine q_then ?_
          with_reducible refine c_ret ?_
          with_reducible refine q_thenR ?_
          refine p_ret F rfl (.cons (.tmp (F.ev rfl)) .nil) ?_
          exact ⟨rfl, M.ext⟩
        · rw [if_neg h3]
          refine stepD rfl F rfl (o_assign (F.ev rfl) ?_); clear F; clear a; intro a F
          with_reducible refine l_nil ?_
          with_reducible refine q_then ?_
          with_reducible refine c_seq ?_
          with_reducible refine c_region ?_
          refine stepD rfl F rfl (o_move (F.ev rfl) ?_); clear F; clear a; intro a F
          refine stepD rfl F rfl (o_neqF (F.ev rfl) (F.ev rfl) (by omega) ?_); clear F; clear a; intro a F
          with_reducible refine l_nil ?_
          with_reducible refine q_then ?_
          refine c_false F rfl rfl ?_
          with_reducible refine c_skip ?_
          with_reducible refine q_then ?_
          with_reducible refine c_seq ?_
          with_reducible refine c_seq ?_
          with_reducible refine c_region ?_
          refine stepD rfl F rfl (o_fieldAddr (F.ev rfl) ?_); clear F; clear a; intro a F
          refine stepD rfl F rfl (o_load1 M (F.ev rfl) (by repeat (first | exact .here | apply Has.there)) (by first | assumption | rfl) ?_); clear F; clear a; intro a F
          refine stepD rfl F rfl (o_fieldAddr (F.ev rfl) ?_); clear F; clear a; intro a F
          refine stepD rfl F rfl (o_load1 M (F.ev rfl) (by repeat (first | exact .here | apply Has.there)) (by first | assumption | rfl) ?_); clear F; clear a; intro a F
          refine stepD rfl F rfl (o_lssF (F.ev rfl) (F.ev rfl) (by omega) ?_); clear F; clear a; intro a F
          with_reducible refine l_nil ?_
          with_reducible refine q_then ?_
          refine c_false F rfl rfl ?_
          with_reducible refine c_skip ?_
          with_reducible refine q_then ?_
          with_reducible refine c_seq ?_
          with_reducible refine c_seq ?_
          with_reducible refine c_region ?_
          refine stepD rfl F rfl (o_fieldAddr (F.ev rfl) ?_); clear F; clear a; intro a F
          refine stepD rfl F rfl (o_load1 M (F.ev rfl) (by repeat (first | exact .here | apply Has.there)) (by first | assumption | rfl) ?_); clear F; clear a; intro a F
          refine stepD rfl F rfl (o_fieldAddr (F.ev rfl) ?_); clear F; clear a; intro a F
          refine stepD rfl F rfl (o_load1 M (F.ev rfl) (by repeat (first | exact .here | apply Has.there)) (by first | assumption | rfl) ?_); clear F; clear a; intro a F
          refine stepD rfl F rfl (o_gtrF (F.ev rfl) (F.ev rfl) (by omega) ?_); clear F; clear a; intro a F
          with_reducible refine l_nil ?_
          with_reducible refine q_then ?_
          refine c_false F rfl rfl ?_
          with_reducible refine c_skip ?_
          with_reducible refine q_then ?_
          with_reducible refine c_seq ?_
          with_reducible refine c_region ?_
          refine stepD rfl F rfl (o_assign (F.ev rfl) ?_); clear F; clear a; intro a F
          with_reducible refine l_nil ?_
          with_reducible refine q_then ?_
          with_reducible refine c_ret ?_
          refine p_ret F rfl (.cons (.tmp (F.ev rfl)) .nil) ?_
          exact ⟨rfl, M.ext⟩
    · rw [if_neg h1]
      refine stepD rfl F rfl (o_assign (F.ev rfl) ?_); clear F; clear a; intro a F
      with_reducible refine l_nil ?_
      with_reducible refine q_then ?_
      with_reducible refine c_seq ?_
      with_reducible refine c_region ?_
      refine stepD rfl F rfl (o_move (F.ev rfl) ?_); clear F; clear a; intro a F
      refine stepD rfl F rfl (o_neqT (F.ev rfl) (F.ev rfl) (by omega) ?_); clear F; clear a; intro a F
      with_reducible refine l_nil ?_
      with_reducible refine q_then ?_
      refine c_true F rfl rfl ?_
      with_reducible refine c_seq ?_
      with_reducible refine c_region ?_
      refine stepD rfl F rfl (o_move (F.ev rfl) ?_); clear F; clear a; intro a F
      refine stepD rfl F rfl (o_assign (F.ev rfl) ?_); clear F; clear a; intro a F
      with_reducible refine l_nil ?_
      with_reducible refine q_then ?_
      with_reducible refine c_ret ?_
      with_reducible refine q_thenR ?_
      refine p_ret F rfl (.cons (.tmp (F.ev rfl)) .nil) ?_
      exact ⟨rfl, M.ext⟩
  · rw [if_neg h0]
    refine stepD rfl F rfl (o_assign (F.ev rfl) ?_); clear F; clear a; intro a F
    with_reducible refine l_nil ?_
    with_reducible refine q_then ?_
    with_reducible refine c_seq ?_
    with_reducible refine c_region ?_
    refine stepD rfl F rfl (o_move (F.ev rfl) ?_); clear F; clear a; intro a F
    refine stepD rfl F rfl (o_neqT (F.ev rfl) (F.ev rfl) (by omega) ?_); clear F; clear a; intro a F
    with_reducible refine l_nil ?_
    with_reducible refine q_then ?_
    refine c_true F rfl rfl ?_
    with_reducible refine c_seq ?_
    with_reducible refine c_region ?_
    refine stepD rfl F rfl (o_move (F.ev rfl) ?_); clear F; clear a; intro a F
    refine stepD rfl F rfl (o_assign (F.ev rfl) ?_); clear F; clear a; intro a F
    with_reducible refine l_nil ?_
    with_reducible refine q_then ?_
    with_reducible refine c_ret ?_
    with_reducible refine q_thenR ?_
    refine p_ret F rfl (.cons (.tmp (F.ev rfl)) .nil) ?_
    exact ⟨rfl, M.ext⟩
end Go.Proofs.Ytilgoepokaaleaa
/-! Y4 -/
namespace Go.Proofs.Ytilgoepokaaleaa
set_option linter.unusedVariables false
set_option linter.unusedSimpArgs false
open Go.RowKit
attribute [local irreducible] OpTo wpListIn Code.wpIn MW Cal
theorem rng_f {p : Nat → Bool} {n i : Nat} (hi : i < n) (h : p i = false) : (List.range n).all p = false := by
  rw [List.all_eq_false]
  exact ⟨i, List.mem_range.2 hi, by simp [h]⟩
theorem rng_t {p : Nat → Bool} {n : Nat} (h : ∀ i, i < n → p i = true) : (List.range n).all p = true := by
  rw [List.all_eq_true]
  exact fun i hi => h i (List.mem_range.1 hi)
theorem SlAt.one {W : World} {sz n : Nat} {v : Value} {xs : List Value} (h : SlAt W sz v n xs) : v.oneCell' = true := by
  obtain ⟨p, cap, rfl, _⟩ := h
  rfl
theorem adv1_0 {l : List AdvV} {i : Nat} (h : i < l.length) (h0 : i = 0) : adv1 l i = (validT l[i].to && validM l[i].own.met) := by
  subst h0
  simp [adv1, List.getElem?_eq_getElem h]
theorem adv1_s {l : List AdvV} {i : Nat} (h : i < l.length) (h0 : 0 < i) : adv1 l i = (validT l[i].to && validM l[i].own.met && decide (cmpD (l[i - 1]'(by omega)).to l[i].to < 0)) := by
  have : ¬ i = 0 := by omega
  simp [adv1, List.getElem?_eq_getElem h, List.getElem?_eq_getElem (show i - 1 < l.length by omega), this]
theorem adv1_f {l : List AdvV} {i : Nat} (h : i < l.length) (hv : (validT l[i].to && validM l[i].own.met) = false) : adv1 l i = false := by
  simp [adv1, List.getElem?_eq_getElem h, hv]
set_option maxHeartbeats 4000000 in
theorem uvalidAs_c (l : List AdvV) (hx : ∀ x ∈ l, IsAv x) (v : Value) (W : World) (hS : SlAt W 37 v l.length (avsC l)) :
    Cal Try.prog 44 [v].toArray W fun r w' => r = .bool (validAs l) ∧ Ext [] W w' := by
  obtain ⟨q, cap, rfl, hcap, hsp, hl, hm⟩ := hS
  unfold validAs
  by_cases c0 : 520 < l.length
  · rw [decide_eq_false (by omega), Bool.false_and]
    refine fn_ofM (n := 41) [] Try.func44 rfl rfl rfl ?_
    intro a w F M hwW
    with_reducible refine c_seq ?_
    with_reducible refine c_region ?_
    refine stepD rfl F rfl (o_assign (F.ev rfl) ?_); clear F; clear a; intro a F
    with_reducible refine l_nil ?_
    with_reducible refine q_then ?_
    with_reducible refine c_seq ?_
    with_reducible refine c_seq ?_
    with_reducible refine c_region ?_
    refine stepD rfl F rfl (o_move (F.ev rfl) ?_); clear F; clear a; intro a F
    refine stepD rfl F rfl (o_lenSl (F.ev rfl) ?_); clear F; clear a; intro a F
    refine stepD rfl F rfl (o_gtrT (F.ev rfl) (F.ev rfl) (by omega) ?_); clear F; clear a; intro a F
    with_reducible refine l_nil ?_
    with_reducible refine q_then ?_
    refine c_true F rfl rfl ?_
    with_reducible refine c_seq ?_
    with_reducible refine c_region ?_
    refine stepD rfl F rfl (o_assign (F.ev rfl) ?_); clear F; clear a; intro a F
    with_reducible refine l_nil ?_
    with_reducible refine q_then ?_
    with_reducible refine c_ret ?_
    with_reducible refine q_thenR ?_
    refine p_ret F rfl (.cons (.tmp (F.ev rfl)) .nil) ?_
    exact ⟨rfl, M.ext⟩
  rw [decide_eq_true (show l.length ≤ 520 by omega), Bool.true_and]
  refine fn_ofM (n := 41) [] Try.func44 rfl rfl rfl ?_
  intro a w F M hwW
  with_reducible refine c_seq ?_
  with_reducible refine c_region ?_
  refine stepD rfl F rfl (o_assign (F.ev rfl) ?_); clear F; clear a; intro a F
  with_reducible refine l_nil ?_
  with_reducible refine q_then ?_
  with_reducible refine c_seq ?_
  with_reducible refine c_seq ?_
  with_reducible refine c_region ?_
  refine stepD rfl F rfl (o_move (F.ev rfl) ?_); clear F; clear a; intro a F
  refine stepD rfl F rfl (o_lenSl (F.ev rfl) ?_); clear F; clear a; intro a F
  refine stepD rfl F rfl (o_gtrF (F.ev rfl) (F.ev rfl) (by omega) ?_); clear F; clear a; intro a F
  with_reducible refine l_nil ?_
  with_reducible refine q_then ?_
  refine c_false F rfl rfl ?_
  with_reducible refine c_skip ?_
  with_reducible refine q_then ?_
  with_reducible refine c_seq ?_
  with_reducible refine c_seq ?_
  with_reducible refine c_region ?_
  refine stepD rfl F rfl (o_move (F.ev rfl) ?_); clear F; clear a; intro a F
  refine stepD rfl F rfl (o_lenSl (F.ev rfl) ?_); clear F; clear a; intro a F
  refine stepD rfl F rfl (o_move (F.ev rfl) ?_); clear F; clear a; intro a F
  with_reducible refine l_nil ?_
  with_reducible refine q_then ?_
  with_reducible refine c_block ?_
  refine c_loop (fun m a w => ∃ i : Nat, m = l.length - i ∧ i ≤ l.length ∧ (∀ j, j < i → adv1 l j = true) ∧ Frm a 41 [] [(10, .int .i64 i), (9, .int .i64 l.length), (0, .slice q l.length cap), (8, .slice q l.length cap)] ∧ Mem [] W w []) l.length ⟨0, rfl, by omega, by omega, F.only [10, 9, 0, 8] rfl, M⟩ ?_
  clear F M
  rintro m a w ⟨i, hm', hi, hv, F, M⟩
  by_cases hlt : i < l.length
  · obtain ⟨b, o, cs, t, fz, rfl, hb, hs⟩ := hm (by omega)
    have hxv := hx _ (List.getElem_mem hlt)
    have hv0 := adv1_0 hlt
    have hvs := adv1_s hlt
    have hvf := adv1_f hlt
    have f1 : seg cs (o + (i : Int).toNat * 37) 37 = some (avC l[i]) := seg_el (avs_len hx) hs hlt (by omega)
    obtain ⟨x, hx0⟩ : ∃ x, x = l[i] := ⟨_, rfl⟩
    rw [← hx0] at hxv hv0 hvs hvf f1
    have f2 : (avC x).length = 37 := av_len hxv
    have f3 := av_to hxv
    have f4 := av_own_met hxv
    have f5 : seg cs (o + (i : Int).toNat * 37) 35 = some (dvC x.to) := sg_seg f1 f3 (by omega)
    with_reducible refine c_seq ?_
    with_reducible refine c_region ?_
    refine stepD rfl F rfl (o_lssT (F.ev rfl) (F.ev rfl) (by omega) ?_); clear F; clear a; intro a F
    with_reducible refine l_nil ?_
    with_reducible refine q_then ?_
    with_reducible refine c_seq ?_
    refine c_true F rfl rfl ?_
    with_reducible refine c_skip ?_
    with_reducible refine q_then ?_
    with_reducible refine c_seq ?_
    with_reducible refine c_block ?_
    with_reducible refine c_seq ?_
    with_reducible refine c_region ?_
    refine stepD rfl F rfl (o_move (F.ev rfl) ?_); clear F; clear a; intro a F
    refine stepD rfl F rfl (o_indexSl (F.ev rfl) (F.ev rfl) (by omega) (by omega) ?_); clear F; clear a; intro a F
    refine stepD rfl F rfl (o_loadWA M (F.ev rfl) (by assumption) (by first | assumption | rfl) ?_); clear F; clear a; intro a F
    (refine stepD rfl F rfl (o_alloc M ?_); clear F; clear M; intro b4 w M a F)
    refine stepD rfl F rfl (o_assign (F.ev rfl) ?_); clear F; clear a; intro a F
    (refine stepN rfl F (o_storeA M (F.ev rfl) (F.ev rfl) (f2) (av_one x)  (by repeat (first | exact .here | apply Has.there))  (put_all (by rw [f2]; rfl)) (by repeat (first | exact .here | apply Upd.there)) ?_); clear F; clear M; intro w M a F)
    with_reducible refine l_nil ?_
    with_reducible refine q_then ?_
    with_reducible refine c_seq ?_
    with_reducible refine c_seq ?_
    with_reducible refine c_region ?_
    refine stepD rfl F rfl (o_fieldAddr (F.ev rfl) ?_); clear F; clear a; intro a F
    refine stepD rfl F rfl (o_loadA M (F.ev rfl) (by repeat (first | exact .here | apply Has.there)) (by first | assumption | rfl) ?_); clear F; clear a; intro a F
    (refine stepD rfl F rfl (o_call (F.ev rfl) (F.evs rfl) (Cal.mono (validTo_c x.to hxv.1 _) ?_)); clear F; clear a; rintro _ w ⟨rfl, hE⟩ a F; replace M := M.later hE; clear hE)
    cases c1 : validT x.to
    · rw [rng_f hlt (hvf (by rw [c1]; rfl))]
      rw [c1] at F
      refine stepD rfl F rfl (o_not (F.ev rfl) ?_); clear F; clear a; intro a F
      refine stepD rfl F rfl (o_move (F.ev rfl) ?_); clear F; clear a; intro a F
      refine stepOff F rfl rfl rfl rfl ?_; clear F; clear a; intro a F
      refine stepOff F rfl rfl rfl rfl ?_; clear F; clear a; intro a F
      refine stepOff F rfl rfl rfl rfl ?_; clear F; clear a; intro a F
      refine stepOff F rfl rfl rfl rfl ?_; clear F; clear a; intro a F
      refine stepOff F rfl rfl rfl rfl ?_; clear F; clear a; intro a F
      refine stepD rfl F rfl (o_pickT (F.ev rfl) (F.ev rfl) ?_); clear F; clear a; intro a F
      with_reducible refine l_nil ?_
      with_reducible refine q_then ?_
      refine c_true F rfl rfl ?_
      with_reducible refine c_seq ?_
      with_reducible refine c_region ?_
      refine stepD rfl F rfl (o_assign (F.ev rfl) ?_); clear F; clear a; intro a F
      with_reducible refine l_nil ?_
      with_reducible refine q_then ?_
      with_reducible refine c_ret ?_
      with_reducible refine q_thenR ?_
      with_reducible refine q_inBR ?_
      with_reducible refine q_thenR ?_
      with_reducible refine q_thenR ?_
      with_reducible refine q_inBR ?_
      with_reducible refine q_thenR ?_
      refine p_ret F rfl (.cons (.tmp (F.ev rfl)) .nil) ?_
      exact ⟨rfl, M.ext⟩
    rw [c1] at F
    refine stepD rfl F rfl (o_not (F.ev rfl) ?_); clear F; clear a; intro a F
    refine stepD rfl F rfl (o_move (F.ev rfl) ?_); clear F; clear a; intro a F
    refine stepG rfl F rfl rfl rfl (o_fieldAddr (F.ev rfl) ?_); clear F; clear a; intro a F
    refine stepG rfl F rfl rfl rfl (o_fieldAddr (F.ev rfl) ?_); clear F; clear a; intro a F
    refine stepG rfl F rfl rfl rfl (o_load1 M (F.ev rfl) (by repeat (first | exact .here | apply Has.there)) (by first | assumption | rfl) ?_); clear F; clear a; intro a F
    (refine stepG rfl F rfl rfl rfl (o_call (F.ev rfl) (F.evs rfl) (Cal.mono (mvalid_c x.own.met _) ?_)); clear F; clear a; rintro _ w ⟨rfl, hE⟩ a F; replace M := M.later hE; clear hE)
    cases c2 : validM x.own.met
    · rw [rng_f hlt (hvf (by rw [c1, c2]; rfl))]
      rw [c2] at F
      refine stepG rfl F rfl rfl rfl (o_not (F.ev rfl) ?_); clear F; clear a; intro a F
      refine stepD rfl F rfl (o_pickF (F.ev rfl) (F.ev rfl) ?_); clear F; clear a; intro a F
      with_reducible refine l_nil ?_
      with_reducible refine q_then ?_
      refine c_true F rfl rfl ?_
      with_reducible refine c_seq ?_
      with_reducible refine c_region ?_
      refine stepD rfl F rfl (o_assign (F.ev rfl) ?_); clear F; clear a; intro a F
      with_reducible refine l_nil ?_
      with_reducible refine q_then ?_
      with_reducible refine c_ret ?_
      with_reducible refine q_thenR ?_
      with_reducible refine q_inBR ?_
      with_reducible refine q_thenR ?_
      with_reducible refine q_thenR ?_
      with_reducible refine q_inBR ?_
      with_reducible refine q_thenR ?_
      refine p_ret F rfl (.cons (.tmp (F.ev rfl)) .nil) ?_
      exact ⟨rfl, M.ext⟩
    rw [c2] at F
    rw [c1, c2] at hv0 hvs
    clear hvf
    refine stepG rfl F rfl rfl rfl (o_not (F.ev rfl) ?_); clear F; clear a; intro a F
    refine stepD rfl F rfl (o_pickF (F.ev rfl) (F.ev rfl) ?_); clear F; clear a; intro a F
    with_reducible refine l_nil ?_
    with_reducible refine q_then ?_
    refine c_false F rfl rfl ?_
    with_reducible refine c_skip ?_
    with_reducible refine q_then ?_
    with_reducible refine c_seq ?_
    replace F := F.only [10, 9, 0, 8, 3, 4] rfl
    rcases Nat.eq_zero_or_pos i with hi0 | hi0
    · refine c_draw 14 F (by kernel_rfl) ?_
      intro w1 hE hok
      have M1 := M.later hE
      refine mK hok rfl rfl (fun a' w' F' E' => o_move (F'.ev rfl) ⟨Ext.refl _ _, rfl⟩) ?_
      refine mK hok rfl rfl (fun a' w' F' E' => o_gtrF (F'.ev rfl) (F'.ev rfl) (by omega) ⟨Ext.refl _ _, rfl⟩) ?_
      refine mK hok rfl rfl (fun a' w' F' E' => o_move (F'.ev rfl) ⟨Ext.refl _ _, rfl⟩) ?_
      refine mOff hok rfl rfl rfl rfl rfl ?_
      refine mOff hok rfl rfl rfl rfl rfl ?_
      refine mOff hok rfl rfl rfl rfl rfl ?_
      refine mOff hok rfl rfl rfl rfl rfl ?_
      refine mOff hok rfl rfl rfl rfl rfl ?_
      refine mOff hok rfl rfl rfl rfl rfl ?_
      refine mOff hok rfl rfl rfl rfl rfl ?_
      refine mOff hok rfl rfl rfl rfl rfl ?_
      refine mOff hok rfl rfl rfl rfl rfl ?_
      refine mOff hok rfl rfl rfl rfl rfl ?_
      refine mK hok rfl rfl (fun a' w' F' E' => o_pickF (F'.ev rfl) (F'.ev rfl) ⟨Ext.refl _ _, rfl⟩) ?_
      (refine mDone rfl rfl ?_; clear F; clear M; intro a w F hE2 hX hTT hDD hPP; have M := M1.later hE2; clear M1; clear hX; clear hE2; clear hok; clear hE; clear hTT; clear hDD; clear hPP; (try dsimp only at F))
      with_reducible refine l_nil ?_
      with_reducible refine q_then ?_
      refine c_false F rfl rfl ?_
      with_reducible refine c_skip ?_
      with_reducible refine q_inB ?_
      with_reducible refine q_then ?_
      with_reducible refine c_region ?_
      refine stepD rfl F rfl (o_add (F.ev rfl) (F.ev rfl) (w_i64 (by omega) (by omega)) ?_); clear F; clear a; intro a F
      refine stepD rfl F rfl (o_move (F.ev rfl) ?_); clear F; clear a; intro a F
      with_reducible refine l_nil ?_
      with_reducible refine q_then ?_
      exact ⟨_, by omega, i + 1, rfl, by omega, fun j hj => by
        rcases Nat.lt_or_ge j i with h1 | h1
        · exact hv j h1
        · obtain rfl : j = i := by omega
          rw [hv0 hi0]; rfl, F.only [10, 9, 0, 8] rfl, M.sub (List.sublist_cons_self _ _)⟩
    · have hyv := hx _ (List.getElem_mem (show i - 1 < l.length by omega))
      have g1 : seg cs (o + ((i : Int) - 1).toNat * 37) 37 = some (avC (l[i - 1]'(by omega))) := seg_el (avs_len hx) hs (show i - 1 < l.length by omega) (by omega)
      replace hvs := hvs hi0
      obtain ⟨y, hy0⟩ : ∃ y, y = l[i - 1]'(by omega) := ⟨_, rfl⟩
      rw [← hy0] at hyv g1 hvs
      have g2 : seg cs (o + ((i : Int) - 1).toNat * 37) 35 = some (dvC y.to) := sg_seg g1 (av_to hyv) (by omega)
      clear g1 hy0
      by_cases c3 : cmpD y.to x.to < 0
      · refine c_draw 14 F (by kernel_rfl) ?_
        intro w1 hE hok
        have M1 := M.later hE
        refine mK hok rfl rfl (fun a' w' F' E' => o_move (F'.ev rfl) ⟨Ext.refl _ _, rfl⟩) ?_
        refine mK hok rfl rfl (fun a' w' F' E' => o_gtrT (F'.ev rfl) (F'.ev rfl) (by omega) ⟨Ext.refl _ _, rfl⟩) ?_
        refine mK hok rfl rfl (fun a' w' F' E' => o_move (F'.ev rfl) ⟨Ext.refl _ _, rfl⟩) ?_
        refine mKG hok rfl rfl rfl rfl (fun a' w' F' E' => o_move (F'.ev rfl) ⟨Ext.refl _ _, rfl⟩) ?_
        refine mKG hok rfl rfl rfl rfl (fun a' w' F' E' => o_move (F'.ev rfl) ⟨Ext.refl _ _, rfl⟩) ?_
        refine mKG hok rfl rfl rfl rfl (fun a' w' F' E' => o_sub (F'.ev rfl) (F'.ev rfl) (w_i64 (by omega) (by omega)) ⟨Ext.refl _ _, rfl⟩) ?_
        refine mKG hok rfl rfl rfl rfl (fun a' w' F' E' => o_indexSl (F'.ev rfl) (F'.ev rfl) (by omega) (by omega) ⟨Ext.refl _ _, rfl⟩) ?_
        refine mKG hok rfl rfl rfl rfl (fun a' w' F' E' => o_fieldAddr (F'.ev rfl) ⟨Ext.refl _ _, rfl⟩) ?_
        refine mKG hok rfl rfl rfl rfl (fun a' w' F' E' => o_loadWA (M1.later E') (F'.ev rfl) (by assumption) (by first | assumption | rfl) ⟨Ext.refl _ _, rfl⟩) ?_
        refine mKG hok rfl rfl rfl rfl (fun a' w' F' E' => o_fieldAddr (F'.ev rfl) ⟨Ext.refl _ _, rfl⟩) ?_
        refine mKG hok rfl rfl rfl rfl (fun a' w' F' E' => o_loadA (M1.later E') (F'.ev rfl) (by repeat (first | exact .here | apply Has.there)) (by first | assumption | rfl) ⟨Ext.refl _ _, rfl⟩) ?_
        (refine mKG hok rfl rfl rfl rfl (fun a' w' F' E' => o_call (F'.ev rfl) (F'.evs rfl) (Cal.mono (scompare_c y.to x.to hyv.1 hxv.1 _) fun _ _ hh => ⟨hh.2, hh.1⟩)) ?_)
        refine mKG hok rfl rfl rfl rfl (fun a' w' F' E' => o_geqF (F'.ev rfl) (F'.ev rfl) (by omega) ⟨Ext.refl _ _, rfl⟩) ?_
        refine mK hok rfl rfl (fun a' w' F' E' => o_pickT (F'.ev rfl) (F'.ev rfl) ⟨Ext.refl _ _, rfl⟩) ?_
        (refine mDone rfl rfl ?_; clear F; clear M; intro a w F hE2 hX hTT hDD hPP; have M := M1.later hE2; clear M1; clear hX; clear hE2; clear hok; clear hE; clear hTT; clear hDD; clear hPP; (try dsimp only at F))
        with_reducible refine l_nil ?_
        with_reducible refine q_then ?_
        refine c_false F rfl rfl ?_
        with_reducible refine c_skip ?_
        with_reducible refine q_inB ?_
        with_reducible refine q_then ?_
        with_reducible refine c_region ?_
        refine stepD rfl F rfl (o_add (F.ev rfl) (F.ev rfl) (w_i64 (by omega) (by omega)) ?_); clear F; clear a; intro a F
        refine stepD rfl F rfl (o_move (F.ev rfl) ?_); clear F; clear a; intro a F
        with_reducible refine l_nil ?_
        with_reducible refine q_then ?_
        exact ⟨_, by omega, i + 1, rfl, by omega, fun j hj => by
          rcases Nat.lt_or_ge j i with h1 | h1
          · exact hv j h1
          · obtain rfl : j = i := by omega
            rw [hvs]; simp [c3], F.only [10, 9, 0, 8] rfl, M.sub (List.sublist_cons_self _ _)⟩
      · rw [rng_f hlt (by rw [hvs]; simp [c3])]
        refine c_draw 14 F (by kernel_rfl) ?_
        intro w1 hE hok
        have M1 := M.later hE
        refine mK hok rfl rfl (fun a' w' F' E' => o_move (F'.ev rfl) ⟨Ext.refl _ _, rfl⟩) ?_
        refine mK hok rfl rfl (fun a' w' F' E' => o_gtrT (F'.ev rfl) (F'.ev rfl) (by omega) ⟨Ext.refl _ _, rfl⟩) ?_
        refine mK hok rfl rfl (fun a' w' F' E' => o_move (F'.ev rfl) ⟨Ext.refl _ _, rfl⟩) ?_
        refine mKG hok rfl rfl rfl rfl (fun a' w' F' E' => o_move (F'.ev rfl) ⟨Ext.refl _ _, rfl⟩) ?_
        refine mKG hok rfl rfl rfl rfl (fun a' w' F' E' => o_move (F'.ev rfl) ⟨Ext.refl _ _, rfl⟩) ?_
        refine mKG hok rfl rfl rfl rfl (fun a' w' F' E' => o_sub (F'.ev rfl) (F'.ev rfl) (w_i64 (by omega) (by omega)) ⟨Ext.refl _ _, rfl⟩) ?_
        refine mKG hok rfl rfl rfl rfl (fun a' w' F' E' => o_indexSl (F'.ev rfl) (F'.ev rfl) (by omega) (by omega) ⟨Ext.refl _ _, rfl⟩) ?_
        refine mKG hok rfl rfl rfl rfl (fun a' w' F' E' => o_fieldAddr (F'.ev rfl) ⟨Ext.refl _ _, rfl⟩) ?_
        refine mKG hok rfl rfl rfl rfl (fun a' w' F' E' => o_loadWA (M1.later E') (F'.ev rfl) (by assumption) (by first | assumption | rfl) ⟨Ext.refl _ _, rfl⟩) ?_
        refine mKG hok rfl rfl rfl rfl (fun a' w' F' E' => o_fieldAddr (F'.ev rfl) ⟨Ext.refl _ _, rfl⟩) ?_
        refine mKG hok rfl rfl rfl rfl (fun a' w' F' E' => o_loadA (M1.later E') (F'.ev rfl) (by repeat (first | exact .here | apply Has.there)) (by first | assumption | rfl) ⟨Ext.refl _ _, rfl⟩) ?_
        (refine mKG hok rfl rfl rfl rfl (fun a' w' F' E' => o_call (F'.ev rfl) (F'.evs rfl) (Cal.mono (scompare_c y.to x.to hyv.1 hxv.1 _) fun _ _ hh => ⟨hh.2, hh.1⟩)) ?_)
        refine mKG hok rfl rfl rfl rfl (fun a' w' F' E' => o_geqT (F'.ev rfl) (F'.ev rfl) (by omega) ⟨Ext.refl _ _, rfl⟩) ?_
        refine mK hok rfl rfl (fun a' w' F' E' => o_pickT (F'.ev rfl) (F'.ev rfl) ⟨Ext.refl _ _, rfl⟩) ?_
        (refine mDone rfl rfl ?_; clear F; clear M; intro a w F hE2 hX hTT hDD hPP; have M := M1.later hE2; clear M1; clear hX; clear hE2; clear hok; clear hE; clear hTT; clear hDD; clear hPP; (try dsimp only at F))
        with_reducible refine l_nil ?_
        with_reducible refine q_then ?_
        refine c_true F rfl rfl ?_
        with_reducible refine c_seq ?_
        with_reducible refine c_region ?_
        refine stepD rfl F rfl (o_assign (F.ev rfl) ?_); clear F; clear a; intro a F
        with_reducible refine l_nil ?_
        with_reducible refine q_then ?_
        with_reducible refine c_ret ?_
        with_reducible refine q_inBR ?_
        with_reducible refine q_thenR ?_
        with_reducible refine q_thenR ?_
        with_reducible refine q_inBR ?_
        with_reducible refine q_thenR ?_
        refine p_ret F rfl (.cons (.tmp (F.ev rfl)) .nil) ?_
        exact ⟨rfl, M.ext⟩
  · obtain rfl : i = l.length := by omega
    rw [rng_t hv]
    with_reducible refine c_seq ?_
    with_reducible refine c_region ?_
    refine stepD rfl F rfl (o_lssF (F.ev rfl) (F.ev rfl) (by omega) ?_); clear F; clear a; intro a F
    with_reducible refine l_nil ?_
    with_reducible refine q_then ?_
    with_reducible refine c_seq ?_
    refine c_false F rfl rfl ?_
    with_reducible refine c_exit ?_
    with_reducible refine q_thenX ?_
    with_reducible refine q_thenX ?_
    with_reducible refine q_inBX ?_
    with_reducible refine q_then ?_
    with_reducible refine c_seq ?_
    with_reducible refine c_region ?_
    refine stepD rfl F rfl (o_assign (F.ev rfl) ?_); clear F; clear a; intro a F
    with_reducible refine l_nil ?_
    with_reducible refine q_then ?_
    with_reducible refine c_ret ?_
    refine p_ret F rfl (.cons (.tmp (F.ev rfl)) .nil) ?_
    exact ⟨rfl, M.ext⟩
set_option maxHeartbeats 4000000 in
theorem rvalidAs_c (l : List AdvV) (hx : ∀ x ∈ l, IsAv x) (v : Value) (W : World) (hS : SlAt W 37 v l.length (avsC l)) :
    Cal Try.prog 45 [v].toArray W fun r w' => r = .bool (validAs l) ∧ Ext [] W w' := by
  obtain ⟨q, cap, rfl, hcap, hsp, hl, hm⟩ := hS
  unfold validAs
  by_cases c0 : 520 < l.length
  · rw [decide_eq_false (by omega), Bool.false_and]
    refine fn_ofM (n := 48) [] Try.func45 rfl rfl rfl ?_
    intro a w F M hwW
    with_reducible refine c_seq ?_
    with_reducible refine c_region ?_
    refine stepD rfl F rfl (o_assign (F.ev rfl) ?_); clear F; clear a; intro a F
    with_reducible refine l_nil ?_
    with_reducible refine q_then ?_
    with_reducible refine c_seq ?_
    with_reducible refine c_seq ?_
    with_reducible refine c_region ?_
    refine stepD rfl F rfl (o_move (F.ev rfl) ?_); clear F; clear a; intro a F
    refine stepD rfl F rfl (o_lenSl (F.ev rfl) ?_); clear F; clear a; intro a F
    refine stepD rfl F rfl (o_gtrT (F.ev rfl) (F.ev rfl) (by omega) ?_); clear F; clear a; intro a F
    with_reducible refine l_nil ?_
    with_reducible refine q_then ?_
    refine c_true F rfl rfl ?_
    with_reducible refine c_seq ?_
    with_reducible refine c_region ?_
    refine stepD rfl F rfl (o_assign (F.ev rfl) ?_); clear F; clear a; intro a F
    with_reducible refine l_nil ?_
    with_reducible refine q_then ?_
    with_reducible refine c_ret ?_
    with_reducible refine q_thenR ?_
    refine p_ret F rfl (.cons (.tmp (F.ev rfl)) .nil) ?_
    exact ⟨rfl, M.ext⟩
  rw [decide_eq_true (show l.length ≤ 520 by omega), Bool.true_and]
  refine fn_ofM (n := 48) [] Try.func45 rfl rfl rfl ?_
  intro a w F M hwW
  with_reducible refine c_seq ?_
  with_reducible refine c_region ?_
  refine stepD rfl F rfl (o_assign (F.ev rfl) ?_); clear F; clear a; intro a F
  with_reducible refine l_nil ?_
  with_reducible refine q_then ?_
  with_reducible refine c_seq ?_
  with_reducible refine c_seq ?_
  with_reducible refine c_region ?_
  refine stepD rfl F rfl (o_move (F.ev rfl) ?_); clear F; clear a; intro a F
  refine stepD rfl F rfl (o_lenSl (F.ev rfl) ?_); clear F; clear a; intro a F
  refine stepD rfl F rfl (o_gtrF (F.ev rfl) (F.ev rfl) (by omega) ?_); clear F; clear a; intro a F
  with_reducible refine l_nil ?_
  with_reducible refine q_then ?_
  refine c_false F rfl rfl ?_
  with_reducible refine c_skip ?_
  with_reducible refine q_then ?_
  with_reducible refine c_seq ?_
  with_reducible refine c_seq ?_
  with_reducible refine c_region ?_
  refine stepD rfl F rfl (o_move (F.ev rfl) ?_); clear F; clear a; intro a F
  refine stepD rfl F rfl (o_lenSl (F.ev rfl) ?_); clear F; clear a; intro a F
  refine stepD rfl F rfl (o_move (F.ev rfl) ?_); clear F; clear a; intro a F
  with_reducible refine l_nil ?_
  with_reducible refine q_then ?_
  with_reducible refine c_block ?_
  refine c_loop (fun m a w => ∃ i : Nat, m = l.length - i ∧ i ≤ l.length ∧ (∀ j, j < i → adv1 l j = true) ∧ Frm a 48 [] [(9, .int .i64 i), (8, .int .i64 l.length), (0, .slice q l.length cap)] ∧ Mem [] W w []) l.length ⟨0, rfl, by omega, by omega, F.only [9, 8, 0] rfl, M⟩ ?_
  clear F M
  rintro m a w ⟨i, hm', hi, hv, F, M⟩
  by_cases hlt : i < l.length
  · obtain ⟨b, o, cs, t, fz, rfl, hb, hs⟩ := hm (by omega)
    have hxv := hx _ (List.getElem_mem hlt)
    have hv0 := adv1_0 hlt
    have hvs := adv1_s hlt
    have hvf := adv1_f hlt
    have f1 : seg cs (o + (i : Int).toNat * 37) 37 = some (avC l[i]) := seg_el (avs_len hx) hs hlt (by omega)
    obtain ⟨x, hx0⟩ : ∃ x, x = l[i] := ⟨_, rfl⟩
    rw [← hx0] at hxv hv0 hvs hvf f1
    have f5 : seg cs (o + (i : Int).toNat * 37) 35 = some (dvC x.to) := sg_seg f1 (av_to hxv) (by omega)
    have f6 : seg cs (o + (i : Int).toNat * 37 + 35) 2 = some (diC x.own) := sg_seg f1 (av_own hxv) (by omega)
    clear f1
    with_reducible refine c_seq ?_
    with_reducible refine c_region ?_
    refine stepD rfl F rfl (o_lssT (F.ev rfl) (F.ev rfl) (by omega) ?_); clear F; clear a; intro a F
    with_reducible refine l_nil ?_
    with_reducible refine q_then ?_
    with_reducible refine c_seq ?_
    refine c_true F rfl rfl ?_
    with_reducible refine c_skip ?_
    with_reducible refine q_then ?_
    with_reducible refine c_seq ?_
    with_reducible refine c_block ?_
    with_reducible refine c_seq ?_
    with_reducible refine c_region ?_
    refine stepD rfl F rfl (o_move (F.ev rfl) ?_); clear F; clear a; intro a F
    refine stepD rfl F rfl (o_assign (F.ev rfl) ?_); clear F; clear a; intro a F
    with_reducible refine l_nil ?_
    with_reducible refine q_then ?_
    with_reducible refine c_seq ?_
    replace F := F.only [9, 8, 0, 3] rfl
    cases c1 : validT x.to
    · rw [rng_f hlt (hvf (by rw [c1]; rfl))]
      refine c_draw 35 F (by kernel_rfl) ?_
      intro w1 hE hok
      have M1 := M.later hE
      refine mK hok rfl rfl (fun a' w' F' E' => o_move (F'.ev rfl) ⟨Ext.refl _ _, rfl⟩) ?_
      refine mK hok rfl rfl (fun a' w' F' E' => o_move (F'.ev rfl) ⟨Ext.refl _ _, rfl⟩) ?_
      refine mK hok rfl rfl (fun a' w' F' E' => o_indexSl (F'.ev rfl) (F'.ev rfl) (by omega) (by omega) ⟨Ext.refl _ _, rfl⟩) ?_
      refine mK hok rfl rfl (fun a' w' F' E' => o_fieldAddr (F'.ev rfl) ⟨Ext.refl _ _, rfl⟩) ?_
      refine mK hok rfl rfl (fun a' w' F' E' => o_loadWA (M1.later E') (F'.ev rfl) (by assumption) (by first | assumption | rfl) ⟨Ext.refl _ _, rfl⟩) ?_
      (refine mK hok rfl rfl (fun a' w' F' E' => o_call (F'.ev rfl) (F'.evs rfl) (Cal.mono (Cal.to (v' := .bool false) (rvalidTo_c x.to hxv.1 _) (by rw [c1])) fun _ _ hh => ⟨hh.2, hh.1⟩)) ?_)
      refine mK hok rfl rfl (fun a' w' F' E' => o_not (F'.ev rfl) ⟨Ext.refl _ _, rfl⟩) ?_
      refine mK hok rfl rfl (fun a' w' F' E' => o_move (F'.ev rfl) ⟨Ext.refl _ _, rfl⟩) ?_
      refine mOff hok rfl rfl rfl rfl rfl ?_
      refine mOff hok rfl rfl rfl rfl rfl ?_
      refine mOff hok rfl rfl rfl rfl rfl ?_
      refine mOff hok rfl rfl rfl rfl rfl ?_
      refine mOff hok rfl rfl rfl rfl rfl ?_
      refine mOff hok rfl rfl rfl rfl rfl ?_
      refine mOff hok rfl rfl rfl rfl rfl ?_
      refine mK hok rfl rfl (fun a' w' F' E' => o_pickT (F'.ev rfl) (F'.ev rfl) ⟨Ext.refl _ _, rfl⟩) ?_
      refine mK hok rfl rfl (fun a' w' F' E' => o_move (F'.ev rfl) ⟨Ext.refl _ _, rfl⟩) ?_
      refine mOff hok rfl rfl rfl rfl rfl ?_
      refine mOff hok rfl rfl rfl rfl rfl ?_
      refine mOff hok rfl rfl rfl rfl rfl ?_
      refine mOff hok rfl rfl rfl rfl rfl ?_
      refine mOff hok rfl rfl rfl rfl rfl ?_
      refine mOff hok rfl rfl rfl rfl rfl ?_
      refine mOff hok rfl rfl rfl rfl rfl ?_
      refine mOff hok rfl rfl rfl rfl rfl ?_
      refine mOff hok rfl rfl rfl rfl rfl ?_
      refine mOff hok rfl rfl rfl rfl rfl ?_
      refine mOff hok rfl rfl rfl rfl rfl ?_
      refine mOff hok rfl rfl rfl rfl rfl ?_
      refine mOff hok rfl rfl rfl rfl rfl ?_
      refine mOff hok rfl rfl rfl rfl rfl ?_
      refine mOff hok rfl rfl rfl rfl rfl ?_
      refine mOff hok rfl rfl rfl rfl rfl ?_
      refine mOff hok rfl rfl rfl rfl rfl ?_
      refine mK hok rfl rfl (fun a' w' F' E' => o_pickT (F'.ev rfl) (F'.ev rfl) ⟨Ext.refl _ _, rfl⟩) ?_
      (refine mDone rfl rfl ?_; clear F; clear M; intro a w F hE2 hX hTT hDD hPP; have M := M1.later hE2; clear M1; clear hX; clear hE2; clear hok; clear hE; clear hTT; clear hDD; clear hPP; (try dsimp only at F))
      with_reducible refine l_nil ?_
      with_reducible refine q_then ?_
      refine c_true F rfl rfl ?_
      with_reducible refine c_seq ?_
      with_reducible refine c_region ?_
      refine stepD rfl F rfl (o_assign (F.ev rfl) ?_); clear F; clear a; intro a F
      with_reducible refine l_nil ?_
      with_reducible refine q_then ?_
      with_reducible refine c_ret ?_
      with_reducible refine q_inBR ?_
      with_reducible refine q_thenR ?_
      with_reducible refine q_thenR ?_
      with_reducible refine q_inBR ?_
      with_reducible refine q_thenR ?_
      refine p_ret F rfl (.cons (.tmp (F.ev rfl)) .nil) ?_
      exact ⟨rfl, M.ext⟩
    cases c2 : validM x.own.met
    · rw [rng_f hlt (hvf (by rw [c1, c2]; rfl))]
      refine c_draw 35 F (by kernel_rfl) ?_
      intro w1 hE hok
      have M1 := M.later hE
      refine mK hok rfl rfl (fun a' w' F' E' => o_move (F'.ev rfl) ⟨Ext.refl _ _, rfl⟩) ?_
      refine mK hok rfl rfl (fun a' w' F' E' => o_move (F'.ev rfl) ⟨Ext.refl _ _, rfl⟩) ?_
      refine mK hok rfl rfl (fun a' w' F' E' => o_indexSl (F'.ev rfl) (F'.ev rfl) (by omega) (by omega) ⟨Ext.refl _ _, rfl⟩) ?_
      refine mK hok rfl rfl (fun a' w' F' E' => o_fieldAddr (F'.ev rfl) ⟨Ext.refl _ _, rfl⟩) ?_
      refine mK hok rfl rfl (fun a' w' F' E' => o_loadWA (M1.later E') (F'.ev rfl) (by assumption) (by first | assumption | rfl) ⟨Ext.refl _ _, rfl⟩) ?_
      (refine mK hok rfl rfl (fun a' w' F' E' => o_call (F'.ev rfl) (F'.evs rfl) (Cal.mono (Cal.to (v' := .bool true) (rvalidTo_c x.to hxv.1 _) (by rw [c1])) fun _ _ hh => ⟨hh.2, hh.1⟩)) ?_)
      refine mK hok rfl rfl (fun a' w' F' E' => o_not (F'.ev rfl) ⟨Ext.refl _ _, rfl⟩) ?_
      refine mK hok rfl rfl (fun a' w' F' E' => o_move (F'.ev rfl) ⟨Ext.refl _ _, rfl⟩) ?_
      refine mKG hok rfl rfl rfl rfl (fun a' w' F' E' => o_move (F'.ev rfl) ⟨Ext.refl _ _, rfl⟩) ?_
      refine mKG hok rfl rfl rfl rfl (fun a' w' F' E' => o_move (F'.ev rfl) ⟨Ext.refl _ _, rfl⟩) ?_
      refine mKG hok rfl rfl rfl rfl (fun a' w' F' E' => o_indexSl (F'.ev rfl) (F'.ev rfl) (by omega) (by omega) ⟨Ext.refl _ _, rfl⟩) ?_
      refine mKG hok rfl rfl rfl rfl (fun a' w' F' E' => o_fieldAddr (F'.ev rfl) ⟨Ext.refl _ _, rfl⟩) ?_
      refine mKG hok rfl rfl rfl rfl (fun a' w' F' E' => o_loadWA (M1.later E') (F'.ev rfl) (by assumption) (by first | assumption | rfl) ⟨Ext.refl _ _, rfl⟩) ?_
      (refine mKG hok rfl rfl rfl rfl (fun a' w' F' E' => o_call (F'.ev rfl) (F'.evs rfl) (Cal.mono (Cal.to (v' := .bool false) (rdvalid_c x.own _) (by rw [c2])) fun _ _ hh => ⟨hh.2, hh.1⟩)) ?_)
      refine mKG hok rfl rfl rfl rfl (fun a' w' F' E' => o_not (F'.ev rfl) ⟨Ext.refl _ _, rfl⟩) ?_
      refine mK hok rfl rfl (fun a' w' F' E' => o_pickF (F'.ev rfl) (F'.ev rfl) ⟨Ext.refl _ _, rfl⟩) ?_
      refine mK hok rfl rfl (fun a' w' F' E' => o_move (F'.ev rfl) ⟨Ext.refl _ _, rfl⟩) ?_
      refine mOff hok rfl rfl rfl rfl rfl ?_
      refine mOff hok rfl rfl rfl rfl rfl ?_
      refine mOff hok rfl rfl rfl rfl rfl ?_
      refine mOff hok rfl rfl rfl rfl rfl ?_
      refine mOff hok rfl rfl rfl rfl rfl ?_
      refine mOff hok rfl rfl rfl rfl rfl ?_
      refine mOff hok rfl rfl rfl rfl rfl ?_
      refine mOff hok rfl rfl rfl rfl rfl ?_
      refine mOff hok rfl rfl rfl rfl rfl ?_
      refine mOff hok rfl rfl rfl rfl rfl ?_
      refine mOff hok rfl rfl rfl rfl rfl ?_
      refine mOff hok rfl rfl rfl rfl rfl ?_
      refine mOff hok rfl rfl rfl rfl rfl ?_
      refine mOff hok rfl rfl rfl rfl rfl ?_
      refine mOff hok rfl rfl rfl rfl rfl ?_
      refine mOff hok rfl rfl rfl rfl rfl ?_
      refine mOff hok rfl rfl rfl rfl rfl ?_
      refine mK hok rfl rfl (fun a' w' F' E' => o_pickT (F'.ev rfl) (F'.ev rfl) ⟨Ext.refl _ _, rfl⟩) ?_
      (refine mDone rfl rfl ?_; clear F; clear M; intro a w F hE2 hX hTT hDD hPP; have M := M1.later hE2; clear M1; clear hX; clear hE2; clear hok; clear hE; clear hTT; clear hDD; clear hPP; (try dsimp only at F))
      with_reducible refine l_nil ?_
      with_reducible refine q_then ?_
      refine c_true F rfl rfl ?_
      with_reducible refine c_seq ?_
      with_reducible refine c_region ?_
      refine stepD rfl F rfl (o_assign (F.ev rfl) ?_); clear F; clear a; intro a F
      with_reducible refine l_nil ?_
      with_reducible refine q_then ?_
      with_reducible refine c_ret ?_
      with_reducible refine q_inBR ?_
      with_reducible refine q_thenR ?_
      with_reducible refine q_thenR ?_
      with_reducible refine q_inBR ?_
      with_reducible refine q_thenR ?_
      refine p_ret F rfl (.cons (.tmp (F.ev rfl)) .nil) ?_
      exact ⟨rfl, M.ext⟩
    rw [c1, c2] at hv0 hvs
    clear hvf
    rcases Nat.eq_zero_or_pos i with hi0 | hi0
    · refine c_draw 35 F (by kernel_rfl) ?_
      intro w1 hE hok
      have M1 := M.later hE
      refine mK hok rfl rfl (fun a' w' F' E' => o_move (F'.ev rfl) ⟨Ext.refl _ _, rfl⟩) ?_
      refine mK hok rfl rfl (fun a' w' F' E' => o_move (F'.ev rfl) ⟨Ext.refl _ _, rfl⟩) ?_
      refine mK hok rfl rfl (fun a' w' F' E' => o_indexSl (F'.ev rfl) (F'.ev rfl) (by omega) (by omega) ⟨Ext.refl _ _, rfl⟩) ?_
      refine mK hok rfl rfl (fun a' w' F' E' => o_fieldAddr (F'.ev rfl) ⟨Ext.refl _ _, rfl⟩) ?_
      refine mK hok rfl rfl (fun a' w' F' E' => o_loadWA (M1.later E') (F'.ev rfl) (by assumption) (by first | assumption | rfl) ⟨Ext.refl _ _, rfl⟩) ?_
      (refine mK hok rfl rfl (fun a' w' F' E' => o_call (F'.ev rfl) (F'.evs rfl) (Cal.mono (Cal.to (v' := .bool true) (rvalidTo_c x.to hxv.1 _) (by rw [c1])) fun _ _ hh => ⟨hh.2, hh.1⟩)) ?_)
      refine mK hok rfl rfl (fun a' w' F' E' => o_not (F'.ev rfl) ⟨Ext.refl _ _, rfl⟩) ?_
      refine mK hok rfl rfl (fun a' w' F' E' => o_move (F'.ev rfl) ⟨Ext.refl _ _, rfl⟩) ?_
      refine mKG hok rfl rfl rfl rfl (fun a' w' F' E' => o_move (F'.ev rfl) ⟨Ext.refl _ _, rfl⟩) ?_
      refine mKG hok rfl rfl rfl rfl (fun a' w' F' E' => o_move (F'.ev rfl) ⟨Ext.refl _ _, rfl⟩) ?_
      refine mKG hok rfl rfl rfl rfl (fun a' w' F' E' => o_indexSl (F'.ev rfl) (F'.ev rfl) (by omega) (by omega) ⟨Ext.refl _ _, rfl⟩) ?_
      refine mKG hok rfl rfl rfl rfl (fun a' w' F' E' => o_fieldAddr (F'.ev rfl) ⟨Ext.refl _ _, rfl⟩) ?_
      refine mKG hok rfl rfl rfl rfl (fun a' w' F' E' => o_loadWA (M1.later E') (F'.ev rfl) (by assumption) (by first | assumption | rfl) ⟨Ext.refl _ _, rfl⟩) ?_
      (refine mKG hok rfl rfl rfl rfl (fun a' w' F' E' => o_call (F'.ev rfl) (F'.evs rfl) (Cal.mono (Cal.to (v' := .bool true) (rdvalid_c x.own _) (by rw [c2])) fun _ _ hh => ⟨hh.2, hh.1⟩)) ?_)
      refine mKG hok rfl rfl rfl rfl (fun a' w' F' E' => o_not (F'.ev rfl) ⟨Ext.refl _ _, rfl⟩) ?_
      refine mK hok rfl rfl (fun a' w' F' E' => o_pickF (F'.ev rfl) (F'.ev rfl) ⟨Ext.refl _ _, rfl⟩) ?_
      refine mK hok rfl rfl (fun a' w' F' E' => o_move (F'.ev rfl) ⟨Ext.refl _ _, rfl⟩) ?_
      refine mKG hok rfl rfl rfl rfl (fun a' w' F' E' => o_move (F'.ev rfl) ⟨Ext.refl _ _, rfl⟩) ?_
      refine mKG hok rfl rfl rfl rfl (fun a' w' F' E' => o_gtrF (F'.ev rfl) (F'.ev rfl) (by omega) ⟨Ext.refl _ _, rfl⟩) ?_
      refine mKG hok rfl rfl rfl rfl (fun a' w' F' E' => o_move (F'.ev rfl) ⟨Ext.refl _ _, rfl⟩) ?_
      refine mOff hok rfl rfl rfl rfl rfl ?_
      refine mOff hok rfl rfl rfl rfl rfl ?_
      refine mOff hok rfl rfl rfl rfl rfl ?_
      refine mOff hok rfl rfl rfl rfl rfl ?_
      refine mOff hok rfl rfl rfl rfl rfl ?_
      refine mOff hok rfl rfl rfl rfl rfl ?_
      refine mOff hok rfl rfl rfl rfl rfl ?_
      refine mOff hok rfl rfl rfl rfl rfl ?_
      refine mOff hok rfl rfl rfl rfl rfl ?_
      refine mOff hok rfl rfl rfl rfl rfl ?_
      refine mOff hok rfl rfl rfl rfl rfl ?_
      refine mOff hok rfl rfl rfl rfl rfl ?_
      refine mOff hok rfl rfl rfl rfl rfl ?_
      refine mKG hok rfl rfl rfl rfl (fun a' w' F' E' => o_pickF (F'.ev rfl) (F'.ev rfl) ⟨Ext.refl _ _, rfl⟩) ?_
      refine mK hok rfl rfl (fun a' w' F' E' => o_pickF (F'.ev rfl) (F'.ev rfl) ⟨Ext.refl _ _, rfl⟩) ?_
      (refine mDone rfl rfl ?_; clear F; clear M; intro a w F hE2 hX hTT hDD hPP; have M := M1.later hE2; clear M1; clear hX; clear hE2; clear hok; clear hE; clear hTT; clear hDD; clear hPP; (try dsimp only at F))
      with_reducible refine l_nil ?_
      with_reducible refine q_then ?_
      refine c_false F rfl rfl ?_
      with_reducible refine c_skip ?_
      with_reducible refine q_inB ?_
      with_reducible refine q_then ?_
      with_reducible refine c_region ?_
      refine stepD rfl F rfl (o_add (F.ev rfl) (F.ev rfl) (w_i64 (by omega) (by omega)) ?_); clear F; clear a; intro a F
      refine stepD rfl F rfl (o_move (F.ev rfl) ?_); clear F; clear a; intro a F
      with_reducible refine l_nil ?_
      with_reducible refine q_then ?_
      exact ⟨_, by omega, i + 1, rfl, by omega, fun j hj => by
        rcases Nat.lt_or_ge j i with h1 | h1
        · exact hv j h1
        · obtain rfl : j = i := by omega
          rw [hv0 hi0]; rfl, F.only [9, 8, 0] rfl, M⟩
    · have hyv := hx _ (List.getElem_mem (show i - 1 < l.length by omega))
      have g1 : seg cs (o + ((i : Int) - 1).toNat * 37) 37 = some (avC (l[i - 1]'(by omega))) := seg_el (avs_len hx) hs (show i - 1 < l.length by omega) (by omega)
      replace hvs := hvs hi0
      obtain ⟨y, hy0⟩ : ∃ y, y = l[i - 1]'(by omega) := ⟨_, rfl⟩
      rw [← hy0] at hyv g1 hvs
      have g2 : seg cs (o + ((i : Int) - 1).toNat * 37) 35 = some (dvC y.to) := sg_seg g1 (av_to hyv) (by omega)
      clear g1 hy0
      by_cases c3 : cmpD y.to x.to < 0
      · refine c_draw 35 F (by kernel_rfl) ?_
        intro w1 hE hok
        have M1 := M.later hE
        refine mK hok rfl rfl (fun a' w' F' E' => o_move (F'.ev rfl) ⟨Ext.refl _ _, rfl⟩) ?_
        refine mK hok rfl rfl (fun a' w' F' E' => o_move (F'.ev rfl) ⟨Ext.refl _ _, rfl⟩) ?_
        refine mK hok rfl rfl (fun a' w' F' E' => o_indexSl (F'.ev rfl) (F'.ev rfl) (by omega) (by omega) ⟨Ext.refl _ _, rfl⟩) ?_
        refine mK hok rfl rfl (fun a' w' F' E' => o_fieldAddr (F'.ev rfl) ⟨Ext.refl _ _, rfl⟩) ?_
        refine mK hok rfl rfl (fun a' w' F' E' => o_loadWA (M1.later E') (F'.ev rfl) (by assumption) (by first | assumption | rfl) ⟨Ext.refl _ _, rfl⟩) ?_
        (refine mK hok rfl rfl (fun a' w' F' E' => o_call (F'.ev rfl) (F'.evs rfl) (Cal.mono (Cal.to (v' := .bool true) (rvalidTo_c x.to hxv.1 _) (by rw [c1])) fun _ _ hh => ⟨hh.2, hh.1⟩)) ?_)
        refine mK hok rfl rfl (fun a' w' F' E' => o_not (F'.ev rfl) ⟨Ext.refl _ _, rfl⟩) ?_
        refine mK hok rfl rfl (fun a' w' F' E' => o_move (F'.ev rfl) ⟨Ext.refl _ _, rfl⟩) ?_
        refine mKG hok rfl rfl rfl rfl (fun a' w' F' E' => o_move (F'.ev rfl) ⟨Ext.refl _ _, rfl⟩) ?_
        refine mKG hok rfl rfl rfl rfl (fun a' w' F' E' => o_move (F'.ev rfl) ⟨Ext.refl _ _, rfl⟩) ?_
        refine mKG hok rfl rfl rfl rfl (fun a' w' F' E' => o_indexSl (F'.ev rfl) (F'.ev rfl) (by omega) (by omega) ⟨Ext.refl _ _, rfl⟩) ?_
        refine mKG hok rfl rfl rfl rfl (fun a' w' F' E' => o_fieldAddr (F'.ev rfl) ⟨Ext.refl _ _, rfl⟩) ?_
        refine mKG hok rfl rfl rfl rfl (fun a' w' F' E' => o_loadWA (M1.later E') (F'.ev rfl) (by assumption) (by first | assumption | rfl) ⟨Ext.refl _ _, rfl⟩) ?_
        (refine mKG hok rfl rfl rfl rfl (fun a' w' F' E' => o_call (F'.ev rfl) (F'.evs rfl) (Cal.mono (Cal.to (v' := .bool true) (rdvalid_c x.own _) (by rw [c2])) fun _ _ hh => ⟨hh.2, hh.1⟩)) ?_)
        refine mKG hok rfl rfl rfl rfl (fun a' w' F' E' => o_not (F'.ev rfl) ⟨Ext.refl _ _, rfl⟩) ?_
        refine mK hok rfl rfl (fun a' w' F' E' => o_pickF (F'.ev rfl) (F'.ev rfl) ⟨Ext.refl _ _, rfl⟩) ?_
        refine mK hok rfl rfl (fun a' w' F' E' => o_move (F'.ev rfl) ⟨Ext.refl _ _, rfl⟩) ?_
        refine mKG hok rfl rfl rfl rfl (fun a' w' F' E' => o_move (F'.ev rfl) ⟨Ext.refl _ _, rfl⟩) ?_
        refine mKG hok rfl rfl rfl rfl (fun a' w' F' E' => o_gtrT (F'.ev rfl) (F'.ev rfl) (by omega) ⟨Ext.refl _ _, rfl⟩) ?_
        refine mKG hok rfl rfl rfl rfl (fun a' w' F' E' => o_move (F'.ev rfl) ⟨Ext.refl _ _, rfl⟩) ?_
        refine mKG hok rfl rfl rfl rfl (fun a' w' F' E' => o_move (F'.ev rfl) ⟨Ext.refl _ _, rfl⟩) ?_
        refine mKG hok rfl rfl rfl rfl (fun a' w' F' E' => o_move (F'.ev rfl) ⟨Ext.refl _ _, rfl⟩) ?_
        refine mKG hok rfl rfl rfl rfl (fun a' w' F' E' => o_sub (F'.ev rfl) (F'.ev rfl) (w_i64 (by omega) (by omega)) ⟨Ext.refl _ _, rfl⟩) ?_
        refine mKG hok rfl rfl rfl rfl (fun a' w' F' E' => o_indexSl (F'.ev rfl) (F'.ev rfl) (by omega) (by omega) ⟨Ext.refl _ _, rfl⟩) ?_
        refine mKG hok rfl rfl rfl rfl (fun a' w' F' E' => o_fieldAddr (F'.ev rfl) ⟨Ext.refl _ _, rfl⟩) ?_
        refine mKG hok rfl rfl rfl rfl (fun a' w' F' E' => o_loadWA (M1.later E') (F'.ev rfl) (by assumption) (by first | assumption | rfl) ⟨Ext.refl _ _, rfl⟩) ?_
        refine mKG hok rfl rfl rfl rfl (fun a' w' F' E' => o_move (F'.ev rfl) ⟨Ext.refl _ _, rfl⟩) ?_
        refine mKG hok rfl rfl rfl rfl (fun a' w' F' E' => o_move (F'.ev rfl) ⟨Ext.refl _ _, rfl⟩) ?_
        refine mKG hok rfl rfl rfl rfl (fun a' w' F' E' => o_indexSl (F'.ev rfl) (F'.ev rfl) (by omega) (by omega) ⟨Ext.refl _ _, rfl⟩) ?_
        refine mKG hok rfl rfl rfl rfl (fun a' w' F' E' => o_fieldAddr (F'.ev rfl) ⟨Ext.refl _ _, rfl⟩) ?_
        refine mKG hok rfl rfl rfl rfl (fun a' w' F' E' => o_loadWA (M1.later E') (F'.ev rfl) (by assumption) (by first | assumption | rfl) ⟨Ext.refl _ _, rfl⟩) ?_
        (refine mKG hok rfl rfl rfl rfl (fun a' w' F' E' => o_call (F'.ev rfl) (F'.evs rfl) (Cal.mono (rcompare_c y.to x.to hyv.1 hxv.1 _) fun _ _ hh => ⟨hh.2, hh.1⟩)) ?_)
        refine mKG hok rfl rfl rfl rfl (fun a' w' F' E' => o_geqF (F'.ev rfl) (F'.ev rfl) (by omega) ⟨Ext.refl _ _, rfl⟩) ?_
        refine mKG hok rfl rfl rfl rfl (fun a' w' F' E' => o_pickT (F'.ev rfl) (F'.ev rfl) ⟨Ext.refl _ _, rfl⟩) ?_
        refine mK hok rfl rfl (fun a' w' F' E' => o_pickF (F'.ev rfl) (F'.ev rfl) ⟨Ext.refl _ _, rfl⟩) ?_
        (refine mDone rfl rfl ?_; clear F; clear M; intro a w F hE2 hX hTT hDD hPP; have M := M1.later hE2; clear M1; clear hX; clear hE2; clear hok; clear hE; clear hTT; clear hDD; clear hPP; (try dsimp only at F))
        with_reducible refine l_nil ?_
        with_reducible refine q_then ?_
        refine c_false F rfl rfl ?_
        with_reducible refine c_skip ?_
        with_reducible refine q_inB ?_
        with_reducible refine q_then ?_
        with_reducible refine c_region ?_
        refine stepD rfl F rfl (o_add (F.ev rfl) (F.ev rfl) (w_i64 (by omega) (by omega)) ?_); clear F; clear a; intro a F
        refine stepD rfl F rfl (o_move (F.ev rfl) ?_); clear F; clear a; intro a F
        with_reducible refine l_nil ?_
        with_reducible refine q_then ?_
        exact ⟨_, by omega, i + 1, rfl, by omega, fun j hj => by
          rcases Nat.lt_or_ge j i with h1 | h1
          · exact hv j h1
          · obtain rfl : j = i := by omega
            rw [hvs]; simp [c3], F.only [9, 8, 0] rfl, M⟩
      · rw [rng_f hlt (by rw [hvs]; simp [c3])]
        refine c_draw 35 F (by kernel_rfl) ?_
        intro w1 hE hok
        have M1 := M.later hE
        refine mK hok rfl rfl (fun a' w' F' E' => o_move (F'.ev rfl) ⟨Ext.refl _ _, rfl⟩) ?_
        refine mK hok rfl rfl (fun a' w' F' E' => o_move (F'.ev rfl) ⟨Ext.refl _ _, rfl⟩) ?_
        refine mK hok rfl rfl (fun a' w' F' E' => o_indexSl (F'.ev rfl) (F'.ev rfl) (by omega) (by omega) ⟨Ext.refl _ _, rfl⟩) ?_
        refine mK hok rfl rfl (fun a' w' F' E' => o_fieldAddr (F'.ev rfl) ⟨Ext.refl _ _, rfl⟩) ?_
        refine mK hok rfl rfl (fun a' w' F' E' => o_loadWA (M1.later E') (F'.ev rfl) (by assumption) (by first | assumption | rfl) ⟨Ext.refl _ _, rfl⟩) ?_
        (refine mK hok rfl rfl (fun a' w' F' E' => o_call (F'.ev rfl) (F'.evs rfl) (Cal.mono (Cal.to (v' := .bool true) (rvalidTo_c x.to hxv.1 _) (by rw [c1])) fun _ _ hh => ⟨hh.2, hh.1⟩)) ?_)
        refine mK hok rfl rfl (fun a' w' F' E' => o_not (F'.ev rfl) ⟨Ext.refl _ _, rfl⟩) ?_
        refine mK hok rfl rfl (fun a' w' F' E' => o_move (F'.ev rfl) ⟨Ext.refl _ _, rfl⟩) ?_
        refine mKG hok rfl rfl rfl rfl (fun a' w' F' E' => o_move (F'.ev rfl) ⟨Ext.refl _ _, rfl⟩) ?_
        refine mKG hok rfl rfl rfl rfl (fun a' w' F' E' => o_move (F'.ev rfl) ⟨Ext.refl _ _, rfl⟩) ?_
        refine mKG hok rfl rfl rfl rfl (fun a' w' F' E' => o_indexSl (F'.ev rfl) (F'.ev rfl) (by omega) (by omega) ⟨Ext.refl _ _, rfl⟩) ?_
        refine mKG hok rfl rfl rfl rfl (fun a' w' F' E' => o_fieldAddr (F'.ev rfl) ⟨Ext.refl _ _, rfl⟩) ?_
        refine mKG hok rfl rfl rfl rfl (fun a' w' F' E' => o_loadWA (M1.later E') (F'.ev rfl) (by assumption) (by first | assumption | rfl) ⟨Ext.refl _ _, rfl⟩) ?_
        (refine mKG hok rfl rfl rfl rfl (fun a' w' F' E' => o_call (F'.ev rfl) (F'.evs rfl) (Cal.mono (Cal.to (v' := .bool true) (rdvalid_c x.own _) (by rw [c2])) fun _ _ hh => ⟨hh.2, hh.1⟩)) ?_)
        refine mKG hok rfl rfl rfl rfl (fun a' w' F' E' => o_not (F'.ev rfl) ⟨Ext.refl _ _, rfl⟩) ?_
        refine mK hok rfl rfl (fun a' w' F' E' => o_pickF (F'.ev rfl) (F'.ev rfl) ⟨Ext.refl _ _, rfl⟩) ?_
        refine mK hok rfl rfl (fun a' w' F' E' => o_move (F'.ev rfl) ⟨Ext.refl _ _, rfl⟩) ?_
        refine mKG hok rfl rfl rfl rfl (fun a' w' F' E' => o_move (F'.ev rfl) ⟨Ext.refl _ _, rfl⟩) ?_
        refine mKG hok rfl rfl rfl rfl (fun a' w' F' E' => o_gtrT (F'.ev rfl) (F'.ev rfl) (by omega) ⟨Ext.refl _ _, rfl⟩) ?_
        refine mKG hok rfl rfl rfl rfl (fun a' w' F' E' => o_move (F'.ev rfl) ⟨Ext.refl _ _, rfl⟩) ?_
        refine mKG hok rfl rfl rfl rfl (fun a' w' F' E' => o_move (F'.ev rfl) ⟨Ext.refl _ _, rfl⟩) ?_
        refine mKG hok rfl rfl rfl rfl (fun a' w' F' E' => o_move (F'.ev rfl) ⟨Ext.refl _ _, rfl⟩) ?_
        refine mKG hok rfl rfl rfl rfl (fun a' w' F' E' => o_sub (F'.ev rfl) (F'.ev rfl) (w_i64 (by omega) (by omega)) ⟨Ext.refl _ _, rfl⟩) ?_
        refine mKG hok rfl rfl rfl rfl (fun a' w' F' E' => o_indexSl (F'.ev rfl) (F'.ev rfl) (by omega) (by omega) ⟨Ext.refl _ _, rfl⟩) ?_
        refine mKG hok rfl rfl rfl rfl (fun a' w' F' E' => o_fieldAddr (F'.ev rfl) ⟨Ext.refl _ _, rfl⟩) ?_
        refine mKG hok rfl rfl rfl rfl (fun a' w' F' E' => o_loadWA (M1.later E') (F'.ev rfl) (by assumption) (by first | assumption | rfl) ⟨Ext.refl _ _, rfl⟩) ?_
        refine mKG hok rfl rfl rfl rfl (fun a' w' F' E' => o_move (F'.ev rfl) ⟨Ext.refl _ _, rfl⟩) ?_
        refine mKG hok rfl rfl rfl rfl (fun a' w' F' E' => o_move (F'.ev rfl) ⟨Ext.refl _ _, rfl⟩) ?_
        refine mKG hok rfl rfl rfl rfl (fun a' w' F' E' => o_indexSl (F'.ev rfl) (F'.ev rfl) (by omega) (by omega) ⟨Ext.refl _ _, rfl⟩) ?_
        refine mKG hok rfl rfl rfl rfl (fun a' w' F' E' => o_fieldAddr (F'.ev rfl) ⟨Ext.refl _ _, rfl⟩) ?_
        refine mKG hok rfl rfl rfl rfl (fun a' w' F' E' => o_loadWA (M1.later E') (F'.ev rfl) (by assumption) (by first | assumption | rfl) ⟨Ext.refl _ _, rfl⟩) ?_
        (refine mKG hok rfl rfl rfl rfl (fun a' w' F' E' => o_call (F'.ev rfl) (F'.evs rfl) (Cal.mono (rcompare_c y.to x.to hyv.1 hxv.1 _) fun _ _ hh => ⟨hh.2, hh.1⟩)) ?_)
        refine mKG hok rfl rfl rfl rfl (fun a' w' F' E' => o_geqT (F'.ev rfl) (F'.ev rfl) (by omega) ⟨Ext.refl _ _, rfl⟩) ?_
        refine mKG hok rfl rfl rfl rfl (fun a' w' F' E' => o_pickT (F'.ev rfl) (F'.ev rfl) ⟨Ext.refl _ _, rfl⟩) ?_
        refine mK hok rfl rfl (fun a' w' F' E' => o_pickF (F'.ev rfl) (F'.ev rfl) ⟨Ext.refl _ _, rfl⟩) ?_
        (refine mDone rfl rfl ?_; clear F; clear M; intro a w F hE2 hX hTT hDD hPP; have M := M1.later hE2; clear M1; clear hX; clear hE2; clear hok; clear hE; clear hTT; clear hDD; clear hPP; (try dsimp only at F))
        with_reducible refine l_nil ?_
        with_reducible refine q_then ?_
        refine c_true F rfl rfl ?_
        with_reducible refine c_seq ?_
        with_reducible refine c_region ?_
        refine stepD rfl F rfl (o_assign (F.ev rfl) ?_); clear F; clear a; intro a F
        with_reducible refine l_nil ?_
        with_reducible refine q_then ?_
        with_reducible refine c_ret ?_
        with_reducible refine q_inBR ?_
        with_reducible refine q_thenR ?_
        with_reducible refine q_thenR ?_
        with_reducible refine q_inBR ?_
        with_reducible refine q_thenR ?_
        refine p_ret F rfl (.cons (.tmp (F.ev rfl)) .nil) ?_
        exact ⟨rfl, M.ext⟩
  · obtain rfl : i = l.length := by omega
    rw [rng_t hv]
    with_reducible refine c_seq ?_
    with_reducible refine c_region ?_
    refine stepD rfl F rfl (o_lssF (F.ev rfl) (F.ev rfl) (by omega) ?_); clear F; clear a; intro a F
    with_reducible refine l_nil ?_
    with_reducible refine q_then ?_
    with_reducible refine c_seq ?_
    refine c_false F rfl rfl ?_
    with_reducible refine c_exit ?_
    with_reducible refine q_thenX ?_
    with_reducible refine q_thenX ?_
    with_reducible refine q_inBX ?_
    with_reducible refine q_then ?_
    with_reducible refine c_seq ?_
    with_reducible refine c_region ?_
    refine stepD rfl F rfl (o_assign (F.ev rfl) ?_); clear F; clear a; intro a F
    with_reducible refine l_nil ?_
    with_reducible refine q_then ?_
    with_reducible refine c_ret ?_
    refine p_ret F rfl (.cons (.tmp (F.ev rfl)) .nil) ?_
    exact ⟨rfl, M.ext⟩
/-- a plan -/
def plC (v : Value) (full : Int) : List Value := [v, .int .i64 full]
set_option maxHeartbeats 1000000 in
theorem uvalid_c (l : List AdvV) (hx : ∀ x ∈ l, IsAv x) (v : Value) (full : Int) (W : World) (hS : SlAt W 37 v l.length (avsC l)) :
    Cal Try.prog 42 [.agg (plC v full).toArray].toArray W fun r w' => r = .bool (validAs l && isTime full) ∧ Ext [] W w' := by
  have k := uvalidAs_c l hx v
  have h1 := hS.one
  unfold plC
  refine fn_ofM (n := 11) [] Try.func42 rfl rfl rfl ?_
  intro a w F M hwW
  refine c_seq ?_
  refine c_region ?_
  (refine stepD rfl F rfl (o_box M (F.ev rfl) rfl ?_); clear F; clear M; intro b1 w M a F)
  refine stepD rfl F rfl (o_assign (F.ev rfl) ?_); clear F; clear a; intro a F
  with_reducible refine l_nil ?_
  with_reducible refine q_then ?_
  with_reducible refine c_seq ?_
  with_reducible refine c_region ?_
  refine stepD rfl F rfl (o_fieldAddr (F.ev rfl) ?_); clear F; clear a; intro a F
  refine stepD rfl F rfl (o_load1 M (F.ev rfl) (by repeat (first | exact .here | apply Has.there)) (by first | assumption | rfl) ?_); clear F; clear a; intro a F
  (refine stepD rfl F rfl (o_call (F.ev rfl) (F.evs rfl) (Cal.mono (k _ (hS.later M.ext)) ?_)); clear F; clear a; rintro _ w ⟨rfl, hE⟩ a F; replace M := M.later hE; clear hE)
  cases c1 : validAs l
  · rw [c1] at F
    refine stepD rfl F rfl (o_move (F.ev rfl) ?_); clear F; clear a; intro a F
    refine stepOff F rfl rfl rfl rfl ?_; clear F; clear a; intro a F
    refine stepOff F rfl rfl rfl rfl ?_; clear F; clear a; intro a F
    refine stepOff F rfl rfl rfl rfl ?_; clear F; clear a; intro a F
    refine stepD rfl F rfl (o_pickF (F.ev rfl) (F.ev rfl) ?_); clear F; clear a; intro a F
    refine stepD rfl F rfl (o_assign (F.ev rfl) ?_); clear F; clear a; intro a F
    with_reducible refine l_nil ?_
    with_reducible refine q_then ?_
    with_reducible refine c_ret ?_
    refine p_ret F rfl (.cons (.tmp (F.ev rfl)) .nil) ?_
    exact ⟨rfl, M.ext⟩
  · rw [c1] at F
    refine stepD rfl F rfl (o_move (F.ev rfl) ?_); clear F; clear a; intro a F
    refine stepG rfl F rfl rfl rfl (o_fieldAddr (F.ev rfl) ?_); clear F; clear a; intro a F
    refine stepG rfl F rfl rfl rfl (o_load1 M (F.ev rfl) (by repeat (first | exact .here | apply Has.there)) (by first | assumption | rfl) ?_); clear F; clear a; intro a F
    (refine stepG rfl F rfl rfl rfl (o_call (F.ev rfl) (F.evs rfl) (Cal.mono (uisTime_c full _) ?_)); clear F; clear a; rintro _ w ⟨rfl, hE⟩ a F; replace M := M.later hE; clear hE)
    refine stepD rfl F rfl (o_pickT (F.ev rfl) (F.ev rfl) ?_); clear F; clear a; intro a F
    refine stepD rfl F rfl (o_assign (F.ev rfl) ?_); clear F; clear a; intro a F
    with_reducible refine l_nil ?_
    with_reducible refine q_then ?_
    with_reducible refine c_ret ?_
    refine p_ret F rfl (.cons (.tmp (F.ev rfl)) .nil) ?_
    exact ⟨rfl, M.ext⟩
set_option maxHeartbeats 1000000 in
theorem rvalid_c (l : List AdvV) (hx : ∀ x ∈ l, IsAv x) (v : Value) (full : Int) (W : World) (hS : SlAt W 37 v l.length (avsC l)) :
    Cal Try.prog 43 [.agg (plC v full).toArray].toArray W fun r w' => r = .bool (validAs l && isTime full) ∧ Ext [] W w' := by
  have k := rvalidAs_c l hx v
  have h1 := hS.one
  unfold plC
  refine fn_ofM (n := 11) [] Try.func43 rfl rfl rfl ?_
  intro a w F M hwW
  refine c_seq ?_
  refine c_region ?_
  (refine stepD rfl F rfl (o_box M (F.ev rfl) rfl ?_); clear F; clear M; intro b1 w M a F)
  refine stepD rfl F rfl (o_assign (F.ev rfl) ?_); clear F; clear a; intro a F
  with_reducible refine l_nil ?_
  with_reducible refine q_then ?_
  with_reducible refine c_seq ?_
  with_reducible refine c_region ?_
  refine stepD rfl F rfl (o_fieldAddr (F.ev rfl) ?_); clear F; clear a; intro a F
  refine stepD rfl F rfl (o_load1 M (F.ev rfl) (by repeat (first | exact .here | apply Has.there)) (by first | assumption | rfl) ?_); clear F; clear a; intro a F
  (refine stepD rfl F rfl (o_call (F.ev rfl) (F.evs rfl) (Cal.mono (k _ (hS.later M.ext)) ?_)); clear F; clear a; rintro _ w ⟨rfl, hE⟩ a F; replace M := M.later hE; clear hE)
  cases c1 : validAs l
  · rw [c1] at F
    refine stepD rfl F rfl (o_move (F.ev rfl) ?_); clear F; clear a; intro a F
    refine stepOff F rfl rfl rfl rfl ?_; clear F; clear a; intro a F
    refine stepOff F rfl rfl rfl rfl ?_; clear F; clear a; intro a F
    refine stepOff F rfl rfl rfl rfl ?_; clear F; clear a; intro a F
    refine stepD rfl F rfl (o_pickF (F.ev rfl) (F.ev rfl) ?_); clear F; clear a; intro a F
    refine stepD rfl F rfl (o_assign (F.ev rfl) ?_); clear F; clear a; intro a F
    with_reducible refine l_nil ?_
    with_reducible refine q_then ?_
    with_reducible refine c_ret ?_
    refine p_ret F rfl (.cons (.tmp (F.ev rfl)) .nil) ?_
    exact ⟨rfl, M.ext⟩
  · rw [c1] at F
    refine stepD rfl F rfl (o_move (F.ev rfl) ?_); clear F; clear a; intro a F
    refine stepG rfl F rfl rfl rfl (o_fieldAddr (F.ev rfl) ?_); clear F; clear a; intro a F
    refine stepG rfl F rfl rfl rfl (o_load1 M (F.ev rfl) (by repeat (first | exact .here | apply Has.there)) (by first | assumption | rfl) ?_); clear F; clear a; intro a F
    (refine stepG rfl F rfl rfl rfl (o_call (F.ev rfl) (F.evs rfl) (Cal.mono (risTime_c full _) ?_)); clear F; clear a; rintro _ w ⟨rfl, hE⟩ a F; replace M := M.later hE; clear hE)
    refine stepD rfl F rfl (o_pickT (F.ev rfl) (F.ev rfl) ?_); clear F; clear a; intro a F
    refine stepD rfl F rfl (o_assign (F.ev rfl) ?_); clear F; clear a; intro a F
    with_reducible refine l_nil ?_
    with_reducible refine q_then ?_
    with_reducible refine c_ret ?_
    refine p_ret F rfl (.cons (.tmp (F.ev rfl)) .nil) ?_
    exact ⟨rfl, M.ext⟩
end Go.Proofs.Ytilgoepokaaleaa
/-! UOpen3 -/
namespace Go.Proofs.Ytilgoepokaaleaa
set_option linter.unusedVariables false
set_option linter.unusedSimpArgs false
open Go.ChangeShapes Go.WideShapes Go.ChangeAt Go.RowKit
section
variable {H : Type} {enc : TypeId × Value → H} {w : World} {base : Nat} {sp : Nat → Bool} {held : Bool}
set_option maxRecDepth 100000 in
theorem dec_av (n : Nat) (cs : List Value) (y : DataW H × List MemPlace) (h : DataW.trod enc Try.prog w base sp held n 52 cs = some y) : ∃ x : AdvV, IsAv x ∧ cs = avC x := by
  have hw := open_leaf 8 52 (List.replicate 16 (.i .u8) ++ (.i .i64 :: (List.replicate 16 (.i .u8) ++ [.i .i64, .i .u64, .i .u16, .i .i64]))) (by kernel_rfl) n cs y h (.inl (by kernel_rfl))
  obtain ⟨c0, c1, rfl, h1, h2⟩ := wfK_split hw
  obtain ⟨a1, rfl, hl1, hb1⟩ := ip_wf c0 16 h1
  obtain ⟨x1, c2, rfl, g1, h3⟩ := wfK_cons h2
  obtain ⟨c3, c4, rfl, h4, h5⟩ := wfK_split (ks := List.replicate 16 (LK.i .u8)) (ks' := [LK.i .i64, LK.i .u64, LK.i .u16, LK.i .i64]) h3
  obtain ⟨a2, rfl, hl2, hb2⟩ := ip_wf c3 16 h4
  obtain ⟨x2, c5, rfl, g2, h6⟩ := wfK_cons h5
  obtain ⟨x3, c6, rfl, g3, h7⟩ := wfK_cons h6
  obtain ⟨x4, c7, rfl, g4, h8⟩ := wfK_cons h7
  obtain ⟨x5, c8, rfl, g5, h9⟩ := wfK_cons h8
  obtain rfl := wfK_nil h9
  obtain ⟨n1, rfl, _, _⟩ := wfV_int g1
  obtain ⟨n2, rfl, _, _⟩ := wfV_int g2
  obtain ⟨n3, rfl, _, _⟩ := wfV_int g3
  obtain ⟨n4, rfl, _, _⟩ := wfV_int g4
  obtain ⟨n5, rfl, _, _⟩ := wfV_int g5
  exact ⟨⟨⟨a1, n1, a2, n2, n3⟩, ⟨n4, n5⟩⟩, ⟨⟨⟨hl1, hb1⟩, ⟨hl2, hb2⟩⟩, trivial⟩, by simp [avC, dvC, diC, pfC]⟩
set_option maxRecDepth 100000 in
theorem dec_plan (n : Nat) (cs : List Value) (y : DataW H × List MemPlace) (h : DataW.trod enc Try.prog w base sp held n 24 cs = some y) : ∃ (u : Value) (l : List AdvV) (fl : Int), (∀ x ∈ l, IsAv x) ∧ SlAt w 37 u l.length (avsC l) ∧ cs = plC u fl := by
  obtain ⟨xs, m, rfl, _, hl, hn, hat⟩ := DataW.trod_struct Try.underlying24 h
  have hc : Try.prog.cellsOf 24 = 2 := by kernel_rfl
  have hi : Try.prog.cellsOf 3 = 1 := by kernel_rfl
  have hp : Try.prog.cellsOf 22 = 1 := by kernel_rfl
  rw [hc] at hl
  have hxl : xs.length = 2 := hn
  have a0 : DataW.trod enc Try.prog w base sp held m 22 ((cs.drop 0).take (Try.prog.cellsOf 22)) = xs[0]? := hat 0 _ rfl
  have a1 : DataW.trod enc Try.prog w base sp held m 3 ((cs.drop 1).take (Try.prog.cellsOf 3)) = xs[1]? := hat 1 _ rfl
  rw [List.getElem?_eq_getElem (by omega)] at a0 a1
  rw [hp] at a0
  rw [hi] at a1
  obtain ⟨u, l, e0, hl0, hS, _⟩ := open_slG (sz := 37) Try.underlying22 (by kernel_rfl) (by omega) dec_av a0
  obtain ⟨fl, e1, _, _⟩ := DataW.trod_int Try.underlying3 a1
  refine ⟨u, l, fl, hl0, hS, ?_⟩
  match cs, hl, e0, e1 with
  | [c0, c1], _, e0, e1 =>
    simp only [List.drop_zero, List.take_succ_cons, List.take_zero, List.drop_succ_cons, List.cons.injEq, and_true] at e0 e1
    rw [e0, e1]
    rfl
end
section
variable {H : Type} {enc : TypeId × Value → H} {w : World} {r : Reach} {b0 base : Nat} {sp : Nat → Bool} {held : Bool} {v : Value} {d : DataW H} {p : List MemPlace}
theorem agg_of {P : Program} {t : TypeId} (ht : isAggT P t = true) (hval : Value.okWide P w r b0 t v) : ∃ cs : List Value, v = .agg cs.toArray := by
  unfold isAggT at ht
  unfold Value.okWide at hval
  split at ht
  · rename_i hu; rw [hu] at hval; obtain ⟨cs, h, _⟩ := hval; exact ⟨cs.toList, by simpa using h⟩
  · rename_i hu; rw [hu] at hval; obtain ⟨cs, h, _⟩ := hval; exact ⟨cs.toList, by simpa using h⟩
  · cases ht
set_option maxRecDepth 100000 in
theorem open_plan (hval : Value.okWide Try.prog w r b0 24 v) (h : DataW.Trod enc Try.prog w base sp held 24 v d p) : ∃ (u : Value) (l : List AdvV) (fl : Int), (∀ x ∈ l, IsAv x) ∧ SlAt w 37 u l.length (avsC l) ∧ v = .agg (plC u fl).toArray := by
  obtain ⟨cs, rfl⟩ := agg_of (by kernel_rfl) hval
  obtain ⟨fuel, hf⟩ := h
  obtain ⟨u, l, fl, h1, h2, h3⟩ := dec_plan fuel _ _ hf
  exact ⟨u, l, fl, h1, h2, by rw [← h3]; simp [Value.cells]⟩
set_option maxRecDepth 100000 in
theorem open_advs (hval : Value.okWide Try.prog w r b0 22 v) (h : DataW.Trod enc Try.prog w base sp held 22 v d p) : ∃ ls : List AdvV, (∀ x ∈ ls, IsAv x) ∧ SlAt w 37 v ls.length (avsC ls) := by
  obtain ⟨a, len, cap, rfl⟩ := okWide_slice Try.underlying22 hval
  obtain ⟨fuel, hf⟩ := h
  obtain ⟨v', ls, e, h1, h2, _⟩ := open_slG (sz := 37) Try.underlying22 (by kernel_rfl) (by omega) dec_av hf
  have e' : [Value.slice a len cap] = [v'] := e
  cases e'
  exact ⟨ls, h1, h2⟩
end
end Go.Proofs.Ytilgoepokaaleaa

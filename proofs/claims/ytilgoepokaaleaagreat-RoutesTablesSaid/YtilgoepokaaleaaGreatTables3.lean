/-
  Texts joined: H1, UOpen, UOpen2, LibT, Y0, Y1, Y2, Y3, Y4, UOpen3, UOpen4, Z1, UOpen5, Z2, LibW, Y5, Z4, Z3.
-/
import Derived.Test.YtilgoepokaaleaaGreatTables2
import Derived.MapKept
/-! H1 -/
namespace Go.Proofs.YtilgoepokaaleaaGreat
set_option linter.unusedVariables false
set_option linter.unusedSimpArgs false
open Go.RowKit
section
set_option linter.unusedVariables false
set_option linter.unusedSimpArgs false
open Go.RowKit
attribute [local irreducible] OpTo wpListIn Code.wpIn MW Cal
theorem xor8_bd (m n : Int) : 0 ≤ bitsOf .xor .u8 m n ∧ bitsOf .xor .u8 m n < 256 := by
  unfold bitsOf
  simp only [IntKind.wrap, IntKind.signed, IntKind.bits, Bool.false_and, Bool.false_eq_true, if_false]
  omega
theorem nextE_c {bt : Nat} {p : Option Addr} {len cap k : Nat} {xs : List Int} (n : Int) (hn : 0 < n) (hn2 : n ≤ 9223372036854775807) (W : World) (hT : TapeS W bt p len xs) (hb : W.heap[bt]? = some (tobj p len cap k)) :
    Cal Tryz.prog 22 [.pointer (some ⟨bt, 0, none⟩), .int .i64 n].toArray W fun v w' => ∃ x k', v = .int .i64 x ∧ (0 ≤ x ∧ x < n) ∧ Mem [bt] W w' [(bt, tobj p len cap k')] :=
  Cal.mono (next_c n hn hn2 W hT hb) fun _ _ h => ⟨_, _, h.1, nxV_bd _ _ hn, h.2⟩
theorem boolE_c {bt : Nat} {p : Option Addr} {len cap k : Nat} {xs : List Int} (n : Int) (hn : 0 < n) (hn2 : n ≤ 9223372036854775807) (W : World) (hT : TapeS W bt p len xs) (hb : W.heap[bt]? = some (tobj p len cap k)) :
    Cal Tryz.prog 21 [.pointer (some ⟨bt, 0, none⟩), .int .i64 n].toArray W fun v w' => ∃ x k', v = .bool x ∧ Mem [bt] W w' [(bt, tobj p len cap k')] :=
  Cal.mono (bool_c n hn hn2 W hT hb) fun _ _ h => ⟨_, _, h.1, h.2⟩
theorem eui_c {bt : Nat} {p : Option Addr} {len cap k : Nat} {xs : List Int} (W : World) (hT : TapeS W bt p len xs) (hb : W.heap[bt]? = some (tobj p len cap k)) :
    Cal Tryz.prog 42 [.pointer (some ⟨bt, 0, none⟩)].toArray W fun v w' => ∃ x k', v = .int .u64 x ∧ (1 ≤ x ∧ x ≤ 5) ∧ Mem [bt] W w' [(bt, tobj p len cap k')] := by
  refine fn_ofM (n := 7) [bt] Tryz.func42 rfl rfl rfl ?_
  intro a w F M hwW
  replace M := M.came hwW hb (by simp) (by simp)
  refine c_seq (c_region ?_)
  refine sD F (o_assign (F.ev rfl) ?_); clear F a; intro a F
  with_reducible refine l_nil (q_then (c_seq (c_region ?_)))
  refine sD F (o_move (F.ev rfl) ?_); clear F a; intro a F
  (refine sD F (o_call (F.ev rfl) (F.evs rfl) (Cal.mono (nextE_c 5 (by omega) (by omega) _ (hT.later M.ext) (M.heap .here) ) ?_)); clear F; clear a; have M0 := M; clear M; rintro _ w ⟨x, k', rfl, hx, N⟩ a F)
  replace M := M0.turn1 N .here
  refine sD F (o_add (F.ev rfl) (F.ev rfl) (w_i64 (by omega) (by omega)) ?_); clear F a; intro a F
  refine sD F (o_conv (F.ev rfl) (w_u64 (by omega) (by omega)) ?_); clear F a; intro a F
  refine sD F (o_assign (F.ev rfl) ?_); clear F a; intro a F
  with_reducible refine l_nil (q_then (c_ret ?_))
  refine p_ret F rfl (.cons (.tmp (F.ev rfl)) .nil) ?_
  exact ⟨1 + x, k', rfl, by omega, M⟩
def isTime (t : Int) : Bool := decide (0 ≤ t) && decide (t ≤ 1099511627776)
def laterV (a d : Int) : Int := if 1099511627776 < a + d then 1099511627776 else a + d
theorem bytesCompare_c {v u : Value} {n m : Nat} {xs ys : List Int} (W : World) (h : SlAt W 1 v n (ipC xs)) (k : SlAt W 1 u m (ipC ys)) (hx : ∀ x ∈ xs, 0 ≤ x ∧ x < 256) (hy : ∀ x ∈ ys, 0 ≤ x ∧ x < 256) :
    Cal Tryz.prog 127 [v, u].toArray W fun x w' => x = .int .i64 (cmpL xs ys) ∧ Ext [] W w' := by
  refine fn_ofM (n := 8) [] Tryz.func127 rfl rfl rfl ?_
  intro a w F M hwW
  refine c_seq (c_region ?_)
  refine sD F (o_assign (F.ev rfl) ?_); clear F a; intro a F
  with_reducible refine l_nil (q_then (c_seq (c_region ?_)))
  refine sD F (o_move (F.ev rfl) ?_); clear F a; intro a F
  refine sD F (o_move (F.ev rfl) ?_); clear F a; intro a F
  (refine sD F (o_entry (F.ev rfl) Tryz.func144 (by kernel_rfl) (by kernel_rfl) (by kernel_rfl) (e := Extern.BytealgCompare.compare) (by kernel_rfl) (F.evs rfl) (run_compare (h.later M.ext) (k.later M.ext) hx hy) ?_); clear F a; intro a F)
  refine sD F (o_assign (F.ev rfl) ?_); clear F a; intro a F
  with_reducible refine l_nil (q_then (c_ret ?_))
  refine p_ret F rfl (.cons (.tmp (F.ev rfl)) .nil) ?_
  exact ⟨rfl, M.ext⟩
def overlapP (p : List Int) (n : Int) (q : List Int) (m : Int) : Bool := coversP p n q m || coversP q m p n
end
section
set_option linter.unusedVariables false
set_option linter.unusedSimpArgs false
open Go.RowKit
attribute [local irreducible] OpTo wpListIn Code.wpIn MW Cal
structure Lease where
  ip : List Int
  bits : Int
  own : Int
  til : Int
end
section
set_option linter.unusedVariables false
set_option linter.unusedSimpArgs false
open Go.RowKit
attribute [local irreducible] OpTo wpListIn Code.wpIn MW Cal
theorem put_mid {A B C Y : List Value} {off : Nat} (ho : off = A.length) (hl : B.length = Y.length) : put (A ++ (B ++ C)) off Y = some (A ++ (Y ++ C)) := by
  subst ho
  rw [put_of _ _ _ (by simp; omega), splice]
  congr 1
  rw [List.take_left' rfl, List.drop_append, List.drop_eq_nil_of_le (by omega), List.nil_append, show A.length + Y.length - A.length = Y.length by omega, ← hl, List.drop_left' rfl]
theorem seg_mid {A B C : List Value} {off n : Nat} (ho : off = A.length) (hn : n = B.length) : seg (A ++ (B ++ C)) off n = some B := by
  subst ho; subst hn; exact seg_of A B C
theorem has_other {lr : List (Nat × Obj)} {b vb : Nat} {o o' o2 : Obj} (h : Has (lr ++ [(b, o)]) vb o2) (hne : vb ≠ b) : Has (lr ++ [(b, o')]) vb o2 := by
  induction lr with
  | nil =>
    cases h with
    | here => exact absurd rfl hne
    | there h => cases h
  | cons p lr ih =>
    cases h with
    | here => exact .here
    | there h => exact .there (ih h)
end
section
set_option linter.unusedVariables false
set_option linter.unusedSimpArgs false
open Go.RowKit
attribute [local irreducible] OpTo wpListIn Code.wpIn MW Cal
structure LeaseOk (p : List Int) (n : Int) (l : Lease) : Prop where
  ip : IsIP l.ip
  own0 : l.own ≠ 0
  own1 : 0 ≤ l.own ∧ l.own ≤ 18446744073709551615
  til : isTime l.til = true
  bits : l.bits ≤ 64
  cov : coversP p n l.ip l.bits = true
structure PoolOk (p : List Int) (n : Int) (ls : List Lease) : Prop where
  ip : IsIP p
  pre : validP p n = true
  bits : n ≤ 64
  len : ls.length ≤ 64
  each : ∀ l ∈ ls, LeaseOk p n l
  pw : ls.Pairwise fun x y => cmpL x.ip y.ip < 0 ∧ overlapP x.ip x.bits y.ip y.bits = false
end
section
set_option linter.unusedVariables false
set_option linter.unusedSimpArgs false
open Go.RowKit
attribute [local irreducible] OpTo wpListIn Code.wpIn MW Cal
end
section
set_option linter.unusedVariables false
set_option linter.unusedSimpArgs false
open Go.RowKit
attribute [local irreducible] OpTo wpListIn Code.wpIn MW Cal
theorem PoolOk.filter {p : List Int} {n : Int} {ls : List Lease} (h : PoolOk p n ls) (f : Lease → Bool) : PoolOk p n (ls.filter f) :=
  ⟨h.ip, h.pre, h.bits, Nat.le_trans (List.length_filter_le _ _) h.len, fun l hl => h.each l (List.mem_filter.1 hl).1, h.pw.filter _⟩
end
section
set_option linter.unusedVariables false
set_option linter.unusedSimpArgs false
open Go.RowKit
attribute [local irreducible] OpTo wpListIn Code.wpIn MW Cal
end
section
set_option linter.unusedVariables false
set_option linter.unusedSimpArgs false
open Go.RowKit
structure PInf where
  ip : List Int
  bits : Int
  onl : Bool
  aut : Bool
  life : Int
  deriving DecidableEq
def piC (o : PInf) : List Value := pfC o.ip o.bits ++ ([.bool o.onl, .bool o.aut, .int .u32 o.life])
def IsPi (o : PInf) : Prop := IsIP o.ip
abbrev pisC (l : List PInf) : List Value := encL piC l
structure CInf where
  id : Int
  ip : List Int
  bits : Int
  cmp : Bool
  life : Int
  deriving DecidableEq
def ciC (o : CInf) : List Value := [.int .i64 o.id] ++ (pfC o.ip o.bits ++ ([.bool o.cmp, .int .u16 o.life]))
def IsCi (o : CInf) : Prop := IsIP o.ip
abbrev cisC (l : List CInf) : List Value := encL ciC l
structure OffH where
  rt : List Int
  ver : Int
  til : Int
  deriving DecidableEq
def ofC (o : OffH) (ps : Value) (cs : Value) : List Value := ipC o.rt ++ ([.int .i64 o.ver, .int .i64 o.til, ps, cs])
def IsOf (o : OffH) : Prop := IsIP o.rt
end
section
set_option linter.unusedVariables false
set_option linter.unusedSimpArgs false
open Go.RowKit
attribute [local irreducible] OpTo wpListIn Code.wpIn MW Cal
/-- an offer -/
structure Off where
  h : OffH
  ps : List PInf
  cs : List CInf
  deriving DecidableEq
def IsOff (o : Off) : Prop := IsOf o.h ∧ (∀ p ∈ o.ps, IsPi p) ∧ ∀ c ∈ o.cs, IsCi c
/-- .. with the values of its lists -/
structure OV where
  o : Off
  u : Value
  v : Value
def ovC (x : OV) : List Value := ofC x.o.h x.u x.v
def OffAt (W : World) (x : OV) : Prop := SlAt W 20 x.u x.o.ps.length (pisC x.o.ps) ∧ SlAt W 20 x.v x.o.cs.length (cisC x.o.cs)
theorem OffAt.later {W w : World} {x : OV} (h : OffAt W x) (E : Ext [] W w) : OffAt w x := ⟨h.1.later E, h.2.later E⟩
end
section
set_option linter.unusedVariables false
set_option linter.unusedSimpArgs false
open Go.RowKit
attribute [local irreducible] OpTo wpListIn Code.wpIn MW Cal
theorem risTime_c (t : Int) (W : World) : Cal Tryz.prog 57 [.int .i64 t].toArray W fun v w' => v = .bool (isTime t) ∧ Ext [] W w' := by
  unfold isTime
  by_cases h : 0 ≤ t
  · rw [decide_eq_true h, Bool.true_and]
    refine fn_ofM (n := 9) [] Tryz.func57 rfl rfl rfl ?_
    intro a w F M hwW
    refine c_seq (c_region ?_)
    refine sD F (o_assign (F.ev rfl) ?_); clear F a; intro a F
    with_reducible refine l_nil (q_then (c_seq (c_region ?_)))
    refine sD F (o_move (F.ev rfl) ?_); clear F a; intro a F
    refine sD F (o_geqT (F.ev rfl) (F.ev rfl) (by omega) ?_); clear F a; intro a F
    refine sD F (o_move (F.ev rfl) ?_); clear F a; intro a F
    refine sG F (o_move (F.ev rfl) ?_); clear F a; intro a F
    refine sG F (o_leq (F.ev rfl) (F.ev rfl) ?_); clear F a; intro a F
    refine sD F (o_pickT (F.ev rfl) (F.ev rfl) ?_); clear F a; intro a F
    refine sD F (o_assign (F.ev rfl) ?_); clear F a; intro a F
    with_reducible refine l_nil (q_then (c_ret ?_))
    refine p_ret F rfl (.cons (.tmp (F.ev rfl)) .nil) ?_
    exact ⟨rfl, M.ext⟩
  · rw [decide_eq_false h, Bool.false_and]
    refine fn_ofM (n := 9) [] Tryz.func57 rfl rfl rfl ?_
    intro a w F M hwW
    refine c_seq (c_region ?_)
    refine sD F (o_assign (F.ev rfl) ?_); clear F a; intro a F
    with_reducible refine l_nil (q_then (c_seq (c_region ?_)))
    refine sD F (o_move (F.ev rfl) ?_); clear F a; intro a F
    refine sD F (o_geqF (F.ev rfl) (F.ev rfl) (by omega) ?_); clear F a; intro a F
    refine sD F (o_move (F.ev rfl) ?_); clear F a; intro a F
    refine sO F ?_; clear F a; intro a F
    refine sO F ?_; clear F a; intro a F
    refine sD F (o_pickF (F.ev rfl) (F.ev rfl) ?_); clear F a; intro a F
    refine sD F (o_assign (F.ev rfl) ?_); clear F a; intro a F
    with_reducible refine l_nil (q_then (c_ret ?_))
    refine p_ret F rfl (.cons (.tmp (F.ev rfl)) .nil) ?_
    exact ⟨rfl, M.ext⟩
theorem rafter_c (a d : Int) (h0 : 0 ≤ a) (h1 : a ≤ 1099511627776) (d0 : 0 ≤ d) (d1 : d ≤ 1099511627776) (W : World) : Cal Tryz.prog 86 [.int .i64 a, .int .i64 d].toArray W fun v w' => v = .int .i64 (laterV a d) ∧ Ext [] W w' := by
  refine fn_ofM (n := 9) [] Tryz.func86 rfl rfl rfl ?_
  intro a w F M hwW
  refine c_seq (c_region ?_)
  refine sD F (o_assign (F.ev rfl) ?_); clear F a; intro a F
  with_reducible refine l_nil (q_then (c_seq (c_region ?_)))
  refine sD F (o_move (F.ev rfl) ?_); clear F a; intro a F
  refine sD F (o_move (F.ev rfl) ?_); clear F a; intro a F
  refine sD F (o_add (F.ev rfl) (F.ev rfl) (w_i64 (by omega) (by omega)) ?_); clear F a; intro a F
  refine sD F (o_min (F.ev rfl) (F.ev rfl) ?_); clear F a; intro a F
  refine sD F (o_assign (F.ev rfl) ?_); clear F a; intro a F
  with_reducible refine l_nil (q_then (c_ret ?_))
  refine p_ret F rfl (.cons (.tmp (F.ev rfl)) .nil) ?_
  exact ⟨rfl, M.ext⟩
theorem cmpL_drop {p q : List Int} : ∀ (i : Nat), i ≤ p.length → p.length = q.length → (∀ j, j < i → p.getD j 0 = q.getD j 0) → cmpL p q = cmpL (p.drop i) (q.drop i)
  | 0, _, _, _ => by simp
  | i + 1, h1, h2, h => by
    rw [cmpL_drop i (by omega) h2 fun j hj => h j (by omega), List.drop_eq_getElem_cons (show i < p.length by omega), List.drop_eq_getElem_cons (show i < q.length by omega)]
    have := h i (by omega)
    simp only [List.getD_eq_getElem?_getD, List.getElem?_eq_getElem (show i < p.length by omega), List.getElem?_eq_getElem (show i < q.length by omega), Option.getD_some] at this
    simp [cmpL, this]
theorem cmpL_step {p q : List Int} {i : Nat} (h1 : i < p.length) (h2 : p.length = q.length) (h : ∀ j, j < i → p.getD j 0 = q.getD j 0) : cmpL p q = if p.getD i 0 < q.getD i 0 then -1 else if q.getD i 0 < p.getD i 0 then 1 else cmpL (p.drop (i + 1)) (q.drop (i + 1)) := by
  rw [cmpL_drop i (by omega) h2 h, List.drop_eq_getElem_cons (show i < p.length by omega), List.drop_eq_getElem_cons (show i < q.length by omega)]
  simp [cmpL, List.getD_eq_getElem?_getD, List.getElem?_eq_getElem (show i < p.length by omega), List.getElem?_eq_getElem (show i < q.length by omega)]
set_option maxHeartbeats 1000000 in
theorem rcompareIP_c (p q : List Int) (hp : IsIP p) (hq : IsIP q) (W : World) : Cal Tryz.prog 143 [.agg (ipC p).toArray, .agg (ipC q).toArray].toArray W fun x w' => x = .int .i64 (cmpL p q) ∧ Ext [] W w' := by
  have l1 := hp.len
  have l2 := hq.len
  refine fn_ofM (n := 24) [] Tryz.func143 rfl rfl rfl ?_
  intro a w F M hwW
  refine c_seq ?_
  refine c_region ?_
  (refine sD F (o_box M (F.ev rfl) rfl ?_); clear F M; intro b2 w M a F)
  (refine sD F (o_box M (F.ev rfl) rfl ?_); clear F M; intro b3 w M a F)
  refine sD F (o_assign (F.ev rfl) ?_); clear F a; intro a F
  with_reducible refine l_nil (q_then (c_seq (c_seq (c_region ?_))))
  refine sD F (o_assign (F.ev rfl) ?_); clear F a; intro a F
  with_reducible refine l_nil (q_then (c_block ?_))
  refine c_loop (fun m a w => ∃ i : Nat, m = 16 - i ∧ i ≤ 16 ∧ (∀ j, j < i → p.getD j 0 = q.getD j 0) ∧ Frm a 24 [] [(5, .int .i64 i), (3, .pointer (some ⟨b3, 0, none⟩)), (2, .pointer (some ⟨b2, 0, none⟩))] ∧ Mem [] W w [(b3, .cells (ipC q).toArray 39 (0, 0)), (b2, .cells (ipC p).toArray 39 (0, 0))]) 16 ⟨0, rfl, by omega, by omega, F.only [5, 3, 2] rfl, M⟩ ?_
  clear F M
  rintro m a w ⟨i, hm, hi, hv, F, M⟩
  by_cases hlt : i < 16
  · have hst := cmpL_step (by omega) (by omega) hv
    have f1 : nth (ipC p) (0 + (i : Int).toNat * 1) = some (.int .u8 (p.getD i 0)) := nth_ip2 hp hlt (by omega)
    have f2 : nth (ipC q) (0 + (i : Int).toNat * 1) = some (.int .u8 (q.getD i 0)) := nth_ip2 hq hlt (by omega)
    with_reducible refine c_seq (c_seq (c_region ?_))
    refine sD F (o_move (F.ev rfl) ?_); clear F a; intro a F
    refine sD F (o_lssT (F.ev rfl) (F.ev rfl) (by omega) ?_); clear F a; intro a F
    with_reducible refine l_nil (q_then ?_)
    refine c_true F rfl rfl ?_
    with_reducible refine c_skip (q_then (c_seq (c_block (c_seq (c_seq ?_)))))
    replace F := F.only [5, 3, 2] rfl
    by_cases c1 : p.getD i 0 < q.getD i 0
    · rw [if_pos c1] at hst
      rw [hst]
      refine c_draw 7 F (by kernel_rfl) ?_
      intro w1 hE hok
      have M1 := M.later hE
      refine mK hok rfl rfl (fun a' w' F' E' => o_move (F'.ev rfl) ⟨Ext.refl _ _, rfl⟩) ?_
      refine mK hok rfl rfl (fun a' w' F' E' => o_indexArr (F'.ev rfl) (F'.ev rfl) (by omega) (by omega) ⟨Ext.refl _ _, rfl⟩) ?_
      refine mK hok rfl rfl (fun a' w' F' E' => o_load1 (M1.later E') (F'.ev rfl) (by repeat constructor) (by first | assumption | rfl) ⟨Ext.refl _ _, rfl⟩) ?_
      refine mK hok rfl rfl (fun a' w' F' E' => o_move (F'.ev rfl) ⟨Ext.refl _ _, rfl⟩) ?_
      refine mK hok rfl rfl (fun a' w' F' E' => o_indexArr (F'.ev rfl) (F'.ev rfl) (by omega) (by omega) ⟨Ext.refl _ _, rfl⟩) ?_
      refine mK hok rfl rfl (fun a' w' F' E' => o_load1 (M1.later E') (F'.ev rfl) (by repeat constructor) (by first | assumption | rfl) ⟨Ext.refl _ _, rfl⟩) ?_
      refine mK hok rfl rfl (fun a' w' F' E' => o_lssT (F'.ev rfl) (F'.ev rfl) (by omega) ⟨Ext.refl _ _, rfl⟩) ?_
      (refine mDone rfl rfl ?_; clear F M; intro a w F hE2 hX hTT hDD hPP; have M := M1.later hE2; clear M1; clear hX; clear hE2; clear hok; clear hE; clear hTT; clear hDD; clear hPP; (try dsimp only at F))
      with_reducible refine l_nil (q_then ?_)
      refine c_true F rfl rfl ?_
      refine c_seq (c_region ?_)
      refine sD F (o_assign (F.ev rfl) ?_); clear F a; intro a F
      with_reducible refine l_nil (q_then (c_ret (q_thenR (q_inBR (q_thenR (q_thenR (q_inBR (q_thenR ?_))))))))
      refine p_ret F rfl (.cons (.tmp (F.ev rfl)) .nil) ?_
      exact ⟨rfl, M.ext⟩
    · rw [if_neg c1] at hst
      refine c_draw 7 F (by kernel_rfl) ?_
      intro w1 hE hok
      have M1 := M.later hE
      refine mK hok rfl rfl (fun a' w' F' E' => o_move (F'.ev rfl) ⟨Ext.refl _ _, rfl⟩) ?_
      refine mK hok rfl rfl (fun a' w' F' E' => o_indexArr (F'.ev rfl) (F'.ev rfl) (by omega) (by omega) ⟨Ext.refl _ _, rfl⟩) ?_
      refine mK hok rfl rfl (fun a' w' F' E' => o_load1 (M1.later E') (F'.ev rfl) (by repeat constructor) (by first | assumption | rfl) ⟨Ext.refl _ _, rfl⟩) ?_
      refine mK hok rfl rfl (fun a' w' F' E' => o_move (F'.ev rfl) ⟨Ext.refl _ _, rfl⟩) ?_
      refine mK hok rfl rfl (fun a' w' F' E' => o_indexArr (F'.ev rfl) (F'.ev rfl) (by omega) (by omega) ⟨Ext.refl _ _, rfl⟩) ?_
      refine mK hok rfl rfl (fun a' w' F' E' => o_load1 (M1.later E') (F'.ev rfl) (by repeat constructor) (by first | assumption | rfl) ⟨Ext.refl _ _, rfl⟩) ?_
      refine mK hok rfl rfl (fun a' w' F' E' => o_lssF (F'.ev rfl) (F'.ev rfl) (by omega) ⟨Ext.refl _ _, rfl⟩) ?_
      (refine mDone rfl rfl ?_; clear F M; intro a w F hE2 hX hTT hDD hPP; have M := M1.later hE2; clear M1; clear hX; clear hE2; clear hok; clear hE; clear hTT; clear hDD; clear hPP; (try dsimp only at F))
      with_reducible refine l_nil (q_then ?_)
      refine c_false F rfl rfl ?_
      with_reducible refine c_skip (q_then (c_seq ?_))
      replace F := F.only [5, 3, 2] rfl
      by_cases c2 : q.getD i 0 < p.getD i 0
      · rw [if_pos c2] at hst
        rw [hst]
        refine c_draw 7 F (by kernel_rfl) ?_
        intro w1 hE hok
        have M1 := M.later hE
        refine mK hok rfl rfl (fun a' w' F' E' => o_move (F'.ev rfl) ⟨Ext.refl _ _, rfl⟩) ?_
        refine mK hok rfl rfl (fun a' w' F' E' => o_indexArr (F'.ev rfl) (F'.ev rfl) (by omega) (by omega) ⟨Ext.refl _ _, rfl⟩) ?_
        refine mK hok rfl rfl (fun a' w' F' E' => o_load1 (M1.later E') (F'.ev rfl) (by repeat constructor) (by first | assumption | rfl) ⟨Ext.refl _ _, rfl⟩) ?_
        refine mK hok rfl rfl (fun a' w' F' E' => o_move (F'.ev rfl) ⟨Ext.refl _ _, rfl⟩) ?_
        refine mK hok rfl rfl (fun a' w' F' E' => o_indexArr (F'.ev rfl) (F'.ev rfl) (by omega) (by omega) ⟨Ext.refl _ _, rfl⟩) ?_
        refine mK hok rfl rfl (fun a' w' F' E' => o_load1 (M1.later E') (F'.ev rfl) (by repeat constructor) (by first | assumption | rfl) ⟨Ext.refl _ _, rfl⟩) ?_
        refine mK hok rfl rfl (fun a' w' F' E' => o_gtrT (F'.ev rfl) (F'.ev rfl) (by omega) ⟨Ext.refl _ _, rfl⟩) ?_
        (refine mDone rfl rfl ?_; clear F M; intro a w F hE2 hX hTT hDD hPP; have M := M1.later hE2; clear M1; clear hX; clear hE2; clear hok; clear hE; clear hTT; clear hDD; clear hPP; (try dsimp only at F))
        with_reducible refine l_nil (q_then ?_)
        refine c_true F rfl rfl ?_
        refine c_seq (c_region ?_)
        refine sD F (o_assign (F.ev rfl) ?_); clear F a; intro a F
        with_reducible refine l_nil (q_then (c_ret (q_inBR (q_thenR (q_thenR (q_inBR (q_thenR ?_)))))))
        refine p_ret F rfl (.cons (.tmp (F.ev rfl)) .nil) ?_
        exact ⟨rfl, M.ext⟩
      · refine c_draw 7 F (by kernel_rfl) ?_
        intro w1 hE hok
        have M1 := M.later hE
        refine mK hok rfl rfl (fun a' w' F' E' => o_move (F'.ev rfl) ⟨Ext.refl _ _, rfl⟩) ?_
        refine mK hok rfl rfl (fun a' w' F' E' => o_indexArr (F'.ev rfl) (F'.ev rfl) (by omega) (by omega) ⟨Ext.refl _ _, rfl⟩) ?_
        refine mK hok rfl rfl (fun a' w' F' E' => o_load1 (M1.later E') (F'.ev rfl) (by repeat constructor) (by first | assumption | rfl) ⟨Ext.refl _ _, rfl⟩) ?_
        refine mK hok rfl rfl (fun a' w' F' E' => o_move (F'.ev rfl) ⟨Ext.refl _ _, rfl⟩) ?_
        refine mK hok rfl rfl (fun a' w' F' E' => o_indexArr (F'.ev rfl) (F'.ev rfl) (by omega) (by omega) ⟨Ext.refl _ _, rfl⟩) ?_
        refine mK hok rfl rfl (fun a' w' F' E' => o_load1 (M1.later E') (F'.ev rfl) (by repeat constructor) (by first | assumption | rfl) ⟨Ext.refl _ _, rfl⟩) ?_
        refine mK hok rfl rfl (fun a' w' F' E' => o_gtrF (F'.ev rfl) (F'.ev rfl) (by omega) ⟨Ext.refl _ _, rfl⟩) ?_
        (refine mDone rfl rfl ?_; clear F M; intro a w F hE2 hX hTT hDD hPP; have M := M1.later hE2; clear M1; clear hX; clear hE2; clear hok; clear hE; clear hTT; clear hDD; clear hPP; (try dsimp only at F))
        with_reducible refine l_nil (q_then ?_)
        refine c_false F rfl rfl ?_
        with_reducible refine c_skip (q_inB (q_then (c_region ?_)))
        refine sD F (o_move (F.ev rfl) ?_); clear F a; intro a F
        refine sD F (o_add (F.ev rfl) (F.ev rfl) (w_i64 (by omega) (by omega)) ?_); clear F a; intro a F
        refine sD F (o_assign (F.ev rfl) ?_); clear F a; intro a F
        with_reducible refine l_nil (q_then ?_)
        exact ⟨_, by omega, i + 1, rfl, by omega, fun j hj => by
          rcases Nat.lt_or_ge j i with h1 | h1
          · exact hv j h1
          · obtain rfl : j = i := by omega
            omega, F.only [5, 3, 2] rfl, M⟩
  · obtain rfl : i = 16 := by omega
    have : cmpL p q = 0 := by rw [cmpL_drop 16 (by omega) (by omega) hv, List.drop_eq_nil_of_le (by omega), List.drop_eq_nil_of_le (by omega)]; rfl
    rw [this]
    with_reducible refine c_seq (c_seq (c_region ?_))
    refine sD F (o_move (F.ev rfl) ?_); clear F a; intro a F
    refine sD F (o_lssF (F.ev rfl) (F.ev rfl) (by omega) ?_); clear F a; intro a F
    with_reducible refine l_nil (q_then ?_)
    refine c_false F rfl rfl ?_
    with_reducible refine c_exit (q_thenX (q_thenX (q_inBX (q_then (c_seq (c_region ?_))))))
    refine sD F (o_assign (F.ev rfl) ?_); clear F a; intro a F
    with_reducible refine l_nil (q_then (c_ret ?_))
    refine p_ret F rfl (.cons (.tmp (F.ev rfl)) .nil) ?_
    exact ⟨rfl, M.ext⟩
end
section
set_option linter.unusedVariables false
set_option linter.unusedSimpArgs false
open Go.RowKit
attribute [local irreducible] OpTo wpListIn Code.wpIn MW Cal
def insO (o : Off) : List Off → Option (List Off)
  | [] => some [o]
  | y :: ys =>
    if cmpL y.h.rt o.h.rt < 0 then (insO o ys).map (y :: ·)
    else if cmpL y.h.rt o.h.rt = 0 then
      (if o.h.ver < y.h.ver then none else if y.h.ver = o.h.ver then some ({ y with h := { y.h with til := if y.h.til < o.h.til then o.h.til else y.h.til } } :: ys) else some (o :: ys))
    else some (o :: y :: ys)
def Asc (os : List Off) : Prop := os.Pairwise fun a b => cmpL a.h.rt b.h.rt < 0
theorem Asc.filter {os : List Off} (h : Asc os) (f : Off → Bool) : Asc (os.filter f) := List.Pairwise.filter _ h
def OffsAt (W : World) (s : Value) (os : List Off) : Prop := ∃ zs : List OV, zs.map (·.o) = os ∧ SlAt W 20 s zs.length (encL ovC zs) ∧ ∀ z ∈ zs, OffAt W z
theorem OffsAt.nil (W : World) : OffsAt W (.slice none 0 0) [] := ⟨[], rfl, SlAt.nil W 20, by simp⟩
theorem OffsAt.later {W w : World} {s : Value} {os : List Off} (h : OffsAt W s os) (E : Ext [] W w) : OffsAt w s os := by
  obtain ⟨zs, h1, h2, h3⟩ := h
  exact ⟨zs, h1, h2.later E, fun z hz => (h3 z hz).later E⟩
/-- .. in new memory -/
def OffsN (n0 : Nat) (W : World) (s : Value) (os : List Off) : Prop := ∃ zs : List OV, zs.map (·.o) = os ∧ SlAt W 20 s zs.length (encL ovC zs) ∧ (∀ z ∈ zs, OffAt W z) ∧ NewV n0 s ∧ ∀ z ∈ zs, NewV n0 z.u ∧ NewV n0 z.v
theorem OffsN.nil (n0 : Nat) (W : World) : OffsN n0 W (.slice none 0 0) [] := ⟨[], rfl, SlAt.nil W 20, by simp, NewV.nil _ _ _, by simp⟩
theorem OffsN.at {n0 : Nat} {W : World} {s : Value} {os : List Off} (h : OffsN n0 W s os) : OffsAt W s os := by
  obtain ⟨zs, h1, h2, h3, _⟩ := h
  exact ⟨zs, h1, h2, h3⟩
end
section
set_option linter.unusedVariables false
set_option linter.unusedSimpArgs false
open Go.RowKit
attribute [local irreducible] OpTo wpListIn Code.wpIn MW Cal
/-- how far the reference has come -/
def Pl (o : Off) (placed : Bool) (out pre rest : List Off) : Prop :=
  if placed then insO o (pre ++ rest) = some (out ++ rest) ∧ ∀ y ∈ rest, 0 < cmpL y.h.rt o.h.rt
  else out = pre ∧ ∀ y ∈ pre, cmpL y.h.rt o.h.rt < 0
theorem insO_pre {o : Off} : ∀ {pre : List Off} (r : List Off), (∀ y ∈ pre, cmpL y.h.rt o.h.rt < 0) → insO o (pre ++ r) = (insO o r).map (pre ++ ·)
  | [], r, _ => by simp
  | y :: pre, r, h => by
    have ih := insO_pre r fun z hz => h z (List.mem_cons_of_mem _ hz)
    simp only [List.cons_append, insO, if_pos (h y List.mem_cons_self), ih, Option.map_map]
    rfl
theorem cmpL_pos {a b c : List Int} (h1 : 0 ≤ cmpL a c) (h2 : cmpL a b < 0) : 0 < cmpL b c := by
  rcases Int.lt_trichotomy (cmpL b c) 0 with h | h | h
  · exact absurd (cmpL_lt_trans h2 h) (by omega)
  · rw [cmpL_zero h] at h2; omega
  · exact h
theorem Pl.new {o y : Off} {out pre rest : List Off} (h : Pl o false out pre (y :: rest)) (ha : Asc (y :: rest)) (hk : cmpL y.h.rt o.h.rt = 0) (hv : ¬ o.h.ver < y.h.ver) (hv2 : ¬ y.h.ver = o.h.ver) : Pl o true (out ++ [o]) (pre ++ [y]) rest := by
  simp only [Pl, Bool.false_eq_true, if_false, if_true] at *
  refine ⟨?_, fun z hz => cmpL_pos (by omega) ((List.pairwise_cons.1 ha).1 z hz)⟩
  rw [List.append_assoc, insO_pre _ h.2, h.1]
  simp [insO, hk, hv, hv2]
theorem Pl.on {o y : Off} {out pre rest : List Off} (h : Pl o true out pre (y :: rest)) : Pl o true (out ++ [y]) (pre ++ [y]) rest := by
  simp only [Pl, if_true] at *
  exact ⟨by simpa using h.1, fun z hz => h.2 z (List.mem_cons_of_mem _ hz)⟩
end
section
set_option linter.unusedVariables false
set_option linter.unusedSimpArgs false
open Go.RowKit
attribute [local irreducible] OpTo wpListIn Code.wpIn MW Cal
theorem base_c {bt : Nat} {p : Option Addr} {len cap k : Nat} {xs : List Int} (W : World) (hT : TapeS W bt p len xs) (hb : W.heap[bt]? = some (tobj p len cap k)) :
    Cal Tryz.prog 10 [.pointer (some ⟨bt, 0, none⟩)].toArray W fun v w' => ∃ x k', v = .int .i64 x ∧ (0 ≤ x ∧ x ≤ 1099511627776) ∧ Mem [bt] W w' [(bt, tobj p len cap k')] := by
  refine fn_ofM (n := 16) [bt] Tryz.func10 rfl rfl rfl ?_
  intro a w F M hwW
  replace M := M.came hwW hb (by simp) (by simp)
  refine c_seq (c_region ?_)
  refine sD F (o_assign (F.ev rfl) ?_); clear F a; intro a F
  with_reducible refine l_nil (q_then (c_seq (c_seq (c_region ?_))))
  refine sD F (o_move (F.ev rfl) ?_); clear F a; intro a F
  (refine sD F (o_call (F.ev rfl) (F.evs rfl) (Cal.mono (nextE_c 6 (by omega) (by omega) _ (hT.later M.ext) (M.heap .here) ) ?_)); clear F; clear a; have M0 := M; clear M; rintro _ w ⟨x, k', rfl, hx, N⟩ a F)
  replace M := M0.turn1 N .here
  clear M0
  by_cases c1 : x = 0
  · with_reducible refine l_nil ?_
    with_reducible refine q_then (c_block (c_seq (c_region ?_)))
    refine sD F (o_eqlT (F.ev rfl) (F.ev rfl) (by omega) ?_); clear F a; intro a F
    refine sD F (o_assign (F.ev rfl) ?_); clear F a; intro a F
    with_reducible refine l_nil (q_then ?_)
    refine c_true F rfl rfl ?_
    refine c_seq (c_region ?_)
    refine sD F (o_move (F.ev rfl) ?_); clear F a; intro a F
    (refine sD F (o_call (F.ev rfl) (F.evs rfl) (Cal.mono (nextE_c 5 (by omega) (by omega) _ (hT.later M.ext) (M.heap .here) ) ?_)); clear F; clear a; have M0 := M; clear M; rintro _ w ⟨x2, k2, rfl, hx2, N⟩ a F)
    replace M := M0.turn1 N .here
    refine sD F (o_assign (F.ev rfl) ?_); clear F a; intro a F
    with_reducible refine l_nil (q_then (c_ret (q_inBR (q_thenR ?_))))
    refine p_ret F rfl (.cons (.tmp (F.ev rfl)) .nil) ?_
    exact ⟨_, k2, rfl, by omega, M⟩
  by_cases c2 : x = 1
  · with_reducible refine l_nil ?_
    with_reducible refine q_then (c_block (c_seq (c_region ?_)))
    refine sD F (o_eqlF (F.ev rfl) (F.ev rfl) (by omega) ?_); clear F a; intro a F
    refine sD F (o_assign (F.ev rfl) ?_); clear F a; intro a F
    with_reducible refine l_nil (q_then ?_)
    refine c_false F rfl rfl ?_
    refine c_seq (c_region ?_)
    refine sD F (o_eqlT (F.ev rfl) (F.ev rfl) (by omega) ?_); clear F a; intro a F
    refine sD F (o_assign (F.ev rfl) ?_); clear F a; intro a F
    with_reducible refine l_nil (q_then ?_)
    refine c_true F rfl rfl ?_
    refine c_seq (c_region ?_)
    refine sD F (o_move (F.ev rfl) ?_); clear F a; intro a F
    (refine sD F (o_call (F.ev rfl) (F.evs rfl) (Cal.mono (nextE_c 40 (by omega) (by omega) _ (hT.later M.ext) (M.heap .here) ) ?_)); clear F; clear a; have M0 := M; clear M; rintro _ w ⟨x2, k2, rfl, hx2, N⟩ a F)
    replace M := M0.turn1 N .here
    refine sD F (o_sub (F.ev rfl) (F.ev rfl) (w_i64 (by omega) (by omega)) ?_); clear F a; intro a F
    refine sD F (o_assign (F.ev rfl) ?_); clear F a; intro a F
    with_reducible refine l_nil (q_then (c_ret (q_inBR (q_thenR ?_))))
    refine p_ret F rfl (.cons (.tmp (F.ev rfl)) .nil) ?_
    exact ⟨_, k2, rfl, by omega, M⟩
  · with_reducible refine l_nil ?_
    with_reducible refine q_then (c_block (c_seq (c_region ?_)))
    refine sD F (o_eqlF (F.ev rfl) (F.ev rfl) (by omega) ?_); clear F a; intro a F
    refine sD F (o_assign (F.ev rfl) ?_); clear F a; intro a F
    with_reducible refine l_nil (q_then ?_)
    refine c_false F rfl rfl ?_
    refine c_seq (c_region ?_)
    refine sD F (o_eqlF (F.ev rfl) (F.ev rfl) (by omega) ?_); clear F a; intro a F
    refine sD F (o_assign (F.ev rfl) ?_); clear F a; intro a F
    with_reducible refine l_nil (q_then ?_)
    refine c_false F rfl rfl ?_
    with_reducible refine c_skip (q_inB (q_then (c_seq (c_region ?_))))
    refine sD F (o_move (F.ev rfl) ?_); clear F a; intro a F
    (refine sD F (o_call (F.ev rfl) (F.evs rfl) (Cal.mono (nextE_c 1000 (by omega) (by omega) _ (hT.later M.ext) (M.heap .here) ) ?_)); clear F; clear a; have M0 := M; clear M; rintro _ w ⟨x2, k2, rfl, hx2, N⟩ a F)
    replace M := M0.turn1 N .here
    refine sD F (o_assign (F.ev rfl) ?_); clear F a; intro a F
    with_reducible refine l_nil (q_then (c_ret ?_))
    refine p_ret F rfl (.cons (.tmp (F.ev rfl)) .nil) ?_
    exact ⟨_, k2, rfl, by omega, M⟩
end
section
set_option linter.unusedVariables false
set_option linter.unusedSimpArgs false
open Go.RowKit
attribute [local irreducible] OpTo wpListIn Code.wpIn MW Cal
def wip0 (xs : List Int) (k : Nat) : List Int := [32, 1, 13, 184, 0, nxV xs k 2, nxV xs (nxK xs k) 2, 0, 0, 0, 0, 0, 0, 0, 0, nxV xs (nxK xs (nxK xs k)) 6]
def wip4 (xs : List Int) (k : Nat) : Nat := nxK xs (nxK xs (nxK xs (nxK xs k)))
def wipV (xs : List Int) (k : Nat) : List Int := if boolV xs (nxK xs (nxK xs (nxK xs k))) 9 then (wip0 xs k).set (nxV xs (wip4 xs k) 16).toNat (bitsOf .xor .u8 ((wip0 xs k).getD (nxV xs (wip4 xs k) 16).toNat 0) (IntKind.u8.wrap (1 * 2 ^ min (nxV xs (nxK xs (wip4 xs k)) 8).toNat IntKind.u8.bits))) else wip0 xs k
def wipK (xs : List Int) (k : Nat) : Nat := if boolV xs (nxK xs (nxK xs (nxK xs k))) 9 then nxK xs (nxK xs (wip4 xs k)) else wip4 xs k
theorem wip0_is (xs : List Int) (k : Nat) : IsIP (wip0 xs k) := by
  have h1 := nxV_bd xs k (n := 2) (by omega)
  have h2 := nxV_bd xs (nxK xs k) (n := 2) (by omega)
  have h3 := nxV_bd xs (nxK xs (nxK xs k)) (n := 6) (by omega)
  exact ⟨rfl, by intro x hx; simp [wip0] at hx; omega⟩
theorem wipV_is (xs : List Int) (k : Nat) : IsIP (wipV xs k) := by
  unfold wipV
  split
  · exact (wip0_is xs k).set _ (xor8_bd _ _).1 (xor8_bd _ _).2
  · exact wip0_is xs k
set_option maxHeartbeats 1000000 in
theorem wipD_c {bt : Nat} {p : Option Addr} {len cap k : Nat} {xs : List Int} (W : World) (hT : TapeS W bt p len xs) (hb : W.heap[bt]? = some (tobj p len cap k)) :
    Cal Tryz.prog 24 [.pointer (some ⟨bt, 0, none⟩)].toArray W fun v w' => v = .agg (ipC (wipV xs k)).toArray ∧ Mem [bt] W w' [(bt, tobj p len cap (wipK xs k))] := by
  refine fn_ofM (n := 28) [bt] Tryz.func24 rfl rfl rfl ?_
  intro a w F M hwW
  replace M := M.came hwW hb (by simp) (by simp)
  refine c_seq ?_
  refine c_region ?_
  (refine sD F (o_alloc M ?_); clear F M; intro b2 w M a F)
  with_reducible refine l_nil (q_then (c_seq (c_region ?_)))
  refine sD F (o_move (F.ev rfl) ?_); clear F a; intro a F
  (refine sD F (o_call (F.ev rfl) (F.evs rfl) (Cal.mono (next_c 2 (by omega) (by omega) _ (hT.later M.ext) (M.heap (.there .here)) ) ?_)); clear F; clear a; have M0 := M; clear M; rintro _ w ⟨rfl, N⟩ a F)
  have hx1 := nxV_bd xs k (n := 2) (by omega)
  replace M := M0.turn1 N (.there .here)
  refine sD F (o_conv (F.ev rfl) (w_u8 (by omega) (by omega)) ?_); clear F a; intro a F
  refine sD F (o_move (F.ev rfl) ?_); clear F a; intro a F
  (refine sD F (o_call (F.ev rfl) (F.evs rfl) (Cal.mono (next_c 2 (by omega) (by omega) _ (hT.later M.ext) (M.heap (.there .here)) ) ?_)); clear F; clear a; have M0 := M; clear M; rintro _ w ⟨rfl, N⟩ a F)
  have hx2 := nxV_bd xs (nxK xs k) (n := 2) (by omega)
  replace M := M0.turn1 N (.there .here)
  refine sD F (o_conv (F.ev rfl) (w_u8 (by omega) (by omega)) ?_); clear F a; intro a F
  refine sD F (o_build F rfl rfl ?_); clear F a; intro a F
  (refine sD F (o_alloc M ?_); clear F M; intro b3 w M a F)
  (refine stepN rfl F (o_storeA M (F.ev rfl) (F.ev rfl) (by rfl) (by rfl) (by repeat constructor) (by rfl) (by repeat constructor) ?_); clear F M; intro w M a F)
  with_reducible refine l_nil (q_then (c_seq (c_region ?_)))
  refine sD F (o_move (F.ev rfl) ?_); clear F a; intro a F
  (refine sD F (o_call (F.ev rfl) (F.evs rfl) (Cal.mono (next_c 6 (by omega) (by omega) _ (hT.later M.ext) (M.heap (.there (.there .here))) ) ?_)); clear F; clear a; have M0 := M; clear M; rintro _ w ⟨rfl, N⟩ a F)
  have hx3 := nxV_bd xs (nxK xs (nxK xs k)) (n := 6) (by omega)
  replace M := M0.turn1 N (.there (.there .here))
  refine sD F (o_conv (F.ev rfl) (w_u8 (by omega) (by omega)) ?_); clear F a; intro a F
  refine sD F (o_indexArr (F.ev rfl) (F.ev rfl) (by omega) (by omega) ?_); clear F a; intro a F
  (refine stepN rfl F (o_store1 M (F.ev rfl) (F.ev rfl) rfl (by repeat constructor) (by rfl) (by repeat constructor) ?_); clear F M; intro w M a F)
  with_reducible refine l_nil (q_then (c_seq (c_seq (c_region ?_))))
  refine sD F (o_move (F.ev rfl) ?_); clear F a; intro a F
  obtain ⟨ip, hipd, hip, M⟩ : ∃ ip, ip = wip0 xs k ∧ IsIP ip ∧ Mem [bt] W w [(bt, tobj p len cap (nxK xs (nxK xs (nxK xs k)))), (b3, .cells (ipC ip).toArray 39 (0, 0)), (b2, .cells (ipC [0, 0, 0, 0, 0, 0, 0, 0, 0, 0, 0, 0, 0, 0, 0, 0]).toArray 39 (0, 0))] :=
    ⟨wip0 xs k, rfl, ⟨rfl, by intro x hx; simp [wip0] at hx; omega⟩, M.perm ((List.Perm.refl _).trans (List.perm_append_comm (l₁ := [_, _]) (l₂ := [_])))⟩
  (refine sD F (o_call (F.ev rfl) (F.evs rfl) (Cal.mono (bool_c 9 (by omega) (by omega) _ (hT.later M.ext) (M.heap .here) ) ?_)); clear F; clear a; have M0 := M; clear M; rintro _ w ⟨rfl, N⟩ a F)
  replace M := M0.turn1 N .here
  clear M0
  have e0 : seg (ipC ip) 0 16 = some (ipC ip) := seg_all (ipC_len hip.len)
  rw [show nxK xs (nxK xs (nxK xs (nxK xs k))) = wip4 xs k from rfl] at M
  obtain ⟨k4, hk4⟩ : ∃ k4, k4 = wip4 xs k := ⟨_, rfl⟩
  rw [← hk4] at M
  cases hc : boolV xs (nxK xs (nxK xs (nxK xs k))) 9
  all_goals rw [hc] at F
  · with_reducible refine l_nil ?_
    with_reducible refine q_then ?_
    refine c_false F rfl rfl ?_
    with_reducible refine c_skip (q_then (c_seq (c_region ?_)))
    refine sD F (o_loadA M (F.ev rfl) (by repeat constructor) (by first | assumption | rfl) ?_); clear F a; intro a F
    (refine stepN rfl F (o_storeA M (F.ev rfl) (F.ev rfl) (ipC_len hip.len) (one_ip _)  (by repeat constructor)  (put_all (by rw [ipC_len hip.len]; rfl)) (by repeat constructor) ?_); clear F M; intro w M a F)
    with_reducible refine l_nil (q_then (c_ret ?_))
    exact p_ret F rfl (.cons (.cell (F.ev rfl) (run_loadVar_agg TAgg.h (M.heap (.there (.there .here))) e0)) .nil) ⟨by rw [show wipV xs k = ip by rw [hipd]; unfold wipV; rw [if_neg (by simp [hc])]]; rfl, by rw [show wipK xs k = k4 by rw [hk4]; unfold wipK; rw [if_neg (by simp [hc])]]; exact M.sub (.cons_cons _ (.cons _ (.cons _ (.refl _))))⟩
  · replace F := F.only [0, 2, 3, 16] rfl
    have v1 := nxV_bd xs k4 (n := 16) (by omega)
    have v2 := nxV_bd xs (nxK xs k4) (n := 8) (by omega)
    have hib := hip.at_ (nxV xs k4 16).toNat
    have h1 : nth (ipC ip) (0 + (nxV xs k4 16).toNat * 1) = some (.int .u8 (ip.getD (nxV xs k4 16).toNat 0)) := nth_ip2 hip (by omega) (by omega)
    with_reducible refine l_nil (q_then ?_)
    refine c_true F rfl rfl ?_
    refine c_drawB (l0 := [(bt, tobj p len cap k4)]) [bt] [1, 5] M 9 F (by kernel_rfl) ?_
    intro w1 M1 hok hef
    have hB : ∀ k ∈ [bt], k ∈ ([(bt, tobj p len cap k4)] : List (Nat × Obj)).map (·.1) := by simp
    have hTw : ∀ w', Ext [bt] w1 w' → TapeS w' bt p len xs := fun w' E => hT.later (M1.ext.trans (E.mono (by simp)))
    refine mK hok rfl rfl (fun a' w' F' E' => o_move (F'.ev rfl) ⟨Ext.refl _ _, rfl⟩) ?_
    refine mE (T' := fun _ w => Mem _ _ w ([(bt, tobj p len cap (nxK xs k4))] ++ _)) hok rfl rfl (fun _ _ _ h k => h.later k) (fun a' w' σ' F' E' T' => o_call (F'.ev rfl) (F'.evs rfl) (Cal.mono (next_c 16 (by omega) (by omega) _ (hTw _ E') (T'.heap .here)) fun _ _ hh => ⟨hh.2.ext, hh.1, Mem.turn1 T' hh.2 .here⟩)) ?_
    refine mK hok rfl rfl (fun a' w' F' E' => o_indexArr (F'.ev rfl) (F'.ev rfl) (by omega) (by omega) ⟨Ext.refl _ _, rfl⟩) ?_
    refine mK hok rfl rfl (fun a' w' F' E' => o_load1 (M1.laterBut E' hB) (F'.ev rfl) (by repeat constructor) (by first | assumption | rfl) ⟨Ext.refl _ _, rfl⟩) ?_
    refine mK hok rfl rfl (fun a' w' F' E' => o_move (F'.ev rfl) ⟨Ext.refl _ _, rfl⟩) ?_
    refine mE (T' := fun _ w => Mem _ _ w ([(bt, tobj p len cap (nxK xs (nxK xs k4)))] ++ _)) hok rfl rfl (fun _ _ _ h k => h.later k) (fun a' w' σ' F' E' T' => o_call (F'.ev rfl) (F'.evs rfl) (Cal.mono (next_c 8 (by omega) (by omega) _ (hTw _ E') (T'.heap .here)) fun _ _ hh => ⟨hh.2.ext, hh.1, Mem.turn1 T' hh.2 .here⟩)) ?_
    refine mK hok rfl rfl (fun a' w' F' E' => o_conv (F'.ev rfl) (w_u64 (by omega) (by omega)) ⟨Ext.refl _ _, rfl⟩) ?_
    refine mK hok rfl rfl (fun a' w' F' E' => o_shl (F'.ev rfl) (F'.ev rfl) (by omega) rfl ⟨Ext.refl _ _, rfl⟩) ?_
    refine mK hok rfl rfl (fun a' w' F' E' => o_xor (F'.ev rfl) (F'.ev rfl) rfl ⟨Ext.refl _ _, rfl⟩) ?_
    clear hTw
    (refine mDone rfl hef ?_; clear F M; intro a w F hE2 hX M hDD hPP; clear M1; clear hX; clear hE2; clear hok; clear hef; clear hB; clear hDD; clear hPP; (try dsimp only at F); (try simp only [List.cons_append, List.nil_append] at M))
    have hbd := xor8_bd (ip.getD (nxV xs k4 16).toNat 0) (IntKind.u8.wrap (1 * 2 ^ min (nxV xs (nxK xs k4) 8).toNat IntKind.u8.bits))
    obtain ⟨z, hz⟩ : ∃ z, z = bitsOf BinOp.xor IntKind.u8 (ip.getD (nxV xs k4 16).toNat 0) (IntKind.u8.wrap (1 * 2 ^ min (nxV xs (nxK xs k4) 8).toNat IntKind.u8.bits)) := ⟨_, rfl⟩
    rw [← hz] at F hbd
    refine sD F (o_indexArr (F.ev rfl) (F.ev rfl) (by omega) (by omega) ?_); clear F a; intro a F
    (refine stepN rfl F (o_store1 M (F.ev rfl) (F.ev rfl) rfl (by repeat constructor) (put1 (q := (nxV xs k4 16).toNat) _ (by omega) (by rw [ipC_len hip.len]; omega)) (by repeat constructor) ?_); clear F M; intro w M a F)
    rw [← ipC_set] at M
    have hip2 := hip.set (nxV xs k4 16).toNat hbd.1 hbd.2
    obtain ⟨ip2, hi2⟩ : ∃ ip2, ip2 = ip.set (nxV xs k4 16).toNat z := ⟨_, rfl⟩
    rw [← hi2] at M hip2
    have e2 : seg (ipC ip2) 0 16 = some (ipC ip2) := seg_all (ipC_len hip2.len)
    with_reducible refine l_nil (q_then (c_seq (c_region ?_)))
    refine sD F (o_loadA M (F.ev rfl) (by repeat constructor) (by first | assumption | rfl) ?_); clear F a; intro a F
    (refine stepN rfl F (o_storeA M (F.ev rfl) (F.ev rfl) (ipC_len hip2.len) (one_ip _)  (by repeat constructor)  (put_all (by rw [ipC_len hip2.len]; rfl)) (by repeat constructor) ?_); clear F M; intro w M a F)
    with_reducible refine l_nil (q_then (c_ret ?_))
    exact p_ret F rfl (.cons (.cell (F.ev rfl) (run_loadVar_agg TAgg.h (M.heap (.there (.there .here))) e2)) .nil) ⟨by rw [show wipV xs k = ip2 by rw [hi2, hz, hipd, hk4]; unfold wipV; rw [if_pos hc]]; rfl, by rw [show wipK xs k = nxK xs (nxK xs k4) by rw [hk4]; unfold wipK; rw [if_pos hc]]; exact M.sub (.cons_cons _ (.cons _ (.cons _ (.refl _))))⟩
end
section
set_option linter.unusedVariables false
set_option linter.unusedSimpArgs false
open Go.RowKit
attribute [local irreducible] OpTo wpListIn Code.wpIn MW Cal
def wtV (xs : List Int) (k : Nat) (base : Int) : Int := if 0 < (if base + nxV xs k 60 - 30 < 1099511627776 then base + nxV xs k 60 - 30 else 1099511627776) then (if base + nxV xs k 60 - 30 < 1099511627776 then base + nxV xs k 60 - 30 else 1099511627776) else 0
theorem wtime_c {bt : Nat} {p : Option Addr} {len cap k : Nat} {xs : List Int} (base : Int) (h0 : 0 ≤ base) (h1 : base ≤ 1099511627776) (W : World) (hT : TapeS W bt p len xs) (hb : W.heap[bt]? = some (tobj p len cap k)) :
    Cal Tryz.prog 14 [.pointer (some ⟨bt, 0, none⟩), .int .i64 base].toArray W fun v w' => v = .int .i64 (wtV xs k base) ∧ Mem [bt] W w' [(bt, tobj p len cap (nxK xs k))] := by
  refine fn_ofM (n := 12) [bt] Tryz.func14 rfl rfl rfl ?_
  intro a w F M hwW
  replace M := M.came hwW hb (by simp) (by simp)
  have hx := nxV_bd xs k (n := 60) (by omega)
  refine c_seq (c_region ?_)
  refine sD F (o_assign (F.ev rfl) ?_); clear F a; intro a F
  with_reducible refine l_nil (q_then (c_seq (c_region ?_)))
  refine sD F (o_move (F.ev rfl) ?_); clear F a; intro a F
  refine sD F (o_move (F.ev rfl) ?_); clear F a; intro a F
  (refine sD F (o_call (F.ev rfl) (F.evs rfl) (Cal.mono (next_c 60 (by omega) (by omega) _ (hT.later M.ext) (M.heap .here) ) ?_)); clear F; clear a; have M0 := M; clear M; rintro _ w ⟨rfl, N⟩ a F)
  replace M := M0.turn1 N .here
  clear M0
  refine sD F (o_add (F.ev rfl) (F.ev rfl) (w_i64 (by omega) (by omega)) ?_); clear F a; intro a F
  refine sD F (o_sub (F.ev rfl) (F.ev rfl) (w_i64 (by omega) (by omega)) ?_); clear F a; intro a F
  refine sD F (o_min (F.ev rfl) (F.ev rfl) ?_); clear F a; intro a F
  refine sD F (o_max (F.ev rfl) (F.ev rfl) ?_); clear F a; intro a F
  refine sD F (o_assign (F.ev rfl) ?_); clear F a; intro a F
  with_reducible refine l_nil (q_then (c_ret ?_))
  refine p_ret F rfl (.cons (.tmp (F.ev rfl)) .nil) ?_
  exact ⟨rfl, M⟩
theorem nth_tab {k : IntKind} {xs : List Int} {i : Int} (h0 : 0 ≤ i) (h1 : i < xs.length) : nth (xs.map (Value.int k)) (0 + i.toNat * 1) = some (.int k (xs.getD i.toNat 0)) := by
  have h : i.toNat < xs.length := by omega
  rw [nth_spec, show 0 + i.toNat * 1 = i.toNat by omega]
  simp [h]
def tab10 : List Int := [128, 128, 64, 56, 48, 32, 0, 127, 3, 60]
theorem tab10_bd (i : Nat) : 0 ≤ tab10.getD i 0 ∧ tab10.getD i 0 ≤ 128 := by
  rcases Nat.lt_or_ge i 10 with h | h
  · have : ∀ i : Fin 10, 0 ≤ tab10.getD i.val 0 ∧ tab10.getD i.val 0 ≤ 128 := by decide
    exact this ⟨i, h⟩
  · rw [List.getD_eq_getElem?_getD, List.getElem?_eq_none (by simpa [tab10] using h)]
    simp
/-- a prefix off the tape -/
def wpN (xs : List Int) (k : Nat) : Int := if boolV xs (nxK xs k) 7 then nxV xs (nxK xs (nxK xs k)) 129 else tab10.getD (nxV xs k 10).toNat 0
def wpK0 (xs : List Int) (k : Nat) : Nat := if boolV xs (nxK xs k) 7 then nxK xs (nxK xs (nxK xs k)) else nxK xs (nxK xs k)
def wpA (xs : List Int) (k : Nat) : List Int := wipV xs (wpK0 xs k)
def wpK (xs : List Int) (k : Nat) : Nat := wipK xs (wpK0 xs k)
theorem wpN_bd (xs : List Int) (k : Nat) : 0 ≤ wpN xs k ∧ wpN xs k ≤ 128 := by
  have h1 := nxV_bd xs (nxK xs (nxK xs k)) (n := 129) (by omega)
  unfold wpN
  split
  · omega
  · exact tab10_bd _
set_option maxHeartbeats 1000000 in
theorem wprefix_c {bt : Nat} {p : Option Addr} {len cap k : Nat} {xs : List Int} (W : World) (hT : TapeS W bt p len xs) (hb : W.heap[bt]? = some (tobj p len cap k)) :
    Cal Tryz.prog 62 [.pointer (some ⟨bt, 0, none⟩)].toArray W fun v w' => v = .agg (pfC (maskI (wpA xs k) (wpN xs k)) (wpN xs k)).toArray ∧ Mem [bt] W w' [(bt, tobj p len cap (wpK xs k))] := by
  have v1 := nxV_bd xs k (n := 10) (by omega)
  have v3 := nxV_bd xs (nxK xs (nxK xs k)) (n := 129) (by omega)
  have n1 := nth_tab (k := .i64) (xs := tab10) v1.1 (by simpa [tab10] using v1.2)
  have hbd := wpN_bd xs k
  have hcl : clampB (wpN xs k) = wpN xs k := clamp_in hbd.1 hbd.2
  have s3 := seg_pf (maskI_len (wpA xs k) (wpN xs k)) (wpN xs k)
  refine fn_ofM (n := 17) [bt] Tryz.func62 rfl rfl rfl ?_
  intro a w F M hwW
  replace M := M.came hwW hb (by simp) (by simp)
  refine c_seq ?_
  refine c_region ?_
  (refine sD F (o_alloc M ?_); clear F M; intro b2 w M a F)
  with_reducible refine l_nil (q_then (c_seq (c_region ?_)))
  (refine sD F (o_buildSlice F M rfl rfl rfl rfl ?_); clear F M; intro b4 w M a F)
  refine sD F (o_move (F.ev rfl) ?_); clear F a; intro a F
  (refine sD F (o_call (F.ev rfl) (F.evs rfl) (Cal.mono (next_c 10 (by omega) (by omega) _ (hT.later M.ext) (M.heap (.there (.there .here))) ) ?_)); clear F; clear a; have M0 := M; clear M; rintro _ w ⟨rfl, N⟩ a F)
  replace M := M0.turn1 N (.there (.there .here))
  (refine sD F (o_indexSl (F.ev rfl) (F.ev rfl) (by omega) (by omega) ?_); clear F a; intro a F)
  (refine sD F (o_load1 M (F.ev rfl) (by repeat constructor) (n1) ?_); clear F a; intro a F)
  refine sD F (o_assign (F.ev rfl) ?_); clear F a; intro a F
  with_reducible refine l_nil (q_then (c_seq (c_seq (c_region ?_))))
  refine sD F (o_move (F.ev rfl) ?_); clear F a; intro a F
  (refine sD F (o_call (F.ev rfl) (F.evs rfl) (Cal.mono (bool_c 7 (by omega) (by omega) _ (hT.later M.ext) (M.heap (.there (.there .here))) ) ?_)); clear F; clear a; have M0 := M; clear M; rintro _ w ⟨rfl, N⟩ a F)
  replace M := M0.turn1 N (.there (.there .here))
  cases hc : boolV xs (nxK xs k) 7
  · rw [hc] at F
    have hN : wpN xs k = tab10.getD (nxV xs k 10).toNat 0 := by unfold wpN; rw [hc]; rfl
    have hK : wpK0 xs k = nxK xs (nxK xs k) := by unfold wpK0; rw [hc]; rfl
    rw [← hK] at M
    rw [← hN] at F
    with_reducible refine l_nil (q_then ?_)
    refine c_false F rfl rfl ?_
    with_reducible refine c_skip (q_then (c_seq (c_region ?_)))
    refine sD F (o_move (F.ev rfl) ?_); clear F a; intro a F
    (refine sD F (o_call (F.ev rfl) (F.evs rfl) (Cal.mono (wipD_c _ (hT.later M.ext) (M.heap (.there (.there .here))) ) ?_)); clear F; clear a; have M0 := M; clear M; rintro _ w ⟨rfl, N⟩ a F)
    replace M := M0.turn1 N (.there (.there .here))
    refine sD F (o_move (F.ev rfl) ?_); clear F a; intro a F
    (refine sD F (o_call (F.ev rfl) (F.evs rfl) (Cal.mono (Cal.to (rmask_c (wpA xs k) (wipV_is _ _) (wpN xs k) _) (by rw [hcl])) ?_)); clear F; clear a; rintro _ w ⟨rfl, hE⟩ a F; replace M := M.later hE; clear hE)
    (refine stepN rfl F (o_storeA M (F.ev rfl) (F.ev rfl) (pfC_len (maskI_len _ _) _) (one_pf _ _)  (by repeat constructor)  (put_all (by rw [pfC_len (maskI_len (wpA xs k) (wpN xs k)) (wpN xs k)]; rfl)) (by repeat constructor) ?_); clear F M; intro w M a F)
    with_reducible refine l_nil (q_then (c_ret ?_))
    refine p_ret F rfl (.cons (.cell (F.ev rfl) (run_loadVar_agg TAgg.h (M.heap (by repeat constructor)) s3)) .nil) ⟨rfl, M.sub (by repeat (first | exact List.Sublist.refl _ | apply List.Sublist.cons))⟩
  · rw [hc] at F
    have hN : wpN xs k = nxV xs (nxK xs (nxK xs k)) 129 := by unfold wpN; rw [hc]; rfl
    have hK : wpK0 xs k = nxK xs (nxK xs (nxK xs k)) := by unfold wpK0; rw [hc]; rfl
    with_reducible refine l_nil (q_then ?_)
    refine c_true F rfl rfl ?_
    refine c_region ?_
    refine sD F (o_move (F.ev rfl) ?_); clear F a; intro a F
    (refine sD F (o_call (F.ev rfl) (F.evs rfl) (Cal.mono (next_c 129 (by omega) (by omega) _ (hT.later M.ext) (M.heap (.there (.there .here))) ) ?_)); clear F; clear a; have M0 := M; clear M; rintro _ w ⟨rfl, N⟩ a F)
    replace M := M0.turn1 N (.there (.there .here))
    rw [← hK] at M
    rw [← hN] at F
    refine sD F (o_assign (F.ev rfl) ?_); clear F a; intro a F
    with_reducible refine l_nil (q_then (c_seq (c_region ?_)))
    refine sD F (o_move (F.ev rfl) ?_); clear F a; intro a F
    (refine sD F (o_call (F.ev rfl) (F.evs rfl) (Cal.mono (wipD_c _ (hT.later M.ext) (M.heap (.there (.there .here))) ) ?_)); clear F; clear a; have M0 := M; clear M; rintro _ w ⟨rfl, N⟩ a F)
    replace M := M0.turn1 N (.there (.there .here))
    refine sD F (o_move (F.ev rfl) ?_); clear F a; intro a F
    (refine sD F (o_call (F.ev rfl) (F.evs rfl) (Cal.mono (Cal.to (rmask_c (wpA xs k) (wipV_is _ _) (wpN xs k) _) (by rw [hcl])) ?_)); clear F; clear a; rintro _ w ⟨rfl, hE⟩ a F; replace M := M.later hE; clear hE)
    (refine stepN rfl F (o_storeA M (F.ev rfl) (F.ev rfl) (pfC_len (maskI_len _ _) _) (one_pf _ _)  (by repeat constructor)  (put_all (by rw [pfC_len (maskI_len (wpA xs k) (wpN xs k)) (wpN xs k)]; rfl)) (by repeat constructor) ?_); clear F M; intro w M a F)
    with_reducible refine l_nil (q_then (c_ret ?_))
    refine p_ret F rfl (.cons (.cell (F.ev rfl) (run_loadVar_agg TAgg.h (M.heap (by repeat constructor)) s3)) .nil) ⟨rfl, M.sub (by repeat (first | exact List.Sublist.refl _ | apply List.Sublist.cons))⟩
end
section
set_option linter.unusedVariables false
set_option linter.unusedSimpArgs false
open Go.RowKit
attribute [local irreducible] OpTo wpListIn Code.wpIn MW Cal
/-- an offer in new memory -/
def OffNew (n0 : Nat) (W : World) (x : OV) : Prop := OffAt W x ∧ NewV n0 x.u ∧ NewV n0 x.v
end
section
set_option linter.unusedVariables false
set_option linter.unusedSimpArgs false
open Go.RowKit
attribute [local irreducible] OpTo wpListIn Code.wpIn MW Cal
theorem NewV.mono {n0 n1 : Nat} {v : Value} (h : NewV n1 v) (hle : n0 ≤ n1) : NewV n0 v := fun b o s n c e => Nat.le_trans hle (h b o s n c e)
theorem NewV.notIn {n0 bt : Nat} {v : Value} (h : NewV n0 v) (hbt : bt < n0) : ∀ b o s k c, v = .slice (some ⟨b, o, s⟩) k c → b ∉ [bt] := fun b o s k c e hb => by
  have := h b o s k c e
  simp only [List.mem_singleton] at hb
  omega
theorem OffNew.mono {n0 n1 : Nat} {W : World} {x : OV} (h : OffNew n1 W x) (hle : n0 ≤ n1) : OffNew n0 W x := ⟨h.1, h.2.1.mono hle, h.2.2.mono hle⟩
theorem OffNew.laterB {n0 bt : Nat} {W w : World} {x : OV} (h : OffNew n0 W x) (hbt : bt < n0) (E : Ext [bt] W w) : OffNew n0 w x :=
  ⟨⟨h.1.1.laterB (h.2.1.notIn hbt) E, h.1.2.laterB (h.2.2.notIn hbt) E⟩, h.2⟩
theorem OffsN.mono {n0 n1 : Nat} {W : World} {v : Value} {os : List Off} (h : OffsN n1 W v os) (hle : n0 ≤ n1) : OffsN n0 W v os := by
  obtain ⟨zs, h1, h2, h3, h4, h5⟩ := h
  exact ⟨zs, h1, h2, h3, h4.mono hle, fun z hz => ⟨(h5 z hz).1.mono hle, (h5 z hz).2.mono hle⟩⟩
theorem OffsN.laterB {n0 bt : Nat} {W w : World} {v : Value} {os : List Off} (h : OffsN n0 W v os) (hbt : bt < n0) (E : Ext [bt] W w) : OffsN n0 w v os := by
  obtain ⟨zs, h1, h2, h3, h4, h5⟩ := h
  exact ⟨zs, h1, h2.laterB (h4.notIn hbt) E, fun z hz => (OffNew.laterB ⟨h3 z hz, h5 z hz⟩ hbt E).1, h4, h5⟩
/-- offers off the tape -/
structure OffsO (n0 : Nat) (W : World) (v : Value) (os : List Off) : Prop where
  at_ : OffsN n0 W v os
  is : ∀ o ∈ os, IsOff o
  len : os.length ≤ 8
  small : ∀ o ∈ os, o.ps.length ≤ 16 ∧ o.cs.length ≤ 16
theorem OffsO.laterB {n0 bt : Nat} {W w : World} {v : Value} {os : List Off} (h : OffsO n0 W v os) (hbt : bt < n0) (E : Ext [bt] W w) : OffsO n0 w v os := ⟨h.at_.laterB hbt E, h.is, h.len, h.small⟩
/-- the memory, seen from here on -/
theorem Mem.re {S : List Nat} {W w : World} {l : List (Nat × Obj)} (M : Mem S W w l) (h : ∀ p ∈ l, p.1 ∈ S) : Mem S w w l := ⟨Ext.refl _ _, M.at_, M.nd, fun p hp => .inl (h p hp)⟩
theorem Mem.un {S : List Nat} {W w1 w : World} {l : List (Nat × Obj)} (M : Mem S w1 w l) (E : Ext S W w1) : Mem S W w l := ⟨E.trans M.ext, M.at_, M.nd, fun p hp => (M.own p hp).imp_right fun h => Nat.le_trans E.size h⟩
/-- its lists lie elsewhere -/
def OffNb (bt : Nat) (x : OV) : Prop := (∀ b o s k c, x.u = .slice (some ⟨b, o, s⟩) k c → b ∉ [bt]) ∧ ∀ b o s k c, x.v = .slice (some ⟨b, o, s⟩) k c → b ∉ [bt]
theorem OffAt.laterB {bt : Nat} {W w : World} {x : OV} (h : OffAt W x) (hn : OffNb bt x) (E : Ext [bt] W w) : OffAt w x := ⟨h.1.laterB hn.1 E, h.2.laterB hn.2 E⟩
end
section
set_option linter.unusedVariables false
set_option linter.unusedSimpArgs false
open Go.RowKit
attribute [local irreducible] OpTo wpListIn Code.wpIn MW Cal
theorem OffsO.mono {n0 n1 : Nat} {W : World} {v : Value} {os : List Off} (h : OffsO n1 W v os) (hle : n0 ≤ n1) : OffsO n0 W v os := ⟨h.at_.mono hle, h.is, h.len, h.small⟩
end
section
set_option linter.unusedVariables false
set_option linter.unusedSimpArgs false
open Go.RowKit
structure Msg where
  ty : Int
  hops : Int
  life : Int
  tgt : List Int
  sm : Int
  ss : Int
  se : Int
  oe : Int
  os : Int
  ost : Int
  ol : Int
  ho : Bool
  bv : Int
  bl : Int
  br : List Int
  hb : Bool
  deriving DecidableEq
/-- a message and the values of its lists -/
structure MV where
  m : Msg
  ps : List PInf
  cs : List CInf
  u : Value
  v : Value
def MsAt (W : World) (x : MV) : Prop := SlAt W 20 x.u x.ps.length (pisC x.ps) ∧ SlAt W 20 x.v x.cs.length (cisC x.cs)
theorem MsAt.later {W w : World} {x : MV} (h : MsAt W x) (E : Ext [] W w) : MsAt w x := ⟨h.1.later E, h.2.later E⟩
end
section
set_option linter.unusedVariables false
set_option linter.unusedSimpArgs false
open Go.RowKit
attribute [local irreducible] OpTo wpListIn Code.wpIn MW Cal
/-- offers in memory -/
def LSt (W : World) (v : Value) (zs : List OV) : Prop := SlAt W 20 v zs.length (encL ovC zs) ∧ ∀ z ∈ zs, OffAt W z
theorem LSt.later {W w : World} {v : Value} {zs : List OV} (h : LSt W v zs) (E : Ext [] W w) : LSt w v zs := ⟨h.1.later E, fun z hz => (h.2 z hz).later E⟩
end
end Go.Proofs.YtilgoepokaaleaaGreat
/-! UOpen -/
namespace Go.Proofs.YtilgoepokaaleaaGreat
set_option linter.unusedVariables false
set_option linter.unusedSimpArgs false
open Go.ChangeShapes Go.WideShapes Go.ChangeAt Go.RowKit
def loK : IntKind → Int
  | .i64 => -9223372036854775808 | .u64 => 0 | .u32 => 0 | .u16 => 0 | .u8 => 0 | .i32 => -2147483648 | k => k.min
def hiK : IntKind → Int
  | .i64 => 9223372036854775807 | .u64 => 18446744073709551615 | .u32 => 4294967295 | .u16 => 65535 | .u8 => 255 | .i32 => 2147483647 | k => k.max
theorem int_bd {k : IntKind} {n : Int} (h : (Lit.int k n).wf = true) : loK k ≤ n ∧ n ≤ hiK k := by
  have := wf_bd h
  cases k <;> simp [IntKind.min, IntKind.max, IntKind.signed, IntKind.bits, loK, hiK] at this ⊢ <;> omega
theorem wfV_int {k : IntKind} {v : Value} (h : wfV (.i k) v = true) : ∃ n, v = .int k n ∧ loK k ≤ n ∧ n ≤ hiK k := by
  cases v <;> simp [wfV] at h
  rename_i k' n
  obtain ⟨rfl, hw⟩ := h
  exact ⟨n, rfl, int_bd hw⟩
theorem wfK_cons {k : LK} {ks : List LK} {xs : List Value} (h : wfK (k :: ks) xs = true) : ∃ x ys, xs = x :: ys ∧ wfV k x = true ∧ wfK ks ys = true := by
  cases xs with
  | nil => cases h
  | cons x ys => simp only [wfK, Bool.and_eq_true] at h; exact ⟨x, ys, rfl, h.1, h.2⟩
theorem wfK_nil {xs : List Value} (h : wfK [] xs = true) : xs = [] := by
  cases xs with
  | nil => rfl
  | cons x ys => cases h
theorem ip_wf : ∀ (xs : List Value) (n : Nat), wfK (List.replicate n (.i .u8)) xs = true → ∃ a : List Int, xs = ipC a ∧ a.length = n ∧ ∀ x ∈ a, 0 ≤ x ∧ x < 256
  | [], 0, _ => ⟨[], rfl, rfl, by simp⟩
  | [], n + 1, h => by simp [List.replicate_succ, wfK] at h
  | _ :: _, 0, h => by simp [wfK] at h
  | x :: xs, n + 1, h => by
    simp only [List.replicate_succ, wfK, Bool.and_eq_true] at h
    obtain ⟨a, rfl, hl, hb⟩ := ip_wf xs n h.2
    obtain ⟨m, rfl, h0, h1⟩ := wfV_int h.1
    refine ⟨m :: a, rfl, by simp [hl], fun y hy => ?_⟩
    rcases List.mem_cons.1 hy with rfl | hy
    · simp only [loK, hiK] at h0 h1; omega
    · exact hb y hy
section
variable {H : Type} {enc : TypeId × Value → H} {w : World} {r : Reach} {b0 base : Nat} {sp : Nat → Bool} {held : Bool} {v : Value} {d : DataW H} {p : List MemPlace}
theorem wfK_split : ∀ {ks ks' : List LK} {xs : List Value}, wfK (ks ++ ks') xs = true → ∃ ys zs, xs = ys ++ zs ∧ wfK ks ys = true ∧ wfK ks' zs = true
  | [], ks', xs, h => ⟨[], xs, rfl, rfl, h⟩
  | k :: ks, ks', [], h => by cases h
  | k :: ks, ks', x :: xs, h => by
    simp only [List.cons_append, wfK, Bool.and_eq_true] at h
    obtain ⟨ys, zs, rfl, h1, h2⟩ := wfK_split h.2
    exact ⟨x :: ys, zs, rfl, by simp [wfK, h.1, h1], h2⟩
end
end Go.Proofs.YtilgoepokaaleaaGreat
/-! UOpen2 -/
namespace Go.Proofs.YtilgoepokaaleaaGreat
set_option linter.unusedVariables false
set_option linter.unusedSimpArgs false
open Go.ChangeShapes Go.WideShapes Go.ChangeAt Go.RowKit
set_option maxRecDepth 100000 in
theorem open_il {H : Type} {enc : TypeId × Value → H} {w : World} {r : Reach} {b0 base : Nat} {held : Bool} {v : Value} {d : DataW H} {p : List MemPlace} (hval : Value.okWide Tryz.prog w r b0 22 v) (h : DataW.Trod enc Tryz.prog w base (fun _ => true) held 22 v d p) :
    ∃ xs q cap, v = .slice q xs.length cap ∧ xs.length ≤ cap ∧ IntsAt w v xs := by
  obtain ⟨a, len, cap, rfl⟩ := okWide_slice Tryz.underlying22 hval
  obtain ⟨fuel, hf⟩ := h
  have hone : (Value.slice a len cap).cells.toList = [Value.slice a len cap] := rfl
  rw [hone] at hf
  rcases open_ints Tryz.underlying22 Tryz.underlying3 (by kernel_rfl) hf with ⟨h1, _⟩ | ⟨a', len', cap', zs, h1, _, hlc, hcm, hzl, _, hat, hwf⟩
  · cases h1
    exact ⟨[], none, 0, rfl, by simp, ⟨⟨none, 0, rfl, by simp, fun h => absurd h (by simp)⟩, by simp, by simp⟩⟩
  · cases h1
    simp only [if_true] at hzl
    have hml : maxLen = 9223372036854775807 := rfl
    have htl : (zs.take len).length = len := by rw [List.length_take]; omega
    refine ⟨zs.take len, some a', cap, by rw [htl], by omega, ⟨⟨some a', cap, by rw [htl], by omega, fun hl => ?_⟩, fun x hx => ?_, by omega⟩⟩
    · rw [htl] at hl
      have h0 := hat 0 (by omega)
      have hsp : a'.spot = none := by
        cases hs : a'.spot with
        | none => rfl
        | some q =>
          have e0 : a'.add 0 = a' := by simp [Addr.add]
          rw [e0] at h0
          simp only [World.cell?, hs] at h0
          split at h0 <;> simp at h0
      obtain ⟨b, o, sp⟩ := a'
      simp only at hsp
      subst hsp
      have hadd : ∀ i, (⟨b, o, none⟩ : Addr).add i = ⟨b, o + i, none⟩ := fun i => addr_add b o i
      rw [hadd] at h0
      cases hb : w.heap[b]? with
      | none => simp [World.cell?, hb] at h0
      | some ob =>
        cases ob with
        | cells cs t fz =>
          refine ⟨b, o, cs, t, fz, rfl, hb, ?_⟩
          have hcell : ∀ i, i < zs.length → cs[o + i]? = some (.int .i64 (zs.getD i 0)) := fun i hi => by
            have := hat i hi
            rw [hadd] at this
            simpa [World.cell?, hb] using this
          have hle : o + len ≤ cs.toList.length := by
            have := hcell (len - 1) (by omega)
            have := (Array.getElem?_eq_some_iff.1 this).1
            simp only [Array.length_toList]
            omega
          rw [htl, seg_eq, if_pos hle]
          congr 1
          apply List.ext_getElem
          · simp only [List.length_take, List.length_drop, i64C, List.length_map]
            omega
          · intro i h1 h2
            have hi : i < len := by simp only [List.length_take] at h1; omega
            have := hcell i (by omega)
            have h3 := Array.getElem?_eq_some_iff.1 this
            obtain ⟨h4, h5⟩ := h3
            simp only [List.getElem_take, List.getElem_drop, Array.getElem_toList, h5, i64C, List.getElem_map]
            rw [List.getD_eq_getElem?_getD, List.getElem?_eq_getElem (by omega)]
            rfl
        | _ => simp [World.cell?, hb] at h0
    · have := int_bd (hwf x (List.mem_of_mem_take hx))
      exact this
end Go.Proofs.YtilgoepokaaleaaGreat
/-! LibT -/
namespace Go.Proofs.YtilgoepokaaleaaGreat
set_option linter.unusedVariables false
set_option linter.unusedSimpArgs false
open Go.RowKit
theorem add_add (a : Addr) (m r : Nat) : (a.add m).add r = a.add (m + r) := by
  obtain ⟨b, o, sp⟩ := a
  unfold Addr.add
  by_cases hm : m = 0
  · subst hm
    simp
  · by_cases hr : r = 0
    · subst hr; simp [hm]
    · simp [hm, hr, show ¬ m + r = 0 by omega]; omega
section
variable {H : Type} {enc : TypeId × Value → H} {P : Program} {w : World} {base : Nat} {sp : Nat → Bool} {held : Bool}
theorem open_slG {α : Type} {encE : α → List Value} {Is : α → Prop} {t e : TypeId} {sz : Nat} (ht : P.underlying t = some (.slice e)) (hsz : P.cellsOf e = sz) (h0 : 0 < sz)
    (hdec : ∀ n cs y, DataW.trod enc P w base sp held n e cs = some y → ∃ x : α, Is x ∧ cs = encE x) {fuel : Nat} {cs : List Value} {x : DataW H × List MemPlace} (h : DataW.trod enc P w base sp held fuel t cs = some x) :
    ∃ (v : Value) (ls : List α), cs = [v] ∧ (∀ x ∈ ls, Is x) ∧ SlAt w sz v ls.length (encL encE ls) ∧ ls.length ≤ 9223372036854775807 := by
  rcases DataW.trod_slice ht h with ⟨rfl, _⟩ | ⟨a, len, cap, elems, rest, n, _, rfl, _, _, hlc, hcm, hel, hat, _, _⟩
  · exact ⟨_, [], rfl, by simp, SlAt.nil _ _, by simp⟩
  have hml : maxLen = 9223372036854775807 := rfl
  rw [hsz] at hat
  have key : ∀ k, k ≤ len → ∃ ls : List α, ls.length = k ∧ (∀ x ∈ ls, Is x) ∧ (encL encE ls).length = k * sz ∧ ∀ j, j < k * sz → w.cell? (a.add j) = (encL encE ls)[j]? := by
    intro k
    induction k with
    | zero => exact fun _ => ⟨[], rfl, by simp, by simp [encL_nil], by simp⟩
    | succ k ih =>
      intro hk
      obtain ⟨ls, h1, h2, h3, h4⟩ := ih (by omega)
      have hb := hat k (by omega)
      rw [List.getElem?_eq_getElem (by omega), Option.bind_eq_some_iff] at hb
      obtain ⟨ck, hc, hy⟩ := hb
      obtain ⟨x, hx, rfl⟩ := hdec _ _ _ hy
      obtain ⟨_, hcl, hca⟩ := World.cells?_some hc
      refine ⟨ls ++ [x], by simp [h1], fun z hz => ?_, ?_, fun j hj => ?_⟩
      · rcases List.mem_append.1 hz with h | h
        · exact h2 z h
        · simp only [List.mem_singleton] at h
          rw [h]; exact hx
      · rw [encL_app, encL_one, List.length_append, h3, hcl, Nat.add_mul]; omega
      · rw [encL_app, encL_one]
        rcases Nat.lt_or_ge j (k * sz) with h | h
        · rw [List.getElem?_append_left (by omega)]
          exact h4 j h
        · rw [List.getElem?_append_right (by omega), h3, ← hca (j - k * sz) (by rw [Nat.add_mul] at hj; omega), add_add]
          congr 2
          omega
  obtain ⟨ls, h1, h2, h3, h4⟩ := key len (Nat.le_refl _)
  refine ⟨_, ls, rfl, h2, ⟨some a, cap, by rw [h1], by omega, fun _ _ => trivial, by rw [h3, h1], fun hl => ?_⟩, by omega⟩
  have hpos : 0 < len * sz := Nat.mul_pos (by omega) h0
  have hc0 := h4 0 hpos
  have hsp : a.spot = none := by
    cases hs : a.spot with
    | none => rfl
    | some q =>
      have e0 : a.add 0 = a := by simp [Addr.add]
      rw [e0, List.getElem?_eq_getElem (by omega)] at hc0
      simp only [World.cell?, hs] at hc0
      split at hc0 <;> simp at hc0
  obtain ⟨b, o, spt⟩ := a
  simp only at hsp
  subst hsp
  have hadd : ∀ i, (⟨b, o, none⟩ : Addr).add i = ⟨b, o + i, none⟩ := fun i => addr_add b o i
  rw [hadd, List.getElem?_eq_getElem (by omega)] at hc0
  cases hb : w.heap[b]? with
  | none => simp [World.cell?, hb] at hc0
  | some ob =>
    cases ob with
    | cells cs t fz =>
      refine ⟨b, o, cs.toList, t, fz, rfl, by simpa using hb, ?_⟩
      have hcell : ∀ i, i < len * sz → cs[o + i]? = (encL encE ls)[i]? := fun i hi => by
        have := h4 i hi
        rw [hadd] at this
        simpa [World.cell?, hb] using this
      have hle : o + len * sz ≤ cs.toList.length := by
        have := hcell (len * sz - 1) (by omega)
        rw [List.getElem?_eq_getElem (by omega)] at this
        have := (Array.getElem?_eq_some_iff.1 this).1
        simp only [Array.length_toList]
        omega
      rw [h1, sg_eq, if_pos hle]
      congr 1
      apply List.ext_getElem?
      intro i
      rcases Nat.lt_or_ge i (len * sz) with hi | hi
      · rw [List.getElem?_take_of_lt hi, List.getElem?_drop, Array.getElem?_toList, hcell i hi]
      · rw [List.getElem?_eq_none (by simp; omega), List.getElem?_eq_none (by omega)]
    | _ => simp [World.cell?, hb] at hc0
end
end Go.Proofs.YtilgoepokaaleaaGreat
/-! Y0 -/
namespace Go.Proofs.YtilgoepokaaleaaGreat
set_option linter.unusedVariables false
set_option linter.unusedSimpArgs false
open Go.RowKit
/-! DstV -/
structure DstV where
  dip : List Int
  dbits : Int
  sip : List Int
  sbits : Int
  rt : Int
  deriving DecidableEq
def dvC (o : DstV) : List Value := pfC o.dip o.dbits ++ (pfC o.sip o.sbits ++ ([.int .u64 o.rt]))
def IsDv (o : DstV) : Prop := IsIP o.dip ∧ IsIP o.sip
theorem dv_len {o : DstV} (h : IsDv o) : (dvC o).length = 35 := by
  obtain ⟨f_dip, f_dbits, f_sip, f_sbits, f_rt⟩ := o
  obtain ⟨x0_0, x0_1, x0_2, x0_3, x0_4, x0_5, x0_6, x0_7, x0_8, x0_9, x0_10, x0_11, x0_12, x0_13, x0_14, x0_15, e0⟩ := len16 (show f_dip.length = 16 from (h.1).len)
  obtain ⟨x1_0, x1_1, x1_2, x1_3, x1_4, x1_5, x1_6, x1_7, x1_8, x1_9, x1_10, x1_11, x1_12, x1_13, x1_14, x1_15, e1⟩ := len16 (show f_sip.length = 16 from (h.2).len)
  subst e0
  subst e1
  rfl
theorem dv_all {o : DstV} (h : IsDv o) : seg (dvC o) 0 35 = some (dvC o) := sg_all (dv_len h)
theorem dv_dst {o : DstV} (h : IsDv o) : seg (dvC o) 0 17 = some (pfC o.dip o.dbits) := by
  obtain ⟨f_dip, f_dbits, f_sip, f_sbits, f_rt⟩ := o
  obtain ⟨x0_0, x0_1, x0_2, x0_3, x0_4, x0_5, x0_6, x0_7, x0_8, x0_9, x0_10, x0_11, x0_12, x0_13, x0_14, x0_15, e0⟩ := len16 (show f_dip.length = 16 from (h.1).len)
  obtain ⟨x1_0, x1_1, x1_2, x1_3, x1_4, x1_5, x1_6, x1_7, x1_8, x1_9, x1_10, x1_11, x1_12, x1_13, x1_14, x1_15, e1⟩ := len16 (show f_sip.length = 16 from (h.2).len)
  subst e0
  subst e1
  rfl
theorem dv_dip {o : DstV} (h : IsDv o) : seg (dvC o) 0 16 = some (ipC o.dip) := by
  obtain ⟨f_dip, f_dbits, f_sip, f_sbits, f_rt⟩ := o
  obtain ⟨x0_0, x0_1, x0_2, x0_3, x0_4, x0_5, x0_6, x0_7, x0_8, x0_9, x0_10, x0_11, x0_12, x0_13, x0_14, x0_15, e0⟩ := len16 (show f_dip.length = 16 from (h.1).len)
  obtain ⟨x1_0, x1_1, x1_2, x1_3, x1_4, x1_5, x1_6, x1_7, x1_8, x1_9, x1_10, x1_11, x1_12, x1_13, x1_14, x1_15, e1⟩ := len16 (show f_sip.length = 16 from (h.2).len)
  subst e0
  subst e1
  rfl
theorem dv_dbits {o : DstV} (h : IsDv o) : nth (dvC o) 16 = some (.int .i64 o.dbits) := by
  obtain ⟨f_dip, f_dbits, f_sip, f_sbits, f_rt⟩ := o
  obtain ⟨x0_0, x0_1, x0_2, x0_3, x0_4, x0_5, x0_6, x0_7, x0_8, x0_9, x0_10, x0_11, x0_12, x0_13, x0_14, x0_15, e0⟩ := len16 (show f_dip.length = 16 from (h.1).len)
  obtain ⟨x1_0, x1_1, x1_2, x1_3, x1_4, x1_5, x1_6, x1_7, x1_8, x1_9, x1_10, x1_11, x1_12, x1_13, x1_14, x1_15, e1⟩ := len16 (show f_sip.length = 16 from (h.2).len)
  subst e0
  subst e1
  rfl
theorem dv_src {o : DstV} (h : IsDv o) : seg (dvC o) 17 17 = some (pfC o.sip o.sbits) := by
  obtain ⟨f_dip, f_dbits, f_sip, f_sbits, f_rt⟩ := o
  obtain ⟨x0_0, x0_1, x0_2, x0_3, x0_4, x0_5, x0_6, x0_7, x0_8, x0_9, x0_10, x0_11, x0_12, x0_13, x0_14, x0_15, e0⟩ := len16 (show f_dip.length = 16 from (h.1).len)
  obtain ⟨x1_0, x1_1, x1_2, x1_3, x1_4, x1_5, x1_6, x1_7, x1_8, x1_9, x1_10, x1_11, x1_12, x1_13, x1_14, x1_15, e1⟩ := len16 (show f_sip.length = 16 from (h.2).len)
  subst e0
  subst e1
  rfl
theorem dv_sip {o : DstV} (h : IsDv o) : seg (dvC o) 17 16 = some (ipC o.sip) := by
  obtain ⟨f_dip, f_dbits, f_sip, f_sbits, f_rt⟩ := o
  obtain ⟨x0_0, x0_1, x0_2, x0_3, x0_4, x0_5, x0_6, x0_7, x0_8, x0_9, x0_10, x0_11, x0_12, x0_13, x0_14, x0_15, e0⟩ := len16 (show f_dip.length = 16 from (h.1).len)
  obtain ⟨x1_0, x1_1, x1_2, x1_3, x1_4, x1_5, x1_6, x1_7, x1_8, x1_9, x1_10, x1_11, x1_12, x1_13, x1_14, x1_15, e1⟩ := len16 (show f_sip.length = 16 from (h.2).len)
  subst e0
  subst e1
  rfl
theorem dv_sbits {o : DstV} (h : IsDv o) : nth (dvC o) 33 = some (.int .i64 o.sbits) := by
  obtain ⟨f_dip, f_dbits, f_sip, f_sbits, f_rt⟩ := o
  obtain ⟨x0_0, x0_1, x0_2, x0_3, x0_4, x0_5, x0_6, x0_7, x0_8, x0_9, x0_10, x0_11, x0_12, x0_13, x0_14, x0_15, e0⟩ := len16 (show f_dip.length = 16 from (h.1).len)
  obtain ⟨x1_0, x1_1, x1_2, x1_3, x1_4, x1_5, x1_6, x1_7, x1_8, x1_9, x1_10, x1_11, x1_12, x1_13, x1_14, x1_15, e1⟩ := len16 (show f_sip.length = 16 from (h.2).len)
  subst e0
  subst e1
  rfl
theorem dv_put_src {o : DstV} (h : IsDv o) {z : List Int} (hz : IsIP z) (y : Int) : put (dvC o) 17 (pfC z y) = some (dvC { o with sip := z, sbits := y }) := by
  obtain ⟨f_dip, f_dbits, f_sip, f_sbits, f_rt⟩ := o
  obtain ⟨x0_0, x0_1, x0_2, x0_3, x0_4, x0_5, x0_6, x0_7, x0_8, x0_9, x0_10, x0_11, x0_12, x0_13, x0_14, x0_15, e0⟩ := len16 (show f_dip.length = 16 from (h.1).len)
  obtain ⟨x1_0, x1_1, x1_2, x1_3, x1_4, x1_5, x1_6, x1_7, x1_8, x1_9, x1_10, x1_11, x1_12, x1_13, x1_14, x1_15, e1⟩ := len16 (show f_sip.length = 16 from (h.2).len)
  subst e0
  subst e1
  obtain ⟨z0, z1, z2, z3, z4, z5, z6, z7, z8, z9, z10, z11, z12, z13, z14, z15, ez⟩ := len16 hz.len
  subst ez
  rfl
theorem dv_rt {o : DstV} (h : IsDv o) : nth (dvC o) 34 = some (.int .u64 o.rt) := by
  obtain ⟨f_dip, f_dbits, f_sip, f_sbits, f_rt⟩ := o
  obtain ⟨x0_0, x0_1, x0_2, x0_3, x0_4, x0_5, x0_6, x0_7, x0_8, x0_9, x0_10, x0_11, x0_12, x0_13, x0_14, x0_15, e0⟩ := len16 (show f_dip.length = 16 from (h.1).len)
  obtain ⟨x1_0, x1_1, x1_2, x1_3, x1_4, x1_5, x1_6, x1_7, x1_8, x1_9, x1_10, x1_11, x1_12, x1_13, x1_14, x1_15, e1⟩ := len16 (show f_sip.length = 16 from (h.2).len)
  subst e0
  subst e1
  rfl
theorem dv_one (o : DstV) : (dvC o).all (·.oneCell') = true := by
  simp [pfC, ipC, dvC, Value.oneCell']
def dvZ : List Value := [.int .u8 0, .int .u8 0, .int .u8 0, .int .u8 0, .int .u8 0, .int .u8 0, .int .u8 0, .int .u8 0, .int .u8 0, .int .u8 0, .int .u8 0, .int .u8 0, .int .u8 0, .int .u8 0, .int .u8 0, .int .u8 0, .int .i64 0, .int .u8 0, .int .u8 0, .int .u8 0, .int .u8 0, .int .u8 0, .int .u8 0, .int .u8 0, .int .u8 0, .int .u8 0, .int .u8 0, .int .u8 0, .int .u8 0, .int .u8 0, .int .u8 0, .int .u8 0, .int .u8 0, .int .i64 0, .int .u64 0]
theorem dv_build1 {o : DstV} (h : IsDv o) : putAll (placesL 1 35) (zerosL dvZ (1 * 35)) [(0, dvC o)] = some (dvC o) := by
  obtain ⟨f_dip, f_dbits, f_sip, f_sbits, f_rt⟩ := o
  obtain ⟨x0_0, x0_1, x0_2, x0_3, x0_4, x0_5, x0_6, x0_7, x0_8, x0_9, x0_10, x0_11, x0_12, x0_13, x0_14, x0_15, e0⟩ := len16 (show f_dip.length = 16 from (h.1).len)
  obtain ⟨x1_0, x1_1, x1_2, x1_3, x1_4, x1_5, x1_6, x1_7, x1_8, x1_9, x1_10, x1_11, x1_12, x1_13, x1_14, x1_15, e1⟩ := len16 (show f_sip.length = 16 from (h.2).len)
  subst e0
  subst e1
  rfl
abbrev dvK : List LK := [.i .u8, .i .u8, .i .u8, .i .u8, .i .u8, .i .u8, .i .u8, .i .u8, .i .u8, .i .u8, .i .u8, .i .u8, .i .u8, .i .u8, .i .u8, .i .u8, .i .i64, .i .u8, .i .u8, .i .u8, .i .u8, .i .u8, .i .u8, .i .u8, .i .u8, .i .u8, .i .u8, .i .u8, .i .u8, .i .u8, .i .u8, .i .u8, .i .u8, .i .i64, .i .u64]
theorem dv_fits {o : DstV} (h : IsDv o) : fitsK dvK (dvC o) = true := by
  obtain ⟨f_dip, f_dbits, f_sip, f_sbits, f_rt⟩ := o
  obtain ⟨x0_0, x0_1, x0_2, x0_3, x0_4, x0_5, x0_6, x0_7, x0_8, x0_9, x0_10, x0_11, x0_12, x0_13, x0_14, x0_15, e0⟩ := len16 (show f_dip.length = 16 from (h.1).len)
  obtain ⟨x1_0, x1_1, x1_2, x1_3, x1_4, x1_5, x1_6, x1_7, x1_8, x1_9, x1_10, x1_11, x1_12, x1_13, x1_14, x1_15, e1⟩ := len16 (show f_sip.length = 16 from (h.2).len)
  subst e0
  subst e1
  rfl
theorem dv_eq {a b : DstV} (ha : IsDv a) (hb : IsDv b) : eqVs (dvC a) (dvC b) = decide (a = b) := by
  have l0 : a.dip.length = b.dip.length := by rw [(ha.1).len, (hb.1).len]
  have l1 : a.sip.length = b.sip.length := by rw [(ha.2).len, (hb.2).len]
  rw [Bool.eq_iff_iff, decide_eq_true_eq]
  obtain ⟨a_dip, a_dbits, a_sip, a_sbits, a_rt⟩ := a
  obtain ⟨b_dip, b_dbits, b_sip, b_sbits, b_rt⟩ := b
  dsimp only at l0 l1
  simp only [dvC, DstV.mk.injEq]
  rw [eqVs_append _ _ _ _ (by first | rfl | assumption | (simp [pfC, ipC]; assumption))]
  rw [eqVs_append _ _ _ _ (by first | rfl | assumption | (simp [pfC, ipC]; assumption))]
  rw [eqVs_pf l0]
  rw [eqVs_pf l1]
  simp [eqVs, eqV, Bool.and_eq_true, beq_iff_eq, Bool.and_true, and_assoc, decide_eq_true_eq, List.cons_append, List.nil_append]
abbrev dvsC (l : List DstV) : List Value := encL dvC l
/-! DisV -/
structure DisV where
  seq : Int
  met : Int
  deriving DecidableEq
def diC (o : DisV) : List Value := [.int .u16 o.seq, .int .i64 o.met]
def IsDi (o : DisV) : Prop := True
theorem di_len {o : DisV} (h : IsDi o) : (diC o).length = 2 := by
  obtain ⟨f_seq, f_met⟩ := o
  rfl
theorem di_all {o : DisV} (h : IsDi o) : seg (diC o) 0 2 = some (diC o) := sg_all (di_len h)
theorem di_seq {o : DisV} (h : IsDi o) : nth (diC o) 0 = some (.int .u16 o.seq) := by
  obtain ⟨f_seq, f_met⟩ := o
  rfl
theorem di_met {o : DisV} (h : IsDi o) : nth (diC o) 1 = some (.int .i64 o.met) := by
  obtain ⟨f_seq, f_met⟩ := o
  rfl
theorem di_put_met {o : DisV} (h : IsDi o) (z : Int) : put (diC o) 1 [.int .i64 z] = some (diC { o with met := z }) := by
  obtain ⟨f_seq, f_met⟩ := o
  rfl
theorem di_one (o : DisV) : (diC o).all (·.oneCell') = true := by
  simp [pfC, ipC, diC, Value.oneCell']
abbrev diK : List LK := [.i .u16, .i .i64]
theorem di_fits {o : DisV} (h : IsDi o) : fitsK diK (diC o) = true := by
  obtain ⟨f_seq, f_met⟩ := o
  rfl
theorem di_eq {a b : DisV} (ha : IsDi a) (hb : IsDi b) : eqVs (diC a) (diC b) = decide (a = b) := by
  rw [Bool.eq_iff_iff, decide_eq_true_eq]
  obtain ⟨a_seq, a_met⟩ := a
  obtain ⟨b_seq, b_met⟩ := b
  simp only [diC, DisV.mk.injEq]
  simp [eqVs, eqV, Bool.and_eq_true, beq_iff_eq, Bool.and_true, and_assoc, decide_eq_true_eq, List.cons_append, List.nil_append]
/-! AdvV -/
structure AdvV where
  to : DstV
  own : DisV
  deriving DecidableEq
def IsAv (o : AdvV) : Prop := IsDv o.to ∧ IsDi o.own
/-! InsV -/
structure InsV where
  to : DstV
  nb : Int
  own : DisV
  btn : Int
  til : Int
  deriving DecidableEq
def inC (o : InsV) : List Value := dvC o.to ++ ([.int .u64 o.nb] ++ (diC o.own ++ ([.int .i64 o.btn, .int .i64 o.til])))
def IsIn (o : InsV) : Prop := IsDv o.to ∧ IsDi o.own
theorem in_len {o : InsV} (h : IsIn o) : (inC o).length = 40 := by
  obtain ⟨⟨f_to_dip, f_to_dbits, f_to_sip, f_to_sbits, f_to_rt⟩, f_nb, ⟨f_own_seq, f_own_met⟩, f_btn, f_til⟩ := o
  obtain ⟨x0_0, x0_1, x0_2, x0_3, x0_4, x0_5, x0_6, x0_7, x0_8, x0_9, x0_10, x0_11, x0_12, x0_13, x0_14, x0_15, e0⟩ := len16 (show f_to_dip.length = 16 from (h.1.1).len)
  obtain ⟨x1_0, x1_1, x1_2, x1_3, x1_4, x1_5, x1_6, x1_7, x1_8, x1_9, x1_10, x1_11, x1_12, x1_13, x1_14, x1_15, e1⟩ := len16 (show f_to_sip.length = 16 from (h.1.2).len)
  subst e0
  subst e1
  rfl
theorem in_all {o : InsV} (h : IsIn o) : seg (inC o) 0 40 = some (inC o) := sg_all (in_len h)
theorem in_to {o : InsV} (h : IsIn o) : seg (inC o) 0 35 = some (dvC o.to) := by
  obtain ⟨⟨f_to_dip, f_to_dbits, f_to_sip, f_to_sbits, f_to_rt⟩, f_nb, ⟨f_own_seq, f_own_met⟩, f_btn, f_til⟩ := o
  obtain ⟨x0_0, x0_1, x0_2, x0_3, x0_4, x0_5, x0_6, x0_7, x0_8, x0_9, x0_10, x0_11, x0_12, x0_13, x0_14, x0_15, e0⟩ := len16 (show f_to_dip.length = 16 from (h.1.1).len)
  obtain ⟨x1_0, x1_1, x1_2, x1_3, x1_4, x1_5, x1_6, x1_7, x1_8, x1_9, x1_10, x1_11, x1_12, x1_13, x1_14, x1_15, e1⟩ := len16 (show f_to_sip.length = 16 from (h.1.2).len)
  subst e0
  subst e1
  rfl
theorem in_to_dst {o : InsV} (h : IsIn o) : seg (inC o) 0 17 = some (pfC o.to.dip o.to.dbits) := by
  obtain ⟨⟨f_to_dip, f_to_dbits, f_to_sip, f_to_sbits, f_to_rt⟩, f_nb, ⟨f_own_seq, f_own_met⟩, f_btn, f_til⟩ := o
  obtain ⟨x0_0, x0_1, x0_2, x0_3, x0_4, x0_5, x0_6, x0_7, x0_8, x0_9, x0_10, x0_11, x0_12, x0_13, x0_14, x0_15, e0⟩ := len16 (show f_to_dip.length = 16 from (h.1.1).len)
  obtain ⟨x1_0, x1_1, x1_2, x1_3, x1_4, x1_5, x1_6, x1_7, x1_8, x1_9, x1_10, x1_11, x1_12, x1_13, x1_14, x1_15, e1⟩ := len16 (show f_to_sip.length = 16 from (h.1.2).len)
  subst e0
  subst e1
  rfl
theorem in_to_src {o : InsV} (h : IsIn o) : seg (inC o) 17 17 = some (pfC o.to.sip o.to.sbits) := by
  obtain ⟨⟨f_to_dip, f_to_dbits, f_to_sip, f_to_sbits, f_to_rt⟩, f_nb, ⟨f_own_seq, f_own_met⟩, f_btn, f_til⟩ := o
  obtain ⟨x0_0, x0_1, x0_2, x0_3, x0_4, x0_5, x0_6, x0_7, x0_8, x0_9, x0_10, x0_11, x0_12, x0_13, x0_14, x0_15, e0⟩ := len16 (show f_to_dip.length = 16 from (h.1.1).len)
  obtain ⟨x1_0, x1_1, x1_2, x1_3, x1_4, x1_5, x1_6, x1_7, x1_8, x1_9, x1_10, x1_11, x1_12, x1_13, x1_14, x1_15, e1⟩ := len16 (show f_to_sip.length = 16 from (h.1.2).len)
  subst e0
  subst e1
  rfl
theorem in_nb {o : InsV} (h : IsIn o) : nth (inC o) 35 = some (.int .u64 o.nb) := by
  obtain ⟨⟨f_to_dip, f_to_dbits, f_to_sip, f_to_sbits, f_to_rt⟩, f_nb, ⟨f_own_seq, f_own_met⟩, f_btn, f_til⟩ := o
  obtain ⟨x0_0, x0_1, x0_2, x0_3, x0_4, x0_5, x0_6, x0_7, x0_8, x0_9, x0_10, x0_11, x0_12, x0_13, x0_14, x0_15, e0⟩ := len16 (show f_to_dip.length = 16 from (h.1.1).len)
  obtain ⟨x1_0, x1_1, x1_2, x1_3, x1_4, x1_5, x1_6, x1_7, x1_8, x1_9, x1_10, x1_11, x1_12, x1_13, x1_14, x1_15, e1⟩ := len16 (show f_to_sip.length = 16 from (h.1.2).len)
  subst e0
  subst e1
  rfl
theorem in_own {o : InsV} (h : IsIn o) : seg (inC o) 36 2 = some (diC o.own) := by
  obtain ⟨⟨f_to_dip, f_to_dbits, f_to_sip, f_to_sbits, f_to_rt⟩, f_nb, ⟨f_own_seq, f_own_met⟩, f_btn, f_til⟩ := o
  obtain ⟨x0_0, x0_1, x0_2, x0_3, x0_4, x0_5, x0_6, x0_7, x0_8, x0_9, x0_10, x0_11, x0_12, x0_13, x0_14, x0_15, e0⟩ := len16 (show f_to_dip.length = 16 from (h.1.1).len)
  obtain ⟨x1_0, x1_1, x1_2, x1_3, x1_4, x1_5, x1_6, x1_7, x1_8, x1_9, x1_10, x1_11, x1_12, x1_13, x1_14, x1_15, e1⟩ := len16 (show f_to_sip.length = 16 from (h.1.2).len)
  subst e0
  subst e1
  rfl
theorem in_own_seq {o : InsV} (h : IsIn o) : nth (inC o) 36 = some (.int .u16 o.own.seq) := by
  obtain ⟨⟨f_to_dip, f_to_dbits, f_to_sip, f_to_sbits, f_to_rt⟩, f_nb, ⟨f_own_seq, f_own_met⟩, f_btn, f_til⟩ := o
  obtain ⟨x0_0, x0_1, x0_2, x0_3, x0_4, x0_5, x0_6, x0_7, x0_8, x0_9, x0_10, x0_11, x0_12, x0_13, x0_14, x0_15, e0⟩ := len16 (show f_to_dip.length = 16 from (h.1.1).len)
  obtain ⟨x1_0, x1_1, x1_2, x1_3, x1_4, x1_5, x1_6, x1_7, x1_8, x1_9, x1_10, x1_11, x1_12, x1_13, x1_14, x1_15, e1⟩ := len16 (show f_to_sip.length = 16 from (h.1.2).len)
  subst e0
  subst e1
  rfl
theorem in_own_met {o : InsV} (h : IsIn o) : nth (inC o) 37 = some (.int .i64 o.own.met) := by
  obtain ⟨⟨f_to_dip, f_to_dbits, f_to_sip, f_to_sbits, f_to_rt⟩, f_nb, ⟨f_own_seq, f_own_met⟩, f_btn, f_til⟩ := o
  obtain ⟨x0_0, x0_1, x0_2, x0_3, x0_4, x0_5, x0_6, x0_7, x0_8, x0_9, x0_10, x0_11, x0_12, x0_13, x0_14, x0_15, e0⟩ := len16 (show f_to_dip.length = 16 from (h.1.1).len)
  obtain ⟨x1_0, x1_1, x1_2, x1_3, x1_4, x1_5, x1_6, x1_7, x1_8, x1_9, x1_10, x1_11, x1_12, x1_13, x1_14, x1_15, e1⟩ := len16 (show f_to_sip.length = 16 from (h.1.2).len)
  subst e0
  subst e1
  rfl
theorem in_btn {o : InsV} (h : IsIn o) : nth (inC o) 38 = some (.int .i64 o.btn) := by
  obtain ⟨⟨f_to_dip, f_to_dbits, f_to_sip, f_to_sbits, f_to_rt⟩, f_nb, ⟨f_own_seq, f_own_met⟩, f_btn, f_til⟩ := o
  obtain ⟨x0_0, x0_1, x0_2, x0_3, x0_4, x0_5, x0_6, x0_7, x0_8, x0_9, x0_10, x0_11, x0_12, x0_13, x0_14, x0_15, e0⟩ := len16 (show f_to_dip.length = 16 from (h.1.1).len)
  obtain ⟨x1_0, x1_1, x1_2, x1_3, x1_4, x1_5, x1_6, x1_7, x1_8, x1_9, x1_10, x1_11, x1_12, x1_13, x1_14, x1_15, e1⟩ := len16 (show f_to_sip.length = 16 from (h.1.2).len)
  subst e0
  subst e1
  rfl
theorem in_til {o : InsV} (h : IsIn o) : nth (inC o) 39 = some (.int .i64 o.til) := by
  obtain ⟨⟨f_to_dip, f_to_dbits, f_to_sip, f_to_sbits, f_to_rt⟩, f_nb, ⟨f_own_seq, f_own_met⟩, f_btn, f_til⟩ := o
  obtain ⟨x0_0, x0_1, x0_2, x0_3, x0_4, x0_5, x0_6, x0_7, x0_8, x0_9, x0_10, x0_11, x0_12, x0_13, x0_14, x0_15, e0⟩ := len16 (show f_to_dip.length = 16 from (h.1.1).len)
  obtain ⟨x1_0, x1_1, x1_2, x1_3, x1_4, x1_5, x1_6, x1_7, x1_8, x1_9, x1_10, x1_11, x1_12, x1_13, x1_14, x1_15, e1⟩ := len16 (show f_to_sip.length = 16 from (h.1.2).len)
  subst e0
  subst e1
  rfl
theorem in_one (o : InsV) : (inC o).all (·.oneCell') = true := by
  simp [pfC, ipC, inC, dvC, diC, Value.oneCell']
def inZ : List Value := [.int .u8 0, .int .u8 0, .int .u8 0, .int .u8 0, .int .u8 0, .int .u8 0, .int .u8 0, .int .u8 0, .int .u8 0, .int .u8 0, .int .u8 0, .int .u8 0, .int .u8 0, .int .u8 0, .int .u8 0, .int .u8 0, .int .i64 0, .int .u8 0, .int .u8 0, .int .u8 0, .int .u8 0, .int .u8 0, .int .u8 0, .int .u8 0, .int .u8 0, .int .u8 0, .int .u8 0, .int .u8 0, .int .u8 0, .int .u8 0, .int .u8 0, .int .u8 0, .int .u8 0, .int .i64 0, .int .u64 0, .int .u64 0, .int .u16 0, .int .i64 0, .int .i64 0, .int .i64 0]
theorem in_build1 {o : InsV} (h : IsIn o) : putAll (placesL 1 40) (zerosL inZ (1 * 40)) [(0, inC o)] = some (inC o) := by
  obtain ⟨⟨f_to_dip, f_to_dbits, f_to_sip, f_to_sbits, f_to_rt⟩, f_nb, ⟨f_own_seq, f_own_met⟩, f_btn, f_til⟩ := o
  obtain ⟨x0_0, x0_1, x0_2, x0_3, x0_4, x0_5, x0_6, x0_7, x0_8, x0_9, x0_10, x0_11, x0_12, x0_13, x0_14, x0_15, e0⟩ := len16 (show f_to_dip.length = 16 from (h.1.1).len)
  obtain ⟨x1_0, x1_1, x1_2, x1_3, x1_4, x1_5, x1_6, x1_7, x1_8, x1_9, x1_10, x1_11, x1_12, x1_13, x1_14, x1_15, e1⟩ := len16 (show f_to_sip.length = 16 from (h.1.2).len)
  subst e0
  subst e1
  rfl
abbrev insC (l : List InsV) : List Value := encL inC l
theorem ins_len {l : List InsV} (h : ∀ x ∈ l, IsIn x) : ∀ x ∈ l, (inC x).length = 40 := fun x hx => in_len (h x hx)
end Go.Proofs.YtilgoepokaaleaaGreat
/-! Y1 -/
namespace Go.Proofs.YtilgoepokaaleaaGreat
set_option linter.unusedVariables false
set_option linter.unusedSimpArgs false
def keyD (d : DstV) : List Int := d.dip ++ (d.dbits :: (d.sip ++ [d.sbits, d.rt]))
def cmpD (a b : DstV) : Int := cmpL (keyD a) (keyD b)
theorem cmpD_self (a : DstV) : cmpD a a = 0 := cmpL_self _
theorem cmpD_anti (a b : DstV) : cmpD b a = - cmpD a b := cmpL_anti _ _
theorem cmpD_trans {a b c : DstV} (h : cmpD a b < 0) (k : cmpD b c < 0) : cmpD a c < 0 := cmpL_lt_trans h k
theorem cmpD_zero {a b : DstV} (ha : IsDv a) (hb : IsDv b) (h : cmpD a b = 0) : a = b := by
  have h1 := cmpL_zero h
  obtain ⟨d1, d2, s1, s2, r⟩ := a
  obtain ⟨e1, e2, t1, t2, q⟩ := b
  simp only [keyD] at h1
  obtain ⟨h2, h3⟩ := List.append_inj h1 (by rw [(show IsIP d1 from ha.1).len, (show IsIP e1 from hb.1).len])
  simp only [List.cons.injEq] at h3
  obtain ⟨h4, h5⟩ := List.append_inj h3.2 (by rw [(show IsIP s1 from ha.2).len, (show IsIP t1 from hb.2).len])
  simp only [List.cons.injEq, and_true] at h5
  rw [h2, h3.1, h4, h5.1, h5.2]
/-- the parts in their order -/
def cmpI (a b : Int) : Int := if a < b then -1 else if b < a then 1 else 0
def orI (a b : Int) : Int := if a = 0 then b else a
theorem cmpL_cons (x y : Int) (xs ys : List Int) : cmpL (x :: xs) (y :: ys) = orI (cmpI x y) (cmpL xs ys) := by
  simp only [cmpL, orI, cmpI]
  split
  · rfl
  · split <;> rfl
theorem cmpL_two : ∀ (xs ys us vs : List Int), xs.length = ys.length → cmpL (xs ++ us) (ys ++ vs) = orI (cmpL xs ys) (cmpL us vs)
  | [], [], _, _, _ => rfl
  | x :: xs, y :: ys, us, vs, h => by
    rw [List.cons_append, List.cons_append, cmpL_cons, cmpL_cons, cmpL_two xs ys us vs (by simpa using h)]
    simp only [orI]
    split <;> simp_all
  | [], _ :: _, _, _, h => by cases h
  | _ :: _, [], _, _, h => by cases h
theorem cmpD_or {a b : DstV} (ha : IsDv a) (hb : IsDv b) : cmpD a b = orI (cmpL a.dip b.dip) (orI (cmpI a.dbits b.dbits) (orI (cmpL a.sip b.sip) (orI (cmpI a.sbits b.sbits) (cmpI a.rt b.rt)))) := by
  unfold cmpD keyD
  rw [cmpL_two _ _ _ _ (by rw [ha.1.len, hb.1.len]), cmpL_cons, cmpL_two _ _ _ _ (by rw [ha.2.len, hb.2.len]), cmpL_cons, cmpL_cons]
  congr 4
  simp only [cmpL, orI, cmpI]
  split <;> simp_all
/-! strictly ascending lists over their keys -/
section asc
variable {α : Type} (key : α → DstV)
def AscK (l : List α) : Prop := l.Pairwise fun a b => cmpD (key a) (key b) < 0
theorem ascK_unique : ∀ (az bs : List α), AscK key az → AscK key bs → (∀ x, x ∈ az ↔ x ∈ bs) → az = bs
  | [], bs, _, _, h => by
    cases bs with
    | nil => rfl
    | cons b bs => have := (h b).2 (by simp); cases this
  | a :: az, [], _, _, h => by have := (h a).1 (by simp); cases this
  | a :: az, b :: bs, ha, hb, h => by
    obtain ⟨ha1, ha2⟩ := List.pairwise_cons.1 ha
    obtain ⟨hb1, hb2⟩ := List.pairwise_cons.1 hb
    have hab : a = b := by
      rcases List.mem_cons.1 ((h a).1 (by simp)) with h1 | h1
      · exact h1
      · rcases List.mem_cons.1 ((h b).2 (by simp)) with h2 | h2
        · exact h2.symm
        · have h3 := hb1 a h1
          have h4 := ha1 b h2
          have := cmpD_anti (key a) (key b)
          omega
    subst hab
    have hne : ∀ x, cmpD (key a) (key x) < 0 → x ≠ a := fun x hx e => by rw [e, cmpD_self] at hx; omega
    rw [ascK_unique az bs ha2 hb2 fun x => ⟨fun hx => by
      rcases List.mem_cons.1 ((h x).1 (by simp [hx])) with h1 | h1
      · exact absurd h1 (hne x (ha1 x hx))
      · exact h1, fun hx => by
      rcases List.mem_cons.1 ((h x).2 (by simp [hx])) with h1 | h1
      · exact absurd h1 (hne x (hb1 x hx))
      · exact h1⟩]
variable {key}
theorem AscK.sub {l m : List α} (h : AscK key l) (hs : m.Sublist l) : AscK key m := List.Pairwise.sublist hs h
theorem AscK.filter {l : List α} (h : AscK key l) (f : α → Bool) : AscK key (l.filter f) := h.sub List.filter_sublist
end asc
/-! what is announced -/
def inf : Int := 65535
abbrev AscA (l : List AdvV) : Prop := AscK AdvV.to l
/-- all of them behind a destination -/
def Lo (d : DstV) (l : List AdvV) : Prop := ∀ x ∈ l, cmpD d x.to < 0
theorem Lo.trans {d e : DstV} {l : List AdvV} (h : Lo e l) (k : cmpD d e < 0) : Lo d l := fun x hx => cmpD_trans k (h x hx)
end Go.Proofs.YtilgoepokaaleaaGreat
/-! Y2 -/
namespace Go.Proofs.YtilgoepokaaleaaGreat
set_option linter.unusedVariables false
set_option linter.unusedSimpArgs false
/-! validity -/
def validT (d : DstV) : Bool := validP d.dip d.dbits && validP d.sip d.sbits && !decide (d.rt = 0)
def validM (m : Int) : Bool := decide (0 ≤ m) && decide (m ≤ 65535)
theorem validM_inf : validM inf = true := rfl
end Go.Proofs.YtilgoepokaaleaaGreat
/-! Y3 -/
namespace Go.Proofs.YtilgoepokaaleaaGreat
set_option linter.unusedVariables false
set_option linter.unusedSimpArgs false
open Go.RowKit
attribute [local irreducible] OpTo wpListIn Code.wpIn MW Cal
theorem mvalid_c (t : Int) (W : World) : Cal Tryz.prog 97 [.int .i64 t].toArray W fun v w' => v = .bool (validM t) ∧ Ext [] W w' := by
  unfold validM
  by_cases h : 0 ≤ t
  · rw [decide_eq_true h, Bool.true_and]
    refine fn_ofM (n := 9) [] Tryz.func97 rfl rfl rfl ?_
    intro a w F M hwW
    refine c_seq (c_region ?_)
    refine sD F (o_assign (F.ev rfl) ?_); clear F a; intro a F
    with_reducible refine l_nil (q_then (c_seq (c_region ?_)))
    refine sD F (o_move (F.ev rfl) ?_); clear F a; intro a F
    refine sD F (o_geqT (F.ev rfl) (F.ev rfl) (by omega) ?_); clear F a; intro a F
    refine sD F (o_move (F.ev rfl) ?_); clear F a; intro a F
    refine sG F (o_move (F.ev rfl) ?_); clear F a; intro a F
    refine sG F (o_leq (F.ev rfl) (F.ev rfl) ?_); clear F a; intro a F
    refine sD F (o_pickT (F.ev rfl) (F.ev rfl) ?_); clear F a; intro a F
    refine sD F (o_assign (F.ev rfl) ?_); clear F a; intro a F
    with_reducible refine l_nil (q_then (c_ret ?_))
    refine p_ret F rfl (.cons (.tmp (F.ev rfl)) .nil) ?_
    exact ⟨rfl, M.ext⟩
  · rw [decide_eq_false h, Bool.false_and]
    refine fn_ofM (n := 9) [] Tryz.func97 rfl rfl rfl ?_
    intro a w F M hwW
    refine c_seq (c_region ?_)
    refine sD F (o_assign (F.ev rfl) ?_); clear F a; intro a F
    with_reducible refine l_nil (q_then (c_seq (c_region ?_)))
    refine sD F (o_move (F.ev rfl) ?_); clear F a; intro a F
    refine sD F (o_geqF (F.ev rfl) (F.ev rfl) (by omega) ?_); clear F a; intro a F
    refine sD F (o_move (F.ev rfl) ?_); clear F a; intro a F
    refine sO F ?_; clear F a; intro a F
    refine sO F ?_; clear F a; intro a F
    refine sD F (o_pickF (F.ev rfl) (F.ev rfl) ?_); clear F a; intro a F
    refine sD F (o_assign (F.ev rfl) ?_); clear F a; intro a F
    with_reducible refine l_nil (q_then (c_ret ?_))
    refine p_ret F rfl (.cons (.tmp (F.ev rfl)) .nil) ?_
    exact ⟨rfl, M.ext⟩
theorem rmvalid_c (t : Int) (W : World) : Cal Tryz.prog 125 [.int .i64 t].toArray W fun v w' => v = .bool (validM t) ∧ Ext [] W w' := by
  unfold validM
  by_cases h : 0 ≤ t
  · rw [decide_eq_true h, Bool.true_and]
    refine fn_ofM (n := 9) [] Tryz.func125 rfl rfl rfl ?_
    intro a w F M hwW
    refine c_seq (c_region ?_)
    refine sD F (o_assign (F.ev rfl) ?_); clear F a; intro a F
    with_reducible refine l_nil (q_then (c_seq (c_region ?_)))
    refine sD F (o_move (F.ev rfl) ?_); clear F a; intro a F
    refine sD F (o_geqT (F.ev rfl) (F.ev rfl) (by omega) ?_); clear F a; intro a F
    refine sD F (o_move (F.ev rfl) ?_); clear F a; intro a F
    refine sG F (o_move (F.ev rfl) ?_); clear F a; intro a F
    refine sG F (o_leq (F.ev rfl) (F.ev rfl) ?_); clear F a; intro a F
    refine sD F (o_pickT (F.ev rfl) (F.ev rfl) ?_); clear F a; intro a F
    refine sD F (o_assign (F.ev rfl) ?_); clear F a; intro a F
    with_reducible refine l_nil (q_then (c_ret ?_))
    refine p_ret F rfl (.cons (.tmp (F.ev rfl)) .nil) ?_
    exact ⟨rfl, M.ext⟩
  · rw [decide_eq_false h, Bool.false_and]
    refine fn_ofM (n := 9) [] Tryz.func125 rfl rfl rfl ?_
    intro a w F M hwW
    refine c_seq (c_region ?_)
    refine sD F (o_assign (F.ev rfl) ?_); clear F a; intro a F
    with_reducible refine l_nil (q_then (c_seq (c_region ?_)))
    refine sD F (o_move (F.ev rfl) ?_); clear F a; intro a F
    refine sD F (o_geqF (F.ev rfl) (F.ev rfl) (by omega) ?_); clear F a; intro a F
    refine sD F (o_move (F.ev rfl) ?_); clear F a; intro a F
    refine sO F ?_; clear F a; intro a F
    refine sO F ?_; clear F a; intro a F
    refine sD F (o_pickF (F.ev rfl) (F.ev rfl) ?_); clear F a; intro a F
    refine sD F (o_assign (F.ev rfl) ?_); clear F a; intro a F
    with_reducible refine l_nil (q_then (c_ret ?_))
    refine p_ret F rfl (.cons (.tmp (F.ev rfl)) .nil) ?_
    exact ⟨rfl, M.ext⟩
theorem rdvalid_c (d : DisV) (W : World) : Cal Tryz.prog 84 [.agg (diC d).toArray].toArray W fun v w' => v = .bool (validM d.met) ∧ Ext [] W w' := by
  have e1 := di_met (o := d) trivial
  refine fn_ofM (n := 6) [] Tryz.func84 rfl rfl rfl ?_
  intro a w F M hwW
  refine c_seq ?_
  refine c_region ?_
  (refine sD F (o_box M (F.ev rfl) rfl ?_); clear F M; intro b1 w M a F)
  refine sD F (o_assign (F.ev rfl) ?_); clear F a; intro a F
  with_reducible refine l_nil (q_then (c_seq (c_region ?_)))
  refine sD F (o_fieldAddr (F.ev rfl) ?_); clear F a; intro a F
  refine sD F (o_load1 M (F.ev rfl) (by repeat constructor) (by first | assumption | rfl) ?_); clear F a; intro a F
  (refine sD F (o_call (F.ev rfl) (F.evs rfl) (Cal.mono (rmvalid_c d.met _) ?_)); clear F; clear a; rintro _ w ⟨rfl, hE⟩ a F; replace M := M.later hE; clear hE)
  refine sD F (o_assign (F.ev rfl) ?_); clear F a; intro a F
  with_reducible refine l_nil (q_then (c_ret ?_))
  refine p_ret F rfl (.cons (.tmp (F.ev rfl)) .nil) ?_
  exact ⟨rfl, M.ext⟩
set_option maxHeartbeats 1000000 in
theorem validTo_c (d : DstV) (hd : IsDv d) (W : World) : Cal Tryz.prog 74 [.agg (dvC d).toArray].toArray W fun v w' => v = .bool (validT d) ∧ Ext [] W w' := by
  have e1 := dv_dst hd
  have e2 := dv_src hd
  have e3 := dv_rt hd
  unfold validT
  refine fn_ofM (n := 16) [] Tryz.func74 rfl rfl rfl ?_
  intro a w F M hwW
  refine c_seq ?_
  refine c_region ?_
  (refine sD F (o_box M (F.ev rfl) rfl ?_); clear F M; intro b1 w M a F)
  refine sD F (o_assign (F.ev rfl) ?_); clear F a; intro a F
  with_reducible refine l_nil (q_then (c_seq (c_region ?_)))
  refine sD F (o_fieldAddr (F.ev rfl) ?_); clear F a; intro a F
  refine sD F (o_loadA M (F.ev rfl) (by repeat constructor) (by first | assumption | rfl) ?_); clear F a; intro a F
  (refine sD F (o_call (F.ev rfl) (F.evs rfl) (Cal.mono (validPrefix_c d.dip d.dbits hd.1.len _) ?_)); clear F; clear a; rintro _ w ⟨rfl, hE⟩ a F; replace M := M.later hE; clear hE)
  cases h1 : validP d.dip d.dbits
  · rw [h1] at F
    refine sD F (o_move (F.ev rfl) ?_); clear F a; intro a F
    refine sO F ?_; clear F a; intro a F
    refine sO F ?_; clear F a; intro a F
    refine sO F ?_; clear F a; intro a F
    refine sD F (o_pickF (F.ev rfl) (F.ev rfl) ?_); clear F a; intro a F
    refine sD F (o_move (F.ev rfl) ?_); clear F a; intro a F
    refine sO F ?_; clear F a; intro a F
    refine sO F ?_; clear F a; intro a F
    refine sO F ?_; clear F a; intro a F
    refine sD F (o_pickF (F.ev rfl) (F.ev rfl) ?_); clear F a; intro a F
    refine sD F (o_assign (F.ev rfl) ?_); clear F a; intro a F
    with_reducible refine l_nil (q_then (c_ret ?_))
    refine p_ret F rfl (.cons (.tmp (F.ev rfl)) .nil) ?_
    exact ⟨rfl, M.ext⟩
  · rw [h1] at F
    refine sD F (o_move (F.ev rfl) ?_); clear F a; intro a F
    refine sG F (o_fieldAddr (F.ev rfl) ?_); clear F a; intro a F
    refine sG F (o_loadA M (F.ev rfl) (by repeat constructor) (by first | assumption | rfl) ?_); clear F a; intro a F
    (refine sG F (o_call (F.ev rfl) (F.evs rfl) (Cal.mono (validPrefix_c d.sip d.sbits hd.2.len _) ?_)); clear F; clear a; rintro _ w ⟨rfl, hE⟩ a F; replace M := M.later hE; clear hE)
    cases h2 : validP d.sip d.sbits
    · rw [h2] at F
      refine sD F (o_pickT (F.ev rfl) (F.ev rfl) ?_); clear F a; intro a F
      refine sD F (o_move (F.ev rfl) ?_); clear F a; intro a F
      refine sO F ?_; clear F a; intro a F
      refine sO F ?_; clear F a; intro a F
      refine sO F ?_; clear F a; intro a F
      refine sD F (o_pickF (F.ev rfl) (F.ev rfl) ?_); clear F a; intro a F
      refine sD F (o_assign (F.ev rfl) ?_); clear F a; intro a F
      with_reducible refine l_nil (q_then (c_ret ?_))
      refine p_ret F rfl (.cons (.tmp (F.ev rfl)) .nil) ?_
      exact ⟨rfl, M.ext⟩
    · rw [h2] at F
      by_cases h3 : d.rt = 0
      · rw [decide_eq_true h3]
        refine sD F (o_pickT (F.ev rfl) (F.ev rfl) ?_); clear F a; intro a F
        refine sD F (o_move (F.ev rfl) ?_); clear F a; intro a F
        refine sG F (o_fieldAddr (F.ev rfl) ?_); clear F a; intro a F
        refine sG F (o_load1 M (F.ev rfl) (by repeat constructor) (by first | assumption | rfl) ?_); clear F a; intro a F
        refine sG F (o_neqF (F.ev rfl) (F.ev rfl) (by omega) ?_); clear F a; intro a F
        refine sD F (o_pickT (F.ev rfl) (F.ev rfl) ?_); clear F a; intro a F
        refine sD F (o_assign (F.ev rfl) ?_); clear F a; intro a F
        with_reducible refine l_nil (q_then (c_ret ?_))
        refine p_ret F rfl (.cons (.tmp (F.ev rfl)) .nil) ?_
        exact ⟨rfl, M.ext⟩
      · rw [decide_eq_false h3]
        refine sD F (o_pickT (F.ev rfl) (F.ev rfl) ?_); clear F a; intro a F
        refine sD F (o_move (F.ev rfl) ?_); clear F a; intro a F
        refine sG F (o_fieldAddr (F.ev rfl) ?_); clear F a; intro a F
        refine sG F (o_load1 M (F.ev rfl) (by repeat constructor) (by first | assumption | rfl) ?_); clear F a; intro a F
        refine sG F (o_neqT (F.ev rfl) (F.ev rfl) (by omega) ?_); clear F a; intro a F
        refine sD F (o_pickT (F.ev rfl) (F.ev rfl) ?_); clear F a; intro a F
        refine sD F (o_assign (F.ev rfl) ?_); clear F a; intro a F
        with_reducible refine l_nil (q_then (c_ret ?_))
        refine p_ret F rfl (.cons (.tmp (F.ev rfl)) .nil) ?_
        exact ⟨rfl, M.ext⟩
set_option maxHeartbeats 1000000 in
theorem rvalidTo_c (d : DstV) (hd : IsDv d) (W : World) : Cal Tryz.prog 56 [.agg (dvC d).toArray].toArray W fun v w' => v = .bool (validT d) ∧ Ext [] W w' := by
  have e1 := dv_dst hd
  have e2 := dv_src hd
  have e3 := dv_rt hd
  unfold validT
  refine fn_ofM (n := 16) [] Tryz.func56 rfl rfl rfl ?_
  intro a w F M hwW
  refine c_seq ?_
  refine c_region ?_
  (refine sD F (o_box M (F.ev rfl) rfl ?_); clear F M; intro b1 w M a F)
  refine sD F (o_assign (F.ev rfl) ?_); clear F a; intro a F
  with_reducible refine l_nil (q_then (c_seq (c_region ?_)))
  refine sD F (o_fieldAddr (F.ev rfl) ?_); clear F a; intro a F
  refine sD F (o_loadA M (F.ev rfl) (by repeat constructor) (by first | assumption | rfl) ?_); clear F a; intro a F
  (refine sD F (o_call (F.ev rfl) (F.evs rfl) (Cal.mono (rvalidPrefix_c d.dip d.dbits hd.1 _) ?_)); clear F; clear a; rintro _ w ⟨rfl, hE⟩ a F; replace M := M.later hE; clear hE)
  cases h1 : validP d.dip d.dbits
  · rw [h1] at F
    refine sD F (o_move (F.ev rfl) ?_); clear F a; intro a F
    refine sO F ?_; clear F a; intro a F
    refine sO F ?_; clear F a; intro a F
    refine sO F ?_; clear F a; intro a F
    refine sD F (o_pickF (F.ev rfl) (F.ev rfl) ?_); clear F a; intro a F
    refine sD F (o_move (F.ev rfl) ?_); clear F a; intro a F
    refine sO F ?_; clear F a; intro a F
    refine sO F ?_; clear F a; intro a F
    refine sO F ?_; clear F a; intro a F
    refine sD F (o_pickF (F.ev rfl) (F.ev rfl) ?_); clear F a; intro a F
    refine sD F (o_assign (F.ev rfl) ?_); clear F a; intro a F
    with_reducible refine l_nil (q_then (c_ret ?_))
    refine p_ret F rfl (.cons (.tmp (F.ev rfl)) .nil) ?_
    exact ⟨rfl, M.ext⟩
  · rw [h1] at F
    refine sD F (o_move (F.ev rfl) ?_); clear F a; intro a F
    refine sG F (o_fieldAddr (F.ev rfl) ?_); clear F a; intro a F
    refine sG F (o_loadA M (F.ev rfl) (by repeat constructor) (by first | assumption | rfl) ?_); clear F a; intro a F
    (refine sG F (o_call (F.ev rfl) (F.evs rfl) (Cal.mono (rvalidPrefix_c d.sip d.sbits hd.2 _) ?_)); clear F; clear a; rintro _ w ⟨rfl, hE⟩ a F; replace M := M.later hE; clear hE)
    cases h2 : validP d.sip d.sbits
    · rw [h2] at F
      refine sD F (o_pickT (F.ev rfl) (F.ev rfl) ?_); clear F a; intro a F
      refine sD F (o_move (F.ev rfl) ?_); clear F a; intro a F
      refine sO F ?_; clear F a; intro a F
      refine sO F ?_; clear F a; intro a F
      refine sO F ?_; clear F a; intro a F
      refine sD F (o_pickF (F.ev rfl) (F.ev rfl) ?_); clear F a; intro a F
      refine sD F (o_assign (F.ev rfl) ?_); clear F a; intro a F
      with_reducible refine l_nil (q_then (c_ret ?_))
      refine p_ret F rfl (.cons (.tmp (F.ev rfl)) .nil) ?_
      exact ⟨rfl, M.ext⟩
    · rw [h2] at F
      by_cases h3 : d.rt = 0
      · rw [decide_eq_true h3]
        refine sD F (o_pickT (F.ev rfl) (F.ev rfl) ?_); clear F a; intro a F
        refine sD F (o_move (F.ev rfl) ?_); clear F a; intro a F
        refine sG F (o_fieldAddr (F.ev rfl) ?_); clear F a; intro a F
        refine sG F (o_load1 M (F.ev rfl) (by repeat constructor) (by first | assumption | rfl) ?_); clear F a; intro a F
        refine sG F (o_neqF (F.ev rfl) (F.ev rfl) (by omega) ?_); clear F a; intro a F
        refine sD F (o_pickT (F.ev rfl) (F.ev rfl) ?_); clear F a; intro a F
        refine sD F (o_assign (F.ev rfl) ?_); clear F a; intro a F
        with_reducible refine l_nil (q_then (c_ret ?_))
        refine p_ret F rfl (.cons (.tmp (F.ev rfl)) .nil) ?_
        exact ⟨rfl, M.ext⟩
      · rw [decide_eq_false h3]
        refine sD F (o_pickT (F.ev rfl) (F.ev rfl) ?_); clear F a; intro a F
        refine sD F (o_move (F.ev rfl) ?_); clear F a; intro a F
        refine sG F (o_fieldAddr (F.ev rfl) ?_); clear F a; intro a F
        refine sG F (o_load1 M (F.ev rfl) (by repeat constructor) (by first | assumption | rfl) ?_); clear F a; intro a F
        refine sG F (o_neqT (F.ev rfl) (F.ev rfl) (by omega) ?_); clear F a; intro a F
        refine sD F (o_pickT (F.ev rfl) (F.ev rfl) ?_); clear F a; intro a F
        refine sD F (o_assign (F.ev rfl) ?_); clear F a; intro a F
        with_reducible refine l_nil (q_then (c_ret ?_))
        refine p_ret F rfl (.cons (.tmp (F.ev rfl)) .nil) ?_
        exact ⟨rfl, M.ext⟩
set_option maxHeartbeats 2000000 in
theorem scompare_c (x y : DstV) (ha : IsDv x) (hb : IsDv y) (W : World) : Cal Tryz.prog 96 [.agg (dvC x).toArray, .agg (dvC y).toArray].toArray W fun v w' => v = .int .i64 (cmpD x y) ∧ Ext [] W w' := by
  have a1 := dv_dip ha
  have a2 := dv_dbits ha
  have a3 := dv_sip ha
  have a4 := dv_sbits ha
  have a5 := dv_rt ha
  have c1 := dv_dip hb
  have c2 := dv_dbits hb
  have c3 := dv_sip hb
  have c4 := dv_sbits hb
  have c5 := dv_rt hb
  have hr : cmpD x y = orV [cmpL x.dip y.dip, cmpV x.dbits y.dbits, cmpL x.sip y.sip, cmpV x.sbits y.sbits, cmpV x.rt y.rt] := by
    rw [cmpD_or ha hb]
    simp only [orV, orI]
    repeat' split
    all_goals first | rfl | (rename_i h; exact h) | (rename_i h; exact h.symm) | simp_all [cmpI, cmpV]
  rw [hr]
  refine fn_ofM (n := 40) [] Tryz.func96 rfl rfl rfl ?_
  intro a w F M hwW
  refine c_seq ?_
  refine c_region ?_
  (refine sD F (o_box M (F.ev rfl) rfl ?_); clear F M; intro b2 w M a F)
  (refine sD F (o_box M (F.ev rfl) rfl ?_); clear F M; intro b3 w M a F)
  refine sD F (o_assign (F.ev rfl) ?_); clear F a; intro a F
  with_reducible refine l_nil (q_then (c_seq ?_))
  replace F := F.only [2, 3] rfl
  refine c_draw 33 F (by kernel_rfl) ?_
  intro w1 hE hok
  have M1 := M.later hE
  refine mK hok rfl rfl (fun a' w' F' E' => o_fieldAddr (F'.ev rfl) ⟨Ext.refl _ _, rfl⟩) ?_
  refine mK hok rfl rfl (fun a' w' F' E' => o_fieldAddr (F'.ev rfl) ⟨Ext.refl _ _, rfl⟩) ?_
  (refine mK hok rfl rfl (fun a' w' F' E' => o_arrAll (F'.ev rfl) ⟨Ext.refl _ _, rfl⟩) ?_)
  refine mK hok rfl rfl (fun a' w' F' E' => o_fieldAddr (F'.ev rfl) ⟨Ext.refl _ _, rfl⟩) ?_
  refine mK hok rfl rfl (fun a' w' F' E' => o_fieldAddr (F'.ev rfl) ⟨Ext.refl _ _, rfl⟩) ?_
  (refine mK hok rfl rfl (fun a' w' F' E' => o_arrAll (F'.ev rfl) ⟨Ext.refl _ _, rfl⟩) ?_)
  skip
  (refine mK hok rfl rfl (fun a' w' F' E' => o_call (F'.ev rfl) (F'.evs rfl) (Cal.mono (bytesCompare_c _ (n := 16) (m := 16) ⟨_, _, rfl, by omega, by simp, (ipC_len ha.1.len), fun _ => ⟨b2, 0, dvC x, _, _, rfl, (M1.later E').heap (.there .here), a1⟩⟩ ⟨_, _, rfl, by omega, by simp, (ipC_len hb.1.len), fun _ => ⟨b3, 0, dvC y, _, _, rfl, (M1.later E').heap .here, c1⟩⟩ ha.1.bd hb.1.bd) fun _ _ hh => ⟨hh.2, hh.1⟩)) ?_)
  refine mK hok rfl rfl (fun a' w' F' E' => o_fieldAddr (F'.ev rfl) ⟨Ext.refl _ _, rfl⟩) ?_
  refine mK hok rfl rfl (fun a' w' F' E' => o_fieldAddr (F'.ev rfl) ⟨Ext.refl _ _, rfl⟩) ?_
  refine mK hok rfl rfl (fun a' w' F' E' => o_load1 (M1.later E') (F'.ev rfl) (by repeat constructor) (by first | assumption | rfl) ⟨Ext.refl _ _, rfl⟩) ?_
  refine mK hok rfl rfl (fun a' w' F' E' => o_fieldAddr (F'.ev rfl) ⟨Ext.refl _ _, rfl⟩) ?_
  refine mK hok rfl rfl (fun a' w' F' E' => o_fieldAddr (F'.ev rfl) ⟨Ext.refl _ _, rfl⟩) ?_
  refine mK hok rfl rfl (fun a' w' F' E' => o_load1 (M1.later E') (F'.ev rfl) (by repeat constructor) (by first | assumption | rfl) ⟨Ext.refl _ _, rfl⟩) ?_
  (refine mK hok rfl rfl (fun a' w' F' E' => o_call (F'.ev rfl) (F'.evs rfl) (Cal.mono (cmp_int x.dbits y.dbits _) fun _ _ hh => ⟨hh.2, hh.1⟩)) ?_)
  refine mK hok rfl rfl (fun a' w' F' E' => o_fieldAddr (F'.ev rfl) ⟨Ext.refl _ _, rfl⟩) ?_
  refine mK hok rfl rfl (fun a' w' F' E' => o_fieldAddr (F'.ev rfl) ⟨Ext.refl _ _, rfl⟩) ?_
  (refine mK hok rfl rfl (fun a' w' F' E' => o_arrAll (F'.ev rfl) ⟨Ext.refl _ _, rfl⟩) ?_)
  refine mK hok rfl rfl (fun a' w' F' E' => o_fieldAddr (F'.ev rfl) ⟨Ext.refl _ _, rfl⟩) ?_
  refine mK hok rfl rfl (fun a' w' F' E' => o_fieldAddr (F'.ev rfl) ⟨Ext.refl _ _, rfl⟩) ?_
  (refine mK hok rfl rfl (fun a' w' F' E' => o_arrAll (F'.ev rfl) ⟨Ext.refl _ _, rfl⟩) ?_)
  skip
  (refine mK hok rfl rfl (fun a' w' F' E' => o_call (F'.ev rfl) (F'.evs rfl) (Cal.mono (bytesCompare_c _ (n := 16) (m := 16) ⟨_, _, rfl, by omega, by simp, (ipC_len ha.2.len), fun _ => ⟨b2, 17, dvC x, _, _, rfl, (M1.later E').heap (.there .here), a3⟩⟩ ⟨_, _, rfl, by omega, by simp, (ipC_len hb.2.len), fun _ => ⟨b3, 17, dvC y, _, _, rfl, (M1.later E').heap .here, c3⟩⟩ ha.2.bd hb.2.bd) fun _ _ hh => ⟨hh.2, hh.1⟩)) ?_)
  refine mK hok rfl rfl (fun a' w' F' E' => o_fieldAddr (F'.ev rfl) ⟨Ext.refl _ _, rfl⟩) ?_
  refine mK hok rfl rfl (fun a' w' F' E' => o_fieldAddr (F'.ev rfl) ⟨Ext.refl _ _, rfl⟩) ?_
  refine mK hok rfl rfl (fun a' w' F' E' => o_load1 (M1.later E') (F'.ev rfl) (by repeat constructor) (by first | assumption | rfl) ⟨Ext.refl _ _, rfl⟩) ?_
  refine mK hok rfl rfl (fun a' w' F' E' => o_fieldAddr (F'.ev rfl) ⟨Ext.refl _ _, rfl⟩) ?_
  refine mK hok rfl rfl (fun a' w' F' E' => o_fieldAddr (F'.ev rfl) ⟨Ext.refl _ _, rfl⟩) ?_
  refine mK hok rfl rfl (fun a' w' F' E' => o_load1 (M1.later E') (F'.ev rfl) (by repeat constructor) (by first | assumption | rfl) ⟨Ext.refl _ _, rfl⟩) ?_
  (refine mK hok rfl rfl (fun a' w' F' E' => o_call (F'.ev rfl) (F'.evs rfl) (Cal.mono (cmp_int x.sbits y.sbits _) fun _ _ hh => ⟨hh.2, hh.1⟩)) ?_)
  refine mK hok rfl rfl (fun a' w' F' E' => o_fieldAddr (F'.ev rfl) ⟨Ext.refl _ _, rfl⟩) ?_
  refine mK hok rfl rfl (fun a' w' F' E' => o_load1 (M1.later E') (F'.ev rfl) (by repeat constructor) (by first | assumption | rfl) ⟨Ext.refl _ _, rfl⟩) ?_
  refine mK hok rfl rfl (fun a' w' F' E' => o_fieldAddr (F'.ev rfl) ⟨Ext.refl _ _, rfl⟩) ?_
  refine mK hok rfl rfl (fun a' w' F' E' => o_load1 (M1.later E') (F'.ev rfl) (by repeat constructor) (by first | assumption | rfl) ⟨Ext.refl _ _, rfl⟩) ?_
  (refine mK hok rfl rfl (fun a' w' F' E' => o_call (F'.ev rfl) (F'.evs rfl) (Cal.mono (cmp_eui x.rt y.rt _) fun _ _ hh => ⟨hh.2, hh.1⟩)) ?_)
  skip
  (refine mDone rfl rfl ?_; clear F M; intro a w F hE2 hX hTT hDD hPP; have M := M1.later hE2; clear M1; clear hX; clear hE2; clear hok; clear hE; clear hTT; clear hDD; clear hPP; (try dsimp only at F))
  (refine sD F (o_buildSlice F M rfl rfl rfl rfl ?_); clear F M; intro b38 w M a F)
  (refine sD F (o_call (F.ev rfl) (F.evs rfl) (Cal.mono (or_c (b := b38) [cmpL x.dip y.dip, cmpV x.dbits y.dbits, cmpL x.sip y.sip, cmpV x.sbits y.sbits, cmpV x.rt y.rt] 5 rfl (by omega) _ (M.heap .here)) ?_)); clear F; clear a; rintro _ w ⟨rfl, hE⟩ a F; replace M := M.later hE; clear hE)
  refine sD F (o_assign (F.ev rfl) ?_); clear F a; intro a F
  with_reducible refine l_nil (q_then (c_ret ?_))
  refine p_ret F rfl (.cons (.tmp (F.ev rfl)) .nil) ?_
  exact ⟨rfl, M.ext⟩
set_option maxHeartbeats 1000000 in
theorem rcmpPf_c (p : List Int) (n : Int) (q : List Int) (m : Int) (hp : IsIP p) (hq : IsIP q) (W : World) : Cal Tryz.prog 126 [.agg (pfC p n).toArray, .agg (pfC q m).toArray].toArray W fun v w' => v = .int .i64 (orI (cmpL p q) (cmpI n m)) ∧ Ext [] W w' := by
  have e1 : seg (pfC p n) 0 16 = some (ipC p) := seg_pf0 hp.len n
  have e2 : seg (pfC q m) 0 16 = some (ipC q) := seg_pf0 hq.len m
  have e3 : nth (pfC p n) 16 = some (.int .i64 n) := nth_pf hp.len n
  have e4 : nth (pfC q m) 16 = some (.int .i64 m) := nth_pf hq.len m
  unfold orI cmpI
  refine fn_ofM (n := 24) [] Tryz.func126 rfl rfl rfl ?_
  intro a w F M hwW
  refine c_seq ?_
  refine c_region ?_
  (refine sD F (o_box M (F.ev rfl) rfl ?_); clear F M; intro b2 w M a F)
  (refine sD F (o_box M (F.ev rfl) rfl ?_); clear F M; intro b3 w M a F)
  refine sD F (o_assign (F.ev rfl) ?_); clear F a; intro a F
  with_reducible refine l_nil (q_then (c_seq (c_seq (c_region ?_))))
  refine sD F (o_fieldAddr (F.ev rfl) ?_); clear F a; intro a F
  refine sD F (o_loadA M (F.ev rfl) (by repeat constructor) (by first | assumption | rfl) ?_); clear F a; intro a F
  refine sD F (o_fieldAddr (F.ev rfl) ?_); clear F a; intro a F
  refine sD F (o_loadA M (F.ev rfl) (by repeat constructor) (by first | assumption | rfl) ?_); clear F a; intro a F
  (refine sD F (o_call (F.ev rfl) (F.evs rfl) (Cal.mono (rcompareIP_c p q hp hq _) ?_)); clear F; clear a; rintro _ w ⟨rfl, hE⟩ a F; replace M := M.later hE; clear hE)
  by_cases h0 : cmpL p q = 0
  · rw [if_pos h0]
    by_cases h1 : n < m
    · rw [if_pos h1]
      refine sD F (o_assign (F.ev rfl) ?_); clear F a; intro a F
      with_reducible refine l_nil (q_then (c_seq (c_region ?_)))
      refine sD F (o_move (F.ev rfl) ?_); clear F a; intro a F
      refine sD F (o_neqF (F.ev rfl) (F.ev rfl) (by omega) ?_); clear F a; intro a F
      with_reducible refine l_nil (q_then ?_)
      refine c_false F rfl rfl ?_
      with_reducible refine c_skip (q_then (c_seq (c_seq (c_region ?_))))
      refine sD F (o_fieldAddr (F.ev rfl) ?_); clear F a; intro a F
      refine sD F (o_load1 M (F.ev rfl) (by repeat constructor) (by first | assumption | rfl) ?_); clear F a; intro a F
      refine sD F (o_fieldAddr (F.ev rfl) ?_); clear F a; intro a F
      refine sD F (o_load1 M (F.ev rfl) (by repeat constructor) (by first | assumption | rfl) ?_); clear F a; intro a F
      refine sD F (o_lssT (F.ev rfl) (F.ev rfl) (by omega) ?_); clear F a; intro a F
      with_reducible refine l_nil (q_then ?_)
      refine c_true F rfl rfl ?_
      refine c_seq (c_region ?_)
      refine sD F (o_assign (F.ev rfl) ?_); clear F a; intro a F
      with_reducible refine l_nil (q_then (c_ret (q_thenR ?_)))
      refine p_ret F rfl (.cons (.tmp (F.ev rfl)) .nil) ?_
      exact ⟨rfl, M.ext⟩
    · rw [if_neg h1]
      by_cases h2 : m < n
      · rw [if_pos h2]
        refine sD F (o_assign (F.ev rfl) ?_); clear F a; intro a F
        with_reducible refine l_nil (q_then (c_seq (c_region ?_)))
        refine sD F (o_move (F.ev rfl) ?_); clear F a; intro a F
        refine sD F (o_neqF (F.ev rfl) (F.ev rfl) (by omega) ?_); clear F a; intro a F
        with_reducible refine l_nil (q_then ?_)
        refine c_false F rfl rfl ?_
        with_reducible refine c_skip (q_then (c_seq (c_seq (c_region ?_))))
        refine sD F (o_fieldAddr (F.ev rfl) ?_); clear F a; intro a F
        refine sD F (o_load1 M (F.ev rfl) (by repeat constructor) (by first | assumption | rfl) ?_); clear F a; intro a F
        refine sD F (o_fieldAddr (F.ev rfl) ?_); clear F a; intro a F
        refine sD F (o_load1 M (F.ev rfl) (by repeat constructor) (by first | assumption | rfl) ?_); clear F a; intro a F
        refine sD F (o_lssF (F.ev rfl) (F.ev rfl) (by omega) ?_); clear F a; intro a F
        with_reducible refine l_nil (q_then ?_)
        refine c_false F rfl rfl ?_
        with_reducible refine c_skip (q_then (c_seq (c_seq (c_region ?_))))
        refine sD F (o_fieldAddr (F.ev rfl) ?_); clear F a; intro a F
        refine sD F (o_load1 M (F.ev rfl) (by repeat constructor) (by first | assumption | rfl) ?_); clear F a; intro a F
        refine sD F (o_fieldAddr (F.ev rfl) ?_); clear F a; intro a F
        refine sD F (o_load1 M (F.ev rfl) (by repeat constructor) (by first | assumption | rfl) ?_); clear F a; intro a F
        refine sD F (o_gtrT (F.ev rfl) (F.ev rfl) (by omega) ?_); clear F a; intro a F
        with_reducible refine l_nil (q_then ?_)
        refine c_true F rfl rfl ?_
        refine c_seq (c_region ?_)
        refine sD F (o_assign (F.ev rfl) ?_); clear F a; intro a F
        with_reducible refine l_nil (q_then (c_ret (q_thenR ?_)))
        refine p_ret F rfl (.cons (.tmp (F.ev rfl)) .nil) ?_
        exact ⟨rfl, M.ext⟩
      · rw [if_neg h2]
        refine sD F (o_assign (F.ev rfl) ?_); clear F a; intro a F
        with_reducible refine l_nil (q_then (c_seq (c_region ?_)))
        refine sD F (o_move (F.ev rfl) ?_); clear F a; intro a F
        refine sD F (o_neqF (F.ev rfl) (F.ev rfl) (by omega) ?_); clear F a; intro a F
        with_reducible refine l_nil (q_then ?_)
        refine c_false F rfl rfl ?_
        with_reducible refine c_skip (q_then (c_seq (c_seq (c_region ?_))))
        refine sD F (o_fieldAddr (F.ev rfl) ?_); clear F a; intro a F
        refine sD F (o_load1 M (F.ev rfl) (by repeat constructor) (by first | assumption | rfl) ?_); clear F a; intro a F
        refine sD F (o_fieldAddr (F.ev rfl) ?_); clear F a; intro a F
        refine sD F (o_load1 M (F.ev rfl) (by repeat constructor) (by first | assumption | rfl) ?_); clear F a; intro a F
        refine sD F (o_lssF (F.ev rfl) (F.ev rfl) (by omega) ?_); clear F a; intro a F
        with_reducible refine l_nil (q_then ?_)
        refine c_false F rfl rfl ?_
        with_reducible refine c_skip (q_then (c_seq (c_seq (c_region ?_))))
        refine sD F (o_fieldAddr (F.ev rfl) ?_); clear F a; intro a F
        refine sD F (o_load1 M (F.ev rfl) (by repeat constructor) (by first | assumption | rfl) ?_); clear F a; intro a F
        refine sD F (o_fieldAddr (F.ev rfl) ?_); clear F a; intro a F
        refine sD F (o_load1 M (F.ev rfl) (by repeat constructor) (by first | assumption | rfl) ?_); clear F a; intro a F
        refine sD F (o_gtrF (F.ev rfl) (F.ev rfl) (by omega) ?_); clear F a; intro a F
        with_reducible refine l_nil (q_then ?_)
        refine c_false F rfl rfl ?_
        with_reducible refine c_skip (q_then (c_seq (c_region ?_)))
        refine sD F (o_assign (F.ev rfl) ?_); clear F a; intro a F
        with_reducible refine l_nil (q_then (c_ret ?_))
        refine p_ret F rfl (.cons (.tmp (F.ev rfl)) .nil) ?_
        exact ⟨rfl, M.ext⟩
  · rw [if_neg h0]
    refine sD F (o_assign (F.ev rfl) ?_); clear F a; intro a F
    with_reducible refine l_nil (q_then (c_seq (c_region ?_)))
    refine sD F (o_move (F.ev rfl) ?_); clear F a; intro a F
    refine sD F (o_neqT (F.ev rfl) (F.ev rfl) (by omega) ?_); clear F a; intro a F
    with_reducible refine l_nil (q_then ?_)
    refine c_true F rfl rfl ?_
    refine c_seq (c_region ?_)
    refine sD F (o_move (F.ev rfl) ?_); clear F a; intro a F
    refine sD F (o_assign (F.ev rfl) ?_); clear F a; intro a F
    with_reducible refine l_nil (q_then (c_ret (q_thenR ?_)))
    refine p_ret F rfl (.cons (.tmp (F.ev rfl)) .nil) ?_
    exact ⟨rfl, M.ext⟩
theorem orI_assoc (a b c : Int) : orI (orI a b) c = orI a (orI b c) := by
  unfold orI
  repeat' split
  all_goals simp_all
set_option maxHeartbeats 1000000 in
theorem rcompare_c (x y : DstV) (ha : IsDv x) (hb : IsDv y) (W : World) : Cal Tryz.prog 87 [.agg (dvC x).toArray, .agg (dvC y).toArray].toArray W fun v w' => v = .int .i64 (cmpD x y) ∧ Ext [] W w' := by
  have a1 := dv_dst ha
  have a3 := dv_src ha
  have a5 := dv_rt ha
  have c1 := dv_dst hb
  have c3 := dv_src hb
  have c5 := dv_rt hb
  have hr : cmpD x y = orI (orI (cmpL x.dip y.dip) (cmpI x.dbits y.dbits)) (orI (orI (cmpL x.sip y.sip) (cmpI x.sbits y.sbits)) (cmpI x.rt y.rt)) := by
    rw [cmpD_or ha hb, orI_assoc, orI_assoc]
  rw [hr]
  obtain ⟨p, hp⟩ : ∃ p, p = orI (cmpL x.dip y.dip) (cmpI x.dbits y.dbits) := ⟨_, rfl⟩
  obtain ⟨q, hq⟩ : ∃ q, q = orI (cmpL x.sip y.sip) (cmpI x.sbits y.sbits) := ⟨_, rfl⟩
  rw [← hp, ← hq]
  have k1 := rcmpPf_c x.dip x.dbits y.dip y.dbits ha.1 hb.1
  have k2 := rcmpPf_c x.sip x.sbits y.sip y.sbits ha.2 hb.2
  rw [← hp] at k1
  rw [← hq] at k2
  unfold orI cmpI
  refine fn_ofM (n := 33) [] Tryz.func87 rfl rfl rfl ?_
  intro a w F M hwW
  refine c_seq ?_
  refine c_region ?_
  (refine sD F (o_box M (F.ev rfl) rfl ?_); clear F M; intro b2 w M a F)
  (refine sD F (o_box M (F.ev rfl) rfl ?_); clear F M; intro b3 w M a F)
  refine sD F (o_assign (F.ev rfl) ?_); clear F a; intro a F
  with_reducible refine l_nil (q_then (c_seq (c_seq (c_region ?_))))
  refine sD F (o_fieldAddr (F.ev rfl) ?_); clear F a; intro a F
  refine sD F (o_loadA M (F.ev rfl) (by repeat constructor) (by first | assumption | rfl) ?_); clear F a; intro a F
  refine sD F (o_fieldAddr (F.ev rfl) ?_); clear F a; intro a F
  refine sD F (o_loadA M (F.ev rfl) (by repeat constructor) (by first | assumption | rfl) ?_); clear F a; intro a F
  (refine sD F (o_call (F.ev rfl) (F.evs rfl) (Cal.mono (k1 _) ?_)); clear F; clear a; rintro _ w ⟨rfl, hE⟩ a F; replace M := M.later hE; clear hE)
  by_cases h0 : p = 0
  · rw [if_pos h0]
    refine sD F (o_assign (F.ev rfl) ?_); clear F a; intro a F
    with_reducible refine l_nil (q_then (c_seq (c_region ?_)))
    refine sD F (o_move (F.ev rfl) ?_); clear F a; intro a F
    refine sD F (o_neqF (F.ev rfl) (F.ev rfl) (by omega) ?_); clear F a; intro a F
    with_reducible refine l_nil (q_then ?_)
    refine c_false F rfl rfl ?_
    with_reducible refine c_skip (q_then (c_seq (c_seq (c_region ?_))))
    refine sD F (o_fieldAddr (F.ev rfl) ?_); clear F a; intro a F
    refine sD F (o_loadA M (F.ev rfl) (by repeat constructor) (by first | assumption | rfl) ?_); clear F a; intro a F
    refine sD F (o_fieldAddr (F.ev rfl) ?_); clear F a; intro a F
    refine sD F (o_loadA M (F.ev rfl) (by repeat constructor) (by first | assumption | rfl) ?_); clear F a; intro a F
    (refine sD F (o_call (F.ev rfl) (F.evs rfl) (Cal.mono (k2 _) ?_)); clear F; clear a; rintro _ w ⟨rfl, hE⟩ a F; replace M := M.later hE; clear hE)
    by_cases h1 : q = 0
    · rw [if_pos h1]
      by_cases h2 : x.rt < y.rt
      · rw [if_pos h2]
        refine sD F (o_assign (F.ev rfl) ?_); clear F a; intro a F
        with_reducible refine l_nil (q_then (c_seq (c_region ?_)))
        refine sD F (o_move (F.ev rfl) ?_); clear F a; intro a F
        refine sD F (o_neqF (F.ev rfl) (F.ev rfl) (by omega) ?_); clear F a; intro a F
        with_reducible refine l_nil (q_then ?_)
        refine c_false F rfl rfl ?_
        with_reducible refine c_skip (q_then (c_seq (c_seq (c_region ?_))))
        refine sD F (o_fieldAddr (F.ev rfl) ?_); clear F a; intro a F
        refine sD F (o_load1 M (F.ev rfl) (by repeat constructor) (by first | assumption | rfl) ?_); clear F a; intro a F
        refine sD F (o_fieldAddr (F.ev rfl) ?_); clear F a; intro a F
        refine sD F (o_load1 M (F.ev rfl) (by repeat constructor) (by first | assumption | rfl) ?_); clear F a; intro a F
        refine sD F (o_lssT (F.ev rfl) (F.ev rfl) (by omega) ?_); clear F a; intro a F
        with_reducible refine l_nil (q_then ?_)
        refine c_true F rfl rfl ?_
        refine c_seq (c_region ?_)
        refine sD F (o_assign (F.ev rfl) ?_); clear F a; intro a F
        with_reducible refine l_nil (q_then (c_ret (q_thenR ?_)))
        refine p_ret F rfl (.cons (.tmp (F.ev rfl)) .nil) ?_
        exact ⟨rfl, M.ext⟩
      · rw [if_neg h2]
        by_cases h3 : y.rt < x.rt
        · rw [if_pos h3]
          refine sD F (o_assign (F.ev rfl) ?_); clear F a; intro a F
          with_reducible refine l_nil (q_then (c_seq (c_region ?_)))
          refine sD F (o_move (F.ev rfl) ?_); clear F a; intro a F
          refine sD F (o_neqF (F.ev rfl) (F.ev rfl) (by omega) ?_); clear F a; intro a F
          with_reducible refine l_nil (q_then ?_)
          refine c_false F rfl rfl ?_
          with_reducible refine c_skip (q_then (c_seq (c_seq (c_region ?_))))
          refine sD F (o_fieldAddr (F.ev rfl) ?_); clear F a; intro a F
          refine sD F (o_load1 M (F.ev rfl) (by repeat constructor) (by first | assumption | rfl) ?_); clear F a; intro a F
          refine sD F (o_fieldAddr (F.ev rfl) ?_); clear F a; intro a F
          refine sD F (o_load1 M (F.ev rfl) (by repeat constructor) (by first | assumption | rfl) ?_); clear F a; intro a F
          refine sD F (o_lssF (F.ev rfl) (F.ev rfl) (by omega) ?_); clear F a; intro a F
          with_reducible refine l_nil (q_then ?_)
          refine c_false F rfl rfl ?_
          with_reducible refine c_skip (q_then (c_seq (c_seq (c_region ?_))))
          refine sD F (o_fieldAddr (F.ev rfl) ?_); clear F a; intro a F
          refine sD F (o_load1 M (F.ev rfl) (by repeat constructor) (by first | assumption | rfl) ?_); clear F a; intro a F
          refine sD F (o_fieldAddr (F.ev rfl) ?_); clear F a; intro a F
          refine sD F (o_load1 M (F.ev rfl) (by repeat constructor) (by first | assumption | rfl) ?_); clear F a; intro a F
          refine sD F (o_gtrT (F.ev rfl) (F.ev rfl) (by omega) ?_); clear F a; intro a F
          with_reducible refine l_nil (q_then ?_)
          refine c_true F rfl rfl ?_
          refine c_seq (c_region ?_)
          refine sD F (o_assign (F.ev rfl) ?_); clear F a; intro a F
          with_reducible refine l_nil (q_then (c_ret (q_thenR ?_)))
          refine p_ret F rfl (.cons (.tmp (F.ev rfl)) .nil) ?_
          exact ⟨rfl, M.ext⟩
        · rw [if_neg h3]
          refine sD F (o_assign (F.ev rfl) ?_); clear F a; intro a F
          with_reducible refine l_nil (q_then (c_seq (c_region ?_)))
          refine sD F (o_move (F.ev rfl) ?_); clear F a; intro a F
          refine sD F (o_neqF (F.ev rfl) (F.ev rfl) (by omega) ?_); clear F a; intro a F
          with_reducible refine l_nil (q_then ?_)
          refine c_false F rfl rfl ?_
          with_reducible refine c_skip (q_then (c_seq (c_seq (c_region ?_))))
          refine sD F (o_fieldAddr (F.ev rfl) ?_); clear F a; intro a F
          refine sD F (o_load1 M (F.ev rfl) (by repeat constructor) (by first | assumption | rfl) ?_); clear F a; intro a F
          refine sD F (o_fieldAddr (F.ev rfl) ?_); clear F a; intro a F
          refine sD F (o_load1 M (F.ev rfl) (by repeat constructor) (by first | assumption | rfl) ?_); clear F a; intro a F
          refine sD F (o_lssF (F.ev rfl) (F.ev rfl) (by omega) ?_); clear F a; intro a F
          with_reducible refine l_nil (q_then ?_)
          refine c_false F rfl rfl ?_
          with_reducible refine c_skip (q_then (c_seq (c_seq (c_region ?_))))
          refine sD F (o_fieldAddr (F.ev rfl) ?_); clear F a; intro a F
          refine sD F (o_load1 M (F.ev rfl) (by repeat constructor) (by first | assumption | rfl) ?_); clear F a; intro a F
          refine sD F (o_fieldAddr (F.ev rfl) ?_); clear F a; intro a F
          refine sD F (o_load1 M (F.ev rfl) (by repeat constructor) (by first | assumption | rfl) ?_); clear F a; intro a F
          refine sD F (o_gtrF (F.ev rfl) (F.ev rfl) (by omega) ?_); clear F a; intro a F
          with_reducible refine l_nil (q_then ?_)
          refine c_false F rfl rfl ?_
          with_reducible refine c_skip (q_then (c_seq (c_region ?_)))
          refine sD F (o_assign (F.ev rfl) ?_); clear F a; intro a F
          with_reducible refine l_nil (q_then (c_ret ?_))
          refine p_ret F rfl (.cons (.tmp (F.ev rfl)) .nil) ?_
          exact ⟨rfl, M.ext⟩
    · rw [if_neg h1]
      refine sD F (o_assign (F.ev rfl) ?_); clear F a; intro a F
      with_reducible refine l_nil (q_then (c_seq (c_region ?_)))
      refine sD F (o_move (F.ev rfl) ?_); clear F a; intro a F
      refine sD F (o_neqT (F.ev rfl) (F.ev rfl) (by omega) ?_); clear F a; intro a F
      with_reducible refine l_nil (q_then ?_)
      refine c_true F rfl rfl ?_
      refine c_seq (c_region ?_)
      refine sD F (o_move (F.ev rfl) ?_); clear F a; intro a F
      refine sD F (o_assign (F.ev rfl) ?_); clear F a; intro a F
      with_reducible refine l_nil (q_then (c_ret (q_thenR ?_)))
      refine p_ret F rfl (.cons (.tmp (F.ev rfl)) .nil) ?_
      exact ⟨rfl, M.ext⟩
  · rw [if_neg h0]
    refine sD F (o_assign (F.ev rfl) ?_); clear F a; intro a F
    with_reducible refine l_nil (q_then (c_seq (c_region ?_)))
    refine sD F (o_move (F.ev rfl) ?_); clear F a; intro a F
    refine sD F (o_neqT (F.ev rfl) (F.ev rfl) (by omega) ?_); clear F a; intro a F
    with_reducible refine l_nil (q_then ?_)
    refine c_true F rfl rfl ?_
    refine c_seq (c_region ?_)
    refine sD F (o_move (F.ev rfl) ?_); clear F a; intro a F
    refine sD F (o_assign (F.ev rfl) ?_); clear F a; intro a F
    with_reducible refine l_nil (q_then (c_ret (q_thenR ?_)))
    refine p_ret F rfl (.cons (.tmp (F.ev rfl)) .nil) ?_
    exact ⟨rfl, M.ext⟩
end Go.Proofs.YtilgoepokaaleaaGreat
/-! Y4 -/
namespace Go.Proofs.YtilgoepokaaleaaGreat
set_option linter.unusedVariables false
set_option linter.unusedSimpArgs false
open Go.RowKit
attribute [local irreducible] OpTo wpListIn Code.wpIn MW Cal
theorem rng_f {p : Nat → Bool} {n i : Nat} (hi : i < n) (h : p i = false) : (List.range n).all p = false := by
  rw [List.all_eq_false]
  exact ⟨i, List.mem_range.2 hi, by simp [h]⟩
theorem rng_t {p : Nat → Bool} {n : Nat} (h : ∀ i, i < n → p i = true) : (List.range n).all p = true := by
  rw [List.all_eq_true]
  exact fun i hi => h i (List.mem_range.1 hi)
theorem SlAt.one {W : World} {sz n : Nat} {v : Value} {xs : List Value} (h : SlAt W sz v n xs) : v.oneCell' = true := by
  obtain ⟨p, cap, rfl, _⟩ := h
  rfl
end Go.Proofs.YtilgoepokaaleaaGreat
/-! UOpen3 -/
namespace Go.Proofs.YtilgoepokaaleaaGreat
set_option linter.unusedVariables false
set_option linter.unusedSimpArgs false
open Go.ChangeShapes Go.WideShapes Go.ChangeAt Go.RowKit
section
variable {H : Type} {enc : TypeId × Value → H} {w : World} {base : Nat} {sp : Nat → Bool} {held : Bool}
end
section
variable {H : Type} {enc : TypeId × Value → H} {w : World} {r : Reach} {b0 base : Nat} {sp : Nat → Bool} {held : Bool} {v : Value} {d : DataW H} {p : List MemPlace}
theorem agg_of {P : Program} {t : TypeId} (ht : isAggT P t = true) (hval : Value.okWide P w r b0 t v) : ∃ cs : List Value, v = .agg cs.toArray := by
  unfold isAggT at ht
  unfold Value.okWide at hval
  split at ht
  · rename_i hu; rw [hu] at hval; obtain ⟨cs, h, _⟩ := hval; exact ⟨cs.toList, by simpa using h⟩
  · rename_i hu; rw [hu] at hval; obtain ⟨cs, h, _⟩ := hval; exact ⟨cs.toList, by simpa using h⟩
  · cases ht
end
end Go.Proofs.YtilgoepokaaleaaGreat
/-! UOpen4 -/
namespace Go.Proofs.YtilgoepokaaleaaGreat
set_option linter.unusedVariables false
set_option linter.unusedSimpArgs false
open Go.ChangeShapes Go.WideShapes Go.ChangeAt Go.RowKit
section
variable {H : Type} {enc : TypeId × Value → H} {w : World} {base : Nat} {sp : Nat → Bool} {held : Bool}
set_option maxRecDepth 100000 in
theorem dec_di (n : Nat) (cs : List Value) (y : DataW H × List MemPlace) (h : DataW.trod enc Tryz.prog w base sp held n 48 cs = some y) : ∃ x : DisV, cs = diC x := by
  have hw := open_leaf 8 48 [.i .u16, .i .i64] (by kernel_rfl) n cs y h (.inl (by kernel_rfl))
  obtain ⟨x1, c2, rfl, g1, h3⟩ := wfK_cons hw
  obtain ⟨x2, c3, rfl, g2, h4⟩ := wfK_cons h3
  obtain rfl := wfK_nil h4
  obtain ⟨n1, rfl, _, _⟩ := wfV_int g1
  obtain ⟨n2, rfl, _, _⟩ := wfV_int g2
  exact ⟨⟨n1, n2⟩, rfl⟩
end
section
variable {H : Type} {enc : TypeId × Value → H} {w : World} {r : Reach} {b0 base : Nat} {sp : Nat → Bool} {held : Bool} {v : Value} {d : DataW H} {p : List MemPlace}
set_option maxRecDepth 100000 in
theorem open_di (hval : Value.okWide Tryz.prog w r b0 48 v) (h : DataW.Trod enc Tryz.prog w base sp held 48 v d p) : ∃ x : DisV, v = .agg (diC x).toArray := by
  obtain ⟨cs, rfl⟩ := agg_of (by kernel_rfl) hval
  obtain ⟨fuel, hf⟩ := h
  obtain ⟨x, h3⟩ := dec_di fuel _ _ hf
  exact ⟨x, by rw [← h3]; simp [Value.cells]⟩
end
end Go.Proofs.YtilgoepokaaleaaGreat
/-! Z1 -/
namespace Go.Proofs.YtilgoepokaaleaaGreat
set_option linter.unusedVariables false
set_option linter.unusedSimpArgs false
open Go.RowKit
/-! RouV -/
structure RouV where
  to : DstV
  nb : Int
  said : DisV
  til : Int
  deriving DecidableEq
def roC (o : RouV) : List Value := dvC o.to ++ ([.int .u64 o.nb] ++ (diC o.said ++ ([.int .i64 o.til])))
def IsRo (o : RouV) : Prop := IsDv o.to ∧ IsDi o.said
theorem ro_len {o : RouV} (h : IsRo o) : (roC o).length = 39 := by
  obtain ⟨⟨f_to_dip, f_to_dbits, f_to_sip, f_to_sbits, f_to_rt⟩, f_nb, ⟨f_said_seq, f_said_met⟩, f_til⟩ := o
  obtain ⟨x0_0, x0_1, x0_2, x0_3, x0_4, x0_5, x0_6, x0_7, x0_8, x0_9, x0_10, x0_11, x0_12, x0_13, x0_14, x0_15, e0⟩ := len16 (show f_to_dip.length = 16 from (h.1.1).len)
  obtain ⟨x1_0, x1_1, x1_2, x1_3, x1_4, x1_5, x1_6, x1_7, x1_8, x1_9, x1_10, x1_11, x1_12, x1_13, x1_14, x1_15, e1⟩ := len16 (show f_to_sip.length = 16 from (h.1.2).len)
  subst e0
  subst e1
  rfl
theorem ro_all {o : RouV} (h : IsRo o) : seg (roC o) 0 39 = some (roC o) := sg_all (ro_len h)
theorem ro_to {o : RouV} (h : IsRo o) : seg (roC o) 0 35 = some (dvC o.to) := by
  obtain ⟨⟨f_to_dip, f_to_dbits, f_to_sip, f_to_sbits, f_to_rt⟩, f_nb, ⟨f_said_seq, f_said_met⟩, f_til⟩ := o
  obtain ⟨x0_0, x0_1, x0_2, x0_3, x0_4, x0_5, x0_6, x0_7, x0_8, x0_9, x0_10, x0_11, x0_12, x0_13, x0_14, x0_15, e0⟩ := len16 (show f_to_dip.length = 16 from (h.1.1).len)
  obtain ⟨x1_0, x1_1, x1_2, x1_3, x1_4, x1_5, x1_6, x1_7, x1_8, x1_9, x1_10, x1_11, x1_12, x1_13, x1_14, x1_15, e1⟩ := len16 (show f_to_sip.length = 16 from (h.1.2).len)
  subst e0
  subst e1
  rfl
theorem ro_put_to_rt {o : RouV} (h : IsRo o) (z : Int) : put (roC o) 34 [.int .u64 z] = some (roC { o with to := { o.to with rt := z } }) := by
  obtain ⟨⟨f_to_dip, f_to_dbits, f_to_sip, f_to_sbits, f_to_rt⟩, f_nb, ⟨f_said_seq, f_said_met⟩, f_til⟩ := o
  obtain ⟨x0_0, x0_1, x0_2, x0_3, x0_4, x0_5, x0_6, x0_7, x0_8, x0_9, x0_10, x0_11, x0_12, x0_13, x0_14, x0_15, e0⟩ := len16 (show f_to_dip.length = 16 from (h.1.1).len)
  obtain ⟨x1_0, x1_1, x1_2, x1_3, x1_4, x1_5, x1_6, x1_7, x1_8, x1_9, x1_10, x1_11, x1_12, x1_13, x1_14, x1_15, e1⟩ := len16 (show f_to_sip.length = 16 from (h.1.2).len)
  subst e0
  subst e1
  rfl
theorem ro_nb {o : RouV} (h : IsRo o) : nth (roC o) 35 = some (.int .u64 o.nb) := by
  obtain ⟨⟨f_to_dip, f_to_dbits, f_to_sip, f_to_sbits, f_to_rt⟩, f_nb, ⟨f_said_seq, f_said_met⟩, f_til⟩ := o
  obtain ⟨x0_0, x0_1, x0_2, x0_3, x0_4, x0_5, x0_6, x0_7, x0_8, x0_9, x0_10, x0_11, x0_12, x0_13, x0_14, x0_15, e0⟩ := len16 (show f_to_dip.length = 16 from (h.1.1).len)
  obtain ⟨x1_0, x1_1, x1_2, x1_3, x1_4, x1_5, x1_6, x1_7, x1_8, x1_9, x1_10, x1_11, x1_12, x1_13, x1_14, x1_15, e1⟩ := len16 (show f_to_sip.length = 16 from (h.1.2).len)
  subst e0
  subst e1
  rfl
theorem ro_put_nb {o : RouV} (h : IsRo o) (z : Int) : put (roC o) 35 [.int .u64 z] = some (roC { o with nb := z }) := by
  obtain ⟨⟨f_to_dip, f_to_dbits, f_to_sip, f_to_sbits, f_to_rt⟩, f_nb, ⟨f_said_seq, f_said_met⟩, f_til⟩ := o
  obtain ⟨x0_0, x0_1, x0_2, x0_3, x0_4, x0_5, x0_6, x0_7, x0_8, x0_9, x0_10, x0_11, x0_12, x0_13, x0_14, x0_15, e0⟩ := len16 (show f_to_dip.length = 16 from (h.1.1).len)
  obtain ⟨x1_0, x1_1, x1_2, x1_3, x1_4, x1_5, x1_6, x1_7, x1_8, x1_9, x1_10, x1_11, x1_12, x1_13, x1_14, x1_15, e1⟩ := len16 (show f_to_sip.length = 16 from (h.1.2).len)
  subst e0
  subst e1
  rfl
theorem ro_said {o : RouV} (h : IsRo o) : seg (roC o) 36 2 = some (diC o.said) := by
  obtain ⟨⟨f_to_dip, f_to_dbits, f_to_sip, f_to_sbits, f_to_rt⟩, f_nb, ⟨f_said_seq, f_said_met⟩, f_til⟩ := o
  obtain ⟨x0_0, x0_1, x0_2, x0_3, x0_4, x0_5, x0_6, x0_7, x0_8, x0_9, x0_10, x0_11, x0_12, x0_13, x0_14, x0_15, e0⟩ := len16 (show f_to_dip.length = 16 from (h.1.1).len)
  obtain ⟨x1_0, x1_1, x1_2, x1_3, x1_4, x1_5, x1_6, x1_7, x1_8, x1_9, x1_10, x1_11, x1_12, x1_13, x1_14, x1_15, e1⟩ := len16 (show f_to_sip.length = 16 from (h.1.2).len)
  subst e0
  subst e1
  rfl
theorem ro_said_met {o : RouV} (h : IsRo o) : nth (roC o) 37 = some (.int .i64 o.said.met) := by
  obtain ⟨⟨f_to_dip, f_to_dbits, f_to_sip, f_to_sbits, f_to_rt⟩, f_nb, ⟨f_said_seq, f_said_met⟩, f_til⟩ := o
  obtain ⟨x0_0, x0_1, x0_2, x0_3, x0_4, x0_5, x0_6, x0_7, x0_8, x0_9, x0_10, x0_11, x0_12, x0_13, x0_14, x0_15, e0⟩ := len16 (show f_to_dip.length = 16 from (h.1.1).len)
  obtain ⟨x1_0, x1_1, x1_2, x1_3, x1_4, x1_5, x1_6, x1_7, x1_8, x1_9, x1_10, x1_11, x1_12, x1_13, x1_14, x1_15, e1⟩ := len16 (show f_to_sip.length = 16 from (h.1.2).len)
  subst e0
  subst e1
  rfl
theorem ro_put_said_met {o : RouV} (h : IsRo o) (z : Int) : put (roC o) 37 [.int .i64 z] = some (roC { o with said := { o.said with met := z } }) := by
  obtain ⟨⟨f_to_dip, f_to_dbits, f_to_sip, f_to_sbits, f_to_rt⟩, f_nb, ⟨f_said_seq, f_said_met⟩, f_til⟩ := o
  obtain ⟨x0_0, x0_1, x0_2, x0_3, x0_4, x0_5, x0_6, x0_7, x0_8, x0_9, x0_10, x0_11, x0_12, x0_13, x0_14, x0_15, e0⟩ := len16 (show f_to_dip.length = 16 from (h.1.1).len)
  obtain ⟨x1_0, x1_1, x1_2, x1_3, x1_4, x1_5, x1_6, x1_7, x1_8, x1_9, x1_10, x1_11, x1_12, x1_13, x1_14, x1_15, e1⟩ := len16 (show f_to_sip.length = 16 from (h.1.2).len)
  subst e0
  subst e1
  rfl
theorem ro_til {o : RouV} (h : IsRo o) : nth (roC o) 38 = some (.int .i64 o.til) := by
  obtain ⟨⟨f_to_dip, f_to_dbits, f_to_sip, f_to_sbits, f_to_rt⟩, f_nb, ⟨f_said_seq, f_said_met⟩, f_til⟩ := o
  obtain ⟨x0_0, x0_1, x0_2, x0_3, x0_4, x0_5, x0_6, x0_7, x0_8, x0_9, x0_10, x0_11, x0_12, x0_13, x0_14, x0_15, e0⟩ := len16 (show f_to_dip.length = 16 from (h.1.1).len)
  obtain ⟨x1_0, x1_1, x1_2, x1_3, x1_4, x1_5, x1_6, x1_7, x1_8, x1_9, x1_10, x1_11, x1_12, x1_13, x1_14, x1_15, e1⟩ := len16 (show f_to_sip.length = 16 from (h.1.2).len)
  subst e0
  subst e1
  rfl
theorem ro_put_til {o : RouV} (h : IsRo o) (z : Int) : put (roC o) 38 [.int .i64 z] = some (roC { o with til := z }) := by
  obtain ⟨⟨f_to_dip, f_to_dbits, f_to_sip, f_to_sbits, f_to_rt⟩, f_nb, ⟨f_said_seq, f_said_met⟩, f_til⟩ := o
  obtain ⟨x0_0, x0_1, x0_2, x0_3, x0_4, x0_5, x0_6, x0_7, x0_8, x0_9, x0_10, x0_11, x0_12, x0_13, x0_14, x0_15, e0⟩ := len16 (show f_to_dip.length = 16 from (h.1.1).len)
  obtain ⟨x1_0, x1_1, x1_2, x1_3, x1_4, x1_5, x1_6, x1_7, x1_8, x1_9, x1_10, x1_11, x1_12, x1_13, x1_14, x1_15, e1⟩ := len16 (show f_to_sip.length = 16 from (h.1.2).len)
  subst e0
  subst e1
  rfl
theorem ro_one (o : RouV) : (roC o).all (·.oneCell') = true := by
  simp [pfC, ipC, roC, dvC, diC, Value.oneCell']
def roZ : List Value := [.int .u8 0, .int .u8 0, .int .u8 0, .int .u8 0, .int .u8 0, .int .u8 0, .int .u8 0, .int .u8 0, .int .u8 0, .int .u8 0, .int .u8 0, .int .u8 0, .int .u8 0, .int .u8 0, .int .u8 0, .int .u8 0, .int .i64 0, .int .u8 0, .int .u8 0, .int .u8 0, .int .u8 0, .int .u8 0, .int .u8 0, .int .u8 0, .int .u8 0, .int .u8 0, .int .u8 0, .int .u8 0, .int .u8 0, .int .u8 0, .int .u8 0, .int .u8 0, .int .u8 0, .int .i64 0, .int .u64 0, .int .u64 0, .int .u16 0, .int .i64 0, .int .i64 0]
theorem ro_build {o : RouV} (h : IsRo o) : putAll [(0, 35), (35, 1), (36, 2), (38, 1)] roZ [(0, dvC o.to), (1, [.int .u64 o.nb]), (2, diC o.said), (3, [.int .i64 o.til])] = some (roC o) := by
  obtain ⟨⟨f_to_dip, f_to_dbits, f_to_sip, f_to_sbits, f_to_rt⟩, f_nb, ⟨f_said_seq, f_said_met⟩, f_til⟩ := o
  obtain ⟨x0_0, x0_1, x0_2, x0_3, x0_4, x0_5, x0_6, x0_7, x0_8, x0_9, x0_10, x0_11, x0_12, x0_13, x0_14, x0_15, e0⟩ := len16 (show f_to_dip.length = 16 from (h.1.1).len)
  obtain ⟨x1_0, x1_1, x1_2, x1_3, x1_4, x1_5, x1_6, x1_7, x1_8, x1_9, x1_10, x1_11, x1_12, x1_13, x1_14, x1_15, e1⟩ := len16 (show f_to_sip.length = 16 from (h.1.2).len)
  subst e0
  subst e1
  rfl
theorem ro_build1 {o : RouV} (h : IsRo o) : putAll (placesL 1 39) (zerosL roZ (1 * 39)) [(0, roC o)] = some (roC o) := by
  obtain ⟨⟨f_to_dip, f_to_dbits, f_to_sip, f_to_sbits, f_to_rt⟩, f_nb, ⟨f_said_seq, f_said_met⟩, f_til⟩ := o
  obtain ⟨x0_0, x0_1, x0_2, x0_3, x0_4, x0_5, x0_6, x0_7, x0_8, x0_9, x0_10, x0_11, x0_12, x0_13, x0_14, x0_15, e0⟩ := len16 (show f_to_dip.length = 16 from (h.1.1).len)
  obtain ⟨x1_0, x1_1, x1_2, x1_3, x1_4, x1_5, x1_6, x1_7, x1_8, x1_9, x1_10, x1_11, x1_12, x1_13, x1_14, x1_15, e1⟩ := len16 (show f_to_sip.length = 16 from (h.1.2).len)
  subst e0
  subst e1
  rfl
abbrev roK : List LK := [.i .u8, .i .u8, .i .u8, .i .u8, .i .u8, .i .u8, .i .u8, .i .u8, .i .u8, .i .u8, .i .u8, .i .u8, .i .u8, .i .u8, .i .u8, .i .u8, .i .i64, .i .u8, .i .u8, .i .u8, .i .u8, .i .u8, .i .u8, .i .u8, .i .u8, .i .u8, .i .u8, .i .u8, .i .u8, .i .u8, .i .u8, .i .u8, .i .u8, .i .i64, .i .u64, .i .u64, .i .u16, .i .i64, .i .i64]
theorem ro_fits {o : RouV} (h : IsRo o) : fitsK roK (roC o) = true := by
  obtain ⟨⟨f_to_dip, f_to_dbits, f_to_sip, f_to_sbits, f_to_rt⟩, f_nb, ⟨f_said_seq, f_said_met⟩, f_til⟩ := o
  obtain ⟨x0_0, x0_1, x0_2, x0_3, x0_4, x0_5, x0_6, x0_7, x0_8, x0_9, x0_10, x0_11, x0_12, x0_13, x0_14, x0_15, e0⟩ := len16 (show f_to_dip.length = 16 from (h.1.1).len)
  obtain ⟨x1_0, x1_1, x1_2, x1_3, x1_4, x1_5, x1_6, x1_7, x1_8, x1_9, x1_10, x1_11, x1_12, x1_13, x1_14, x1_15, e1⟩ := len16 (show f_to_sip.length = 16 from (h.1.2).len)
  subst e0
  subst e1
  rfl
theorem ro_eq {a b : RouV} (ha : IsRo a) (hb : IsRo b) : eqVs (roC a) (roC b) = decide (a = b) := by
  have l0 := dv_eq (ha.1) (hb.1)
  have m0 : (dvC a.to).length = (dvC b.to).length := by rw [dv_len (ha.1), dv_len (hb.1)]
  have l1 := di_eq (ha.2) (hb.2)
  have m1 : (diC a.said).length = (diC b.said).length := by rw [di_len (ha.2), di_len (hb.2)]
  rw [Bool.eq_iff_iff, decide_eq_true_eq]
  obtain ⟨a_to, a_nb, a_said, a_til⟩ := a
  obtain ⟨b_to, b_nb, b_said, b_til⟩ := b
  dsimp only at l0 l1 m0 m1
  simp only [roC, RouV.mk.injEq]
  rw [eqVs_append _ _ _ _ (by first | rfl | assumption | (simp [pfC, ipC]; assumption))]
  rw [eqVs_append _ _ _ _ (by first | rfl | assumption | (simp [pfC, ipC]; assumption))]
  rw [eqVs_append _ _ _ _ (by first | rfl | assumption | (simp [pfC, ipC]; assumption))]
  rw [l0]
  rw [l1]
  simp [eqVs, eqV, Bool.and_eq_true, beq_iff_eq, Bool.and_true, and_assoc, decide_eq_true_eq, List.cons_append, List.nil_append]
abbrev rosC (l : List RouV) : List Value := encL roC l
theorem ros_len {l : List RouV} (h : ∀ x ∈ l, IsRo x) : ∀ x ∈ l, (roC x).length = 39 := fun x hx => ro_len (h x hx)
theorem ros_one {l : List RouV} : (rosC l).all (·.oneCell') = true := encL_all fun x _ => ro_one x
/-! SrcV -/
structure SrcV where
  to : DstV
  bst : DisV
  til : Int
  deriving DecidableEq
def srC (o : SrcV) : List Value := dvC o.to ++ (diC o.bst ++ ([.int .i64 o.til]))
def IsSr (o : SrcV) : Prop := IsDv o.to ∧ IsDi o.bst
theorem sr_len {o : SrcV} (h : IsSr o) : (srC o).length = 38 := by
  obtain ⟨⟨f_to_dip, f_to_dbits, f_to_sip, f_to_sbits, f_to_rt⟩, ⟨f_bst_seq, f_bst_met⟩, f_til⟩ := o
  obtain ⟨x0_0, x0_1, x0_2, x0_3, x0_4, x0_5, x0_6, x0_7, x0_8, x0_9, x0_10, x0_11, x0_12, x0_13, x0_14, x0_15, e0⟩ := len16 (show f_to_dip.length = 16 from (h.1.1).len)
  obtain ⟨x1_0, x1_1, x1_2, x1_3, x1_4, x1_5, x1_6, x1_7, x1_8, x1_9, x1_10, x1_11, x1_12, x1_13, x1_14, x1_15, e1⟩ := len16 (show f_to_sip.length = 16 from (h.1.2).len)
  subst e0
  subst e1
  rfl
theorem sr_to {o : SrcV} (h : IsSr o) : seg (srC o) 0 35 = some (dvC o.to) := by
  obtain ⟨⟨f_to_dip, f_to_dbits, f_to_sip, f_to_sbits, f_to_rt⟩, ⟨f_bst_seq, f_bst_met⟩, f_til⟩ := o
  obtain ⟨x0_0, x0_1, x0_2, x0_3, x0_4, x0_5, x0_6, x0_7, x0_8, x0_9, x0_10, x0_11, x0_12, x0_13, x0_14, x0_15, e0⟩ := len16 (show f_to_dip.length = 16 from (h.1.1).len)
  obtain ⟨x1_0, x1_1, x1_2, x1_3, x1_4, x1_5, x1_6, x1_7, x1_8, x1_9, x1_10, x1_11, x1_12, x1_13, x1_14, x1_15, e1⟩ := len16 (show f_to_sip.length = 16 from (h.1.2).len)
  subst e0
  subst e1
  rfl
theorem sr_bst {o : SrcV} (h : IsSr o) : seg (srC o) 35 2 = some (diC o.bst) := by
  obtain ⟨⟨f_to_dip, f_to_dbits, f_to_sip, f_to_sbits, f_to_rt⟩, ⟨f_bst_seq, f_bst_met⟩, f_til⟩ := o
  obtain ⟨x0_0, x0_1, x0_2, x0_3, x0_4, x0_5, x0_6, x0_7, x0_8, x0_9, x0_10, x0_11, x0_12, x0_13, x0_14, x0_15, e0⟩ := len16 (show f_to_dip.length = 16 from (h.1.1).len)
  obtain ⟨x1_0, x1_1, x1_2, x1_3, x1_4, x1_5, x1_6, x1_7, x1_8, x1_9, x1_10, x1_11, x1_12, x1_13, x1_14, x1_15, e1⟩ := len16 (show f_to_sip.length = 16 from (h.1.2).len)
  subst e0
  subst e1
  rfl
theorem sr_bst_met {o : SrcV} (h : IsSr o) : nth (srC o) 36 = some (.int .i64 o.bst.met) := by
  obtain ⟨⟨f_to_dip, f_to_dbits, f_to_sip, f_to_sbits, f_to_rt⟩, ⟨f_bst_seq, f_bst_met⟩, f_til⟩ := o
  obtain ⟨x0_0, x0_1, x0_2, x0_3, x0_4, x0_5, x0_6, x0_7, x0_8, x0_9, x0_10, x0_11, x0_12, x0_13, x0_14, x0_15, e0⟩ := len16 (show f_to_dip.length = 16 from (h.1.1).len)
  obtain ⟨x1_0, x1_1, x1_2, x1_3, x1_4, x1_5, x1_6, x1_7, x1_8, x1_9, x1_10, x1_11, x1_12, x1_13, x1_14, x1_15, e1⟩ := len16 (show f_to_sip.length = 16 from (h.1.2).len)
  subst e0
  subst e1
  rfl
theorem sr_til {o : SrcV} (h : IsSr o) : nth (srC o) 37 = some (.int .i64 o.til) := by
  obtain ⟨⟨f_to_dip, f_to_dbits, f_to_sip, f_to_sbits, f_to_rt⟩, ⟨f_bst_seq, f_bst_met⟩, f_til⟩ := o
  obtain ⟨x0_0, x0_1, x0_2, x0_3, x0_4, x0_5, x0_6, x0_7, x0_8, x0_9, x0_10, x0_11, x0_12, x0_13, x0_14, x0_15, e0⟩ := len16 (show f_to_dip.length = 16 from (h.1.1).len)
  obtain ⟨x1_0, x1_1, x1_2, x1_3, x1_4, x1_5, x1_6, x1_7, x1_8, x1_9, x1_10, x1_11, x1_12, x1_13, x1_14, x1_15, e1⟩ := len16 (show f_to_sip.length = 16 from (h.1.2).len)
  subst e0
  subst e1
  rfl
theorem sr_one (o : SrcV) : (srC o).all (·.oneCell') = true := by
  simp [pfC, ipC, srC, dvC, diC, Value.oneCell']
abbrev srsC (l : List SrcV) : List Value := encL srC l
theorem srs_len {l : List SrcV} (h : ∀ x ∈ l, IsSr x) : ∀ x ∈ l, (srC x).length = 38 := fun x hx => sr_len (h x hx)
/-! OptV -/
structure OptV where
  nb : Int
  cost : Int
  deriving DecidableEq
def opC (o : OptV) : List Value := [.int .u64 o.nb, .int .i64 o.cost]
def IsOp (o : OptV) : Prop := True
theorem op_len {o : OptV} (h : IsOp o) : (opC o).length = 2 := by
  obtain ⟨f_nb, f_cost⟩ := o
  rfl
theorem op_all {o : OptV} (h : IsOp o) : seg (opC o) 0 2 = some (opC o) := sg_all (op_len h)
theorem op_nb {o : OptV} (h : IsOp o) : nth (opC o) 0 = some (.int .u64 o.nb) := by
  obtain ⟨f_nb, f_cost⟩ := o
  rfl
theorem op_cost {o : OptV} (h : IsOp o) : nth (opC o) 1 = some (.int .i64 o.cost) := by
  obtain ⟨f_nb, f_cost⟩ := o
  rfl
theorem op_one (o : OptV) : (opC o).all (·.oneCell') = true := by
  simp [pfC, ipC, opC, Value.oneCell']
def opZ : List Value := [.int .u64 0, .int .i64 0]
theorem op_build {o : OptV} (h : IsOp o) : putAll [(0, 1), (1, 1)] opZ [(0, [.int .u64 o.nb]), (1, [.int .i64 o.cost])] = some (opC o) := by
  obtain ⟨f_nb, f_cost⟩ := o
  rfl
theorem op_build1 {o : OptV} (h : IsOp o) : putAll (placesL 1 2) (zerosL opZ (1 * 2)) [(0, opC o)] = some (opC o) := by
  obtain ⟨f_nb, f_cost⟩ := o
  rfl
abbrev opK : List LK := [.i .u64, .i .i64]
theorem op_fits {o : OptV} (h : IsOp o) : fitsK opK (opC o) = true := by
  obtain ⟨f_nb, f_cost⟩ := o
  rfl
theorem op_eq {a b : OptV} (ha : IsOp a) (hb : IsOp b) : eqVs (opC a) (opC b) = decide (a = b) := by
  rw [Bool.eq_iff_iff, decide_eq_true_eq]
  obtain ⟨a_nb, a_cost⟩ := a
  obtain ⟨b_nb, b_cost⟩ := b
  simp only [opC, OptV.mk.injEq]
  simp [eqVs, eqV, Bool.and_eq_true, beq_iff_eq, Bool.and_true, and_assoc, decide_eq_true_eq, List.cons_append, List.nil_append]
abbrev opsC (l : List OptV) : List Value := encL opC l
theorem ops_len {l : List OptV} (h : ∀ x ∈ l, IsOp x) : ∀ x ∈ l, (opC x).length = 2 := fun x hx => op_len (h x hx)
/-! ChoV -/
structure ChoV where
  nb : Int
  cost : Int
  btn : Int
  deriving DecidableEq
def chC (o : ChoV) : List Value := [.int .u64 o.nb, .int .i64 o.cost, .int .i64 o.btn]
def IsCh (o : ChoV) : Prop := True
theorem ch_len {o : ChoV} (h : IsCh o) : (chC o).length = 3 := by
  obtain ⟨f_nb, f_cost, f_btn⟩ := o
  rfl
theorem ch_all {o : ChoV} (h : IsCh o) : seg (chC o) 0 3 = some (chC o) := sg_all (ch_len h)
theorem ch_nb {o : ChoV} (h : IsCh o) : nth (chC o) 0 = some (.int .u64 o.nb) := by
  obtain ⟨f_nb, f_cost, f_btn⟩ := o
  rfl
theorem ch_cost {o : ChoV} (h : IsCh o) : nth (chC o) 1 = some (.int .i64 o.cost) := by
  obtain ⟨f_nb, f_cost, f_btn⟩ := o
  rfl
theorem ch_btn {o : ChoV} (h : IsCh o) : nth (chC o) 2 = some (.int .i64 o.btn) := by
  obtain ⟨f_nb, f_cost, f_btn⟩ := o
  rfl
theorem ch_one (o : ChoV) : (chC o).all (·.oneCell') = true := by
  simp [pfC, ipC, chC, Value.oneCell']
end Go.Proofs.YtilgoepokaaleaaGreat
/-! UOpen5 -/
namespace Go.Proofs.YtilgoepokaaleaaGreat
set_option linter.unusedVariables false
set_option linter.unusedSimpArgs false
open Go.ChangeShapes Go.WideShapes Go.ChangeAt Go.RowKit
section
variable {H : Type} {enc : TypeId × Value → H} {w : World} {base : Nat} {sp : Nat → Bool} {held : Bool}
set_option maxRecDepth 100000 in
theorem dec_dv (n : Nat) (cs : List Value) (y : DataW H × List MemPlace) (h : DataW.trod enc Tryz.prog w base sp held n 45 cs = some y) : ∃ x : DstV, IsDv x ∧ cs = dvC x := by
  have hw := open_leaf 8 45 (List.replicate 16 (.i .u8) ++ (.i .i64 :: (List.replicate 16 (.i .u8) ++ [.i .i64, .i .u64]))) (by kernel_rfl) n cs y h (.inl (by kernel_rfl))
  obtain ⟨c0, c1, rfl, h1, h2⟩ := wfK_split hw
  obtain ⟨a1, rfl, hl1, hb1⟩ := ip_wf c0 16 h1
  obtain ⟨x1, c2, rfl, g1, h3⟩ := wfK_cons h2
  obtain ⟨c3, c4, rfl, h4, h5⟩ := wfK_split (ks := List.replicate 16 (LK.i .u8)) (ks' := [LK.i .i64, .i .u64]) h3
  obtain ⟨a2, rfl, hl2, hb2⟩ := ip_wf c3 16 h4
  obtain ⟨n1, rfl, _, _⟩ := wfV_int g1
  obtain ⟨y0, d0, rfl, k0, r0⟩ := wfK_cons h5
  obtain ⟨m0, rfl, _, _⟩ := wfV_int k0
  obtain ⟨y1, d1, rfl, k1, r1⟩ := wfK_cons r0
  obtain ⟨m1, rfl, _, _⟩ := wfV_int k1
  obtain rfl := wfK_nil r1
  exact ⟨⟨a1, n1, a2, m0, m1⟩, ⟨⟨hl1, hb1⟩, ⟨hl2, hb2⟩⟩, by simp [dvC, pfC]⟩
set_option maxRecDepth 100000 in
theorem dec_ro (n : Nat) (cs : List Value) (y : DataW H × List MemPlace) (h : DataW.trod enc Tryz.prog w base sp held n 53 cs = some y) : ∃ x : RouV, IsRo x ∧ cs = roC x := by
  have hw := open_leaf 8 53 (List.replicate 16 (.i .u8) ++ (.i .i64 :: (List.replicate 16 (.i .u8) ++ [.i .i64, .i .u64, .i .u64, .i .u16, .i .i64, .i .i64]))) (by kernel_rfl) n cs y h (.inl (by kernel_rfl))
  obtain ⟨c0, c1, rfl, h1, h2⟩ := wfK_split hw
  obtain ⟨a1, rfl, hl1, hb1⟩ := ip_wf c0 16 h1
  obtain ⟨x1, c2, rfl, g1, h3⟩ := wfK_cons h2
  obtain ⟨c3, c4, rfl, h4, h5⟩ := wfK_split (ks := List.replicate 16 (LK.i .u8)) (ks' := [LK.i .i64, .i .u64, .i .u64, .i .u16, .i .i64, .i .i64]) h3
  obtain ⟨a2, rfl, hl2, hb2⟩ := ip_wf c3 16 h4
  obtain ⟨n1, rfl, _, _⟩ := wfV_int g1
  obtain ⟨y0, d0, rfl, k0, r0⟩ := wfK_cons h5
  obtain ⟨m0, rfl, _, _⟩ := wfV_int k0
  obtain ⟨y1, d1, rfl, k1, r1⟩ := wfK_cons r0
  obtain ⟨m1, rfl, _, _⟩ := wfV_int k1
  obtain ⟨y2, d2, rfl, k2, r2⟩ := wfK_cons r1
  obtain ⟨m2, rfl, _, _⟩ := wfV_int k2
  obtain ⟨y3, d3, rfl, k3, r3⟩ := wfK_cons r2
  obtain ⟨m3, rfl, _, _⟩ := wfV_int k3
  obtain ⟨y4, d4, rfl, k4, r4⟩ := wfK_cons r3
  obtain ⟨m4, rfl, _, _⟩ := wfV_int k4
  obtain ⟨y5, d5, rfl, k5, r5⟩ := wfK_cons r4
  obtain ⟨m5, rfl, _, _⟩ := wfV_int k5
  obtain rfl := wfK_nil r5
  exact ⟨⟨⟨a1, n1, a2, m0, m1⟩, m2, ⟨m3, m4⟩, m5⟩, ⟨⟨⟨hl1, hb1⟩, ⟨hl2, hb2⟩⟩, trivial⟩, by simp [roC, dvC, diC, pfC]⟩
end
section
variable {H : Type} {enc : TypeId × Value → H} {w : World} {r : Reach} {b0 base : Nat} {sp : Nat → Bool} {held : Bool} {v : Value} {d : DataW H} {p : List MemPlace}
set_option maxRecDepth 100000 in
theorem open_ros (hval : Value.okWide Tryz.prog w r b0 26 v) (h : DataW.Trod enc Tryz.prog w base sp held 26 v d p) : ∃ ls : List RouV, (∀ x ∈ ls, IsRo x) ∧ SlAt w 39 v ls.length (rosC ls) := by
  obtain ⟨a, len, cap, rfl⟩ := okWide_slice Tryz.underlying26 hval
  obtain ⟨fuel, hf⟩ := h
  obtain ⟨v', ls, e, h1, h2, _⟩ := open_slG (sz := 39) Tryz.underlying26 (by kernel_rfl) (by omega) dec_ro hf
  have e' : [Value.slice a len cap] = [v'] := e
  cases e'
  exact ⟨ls, h1, h2⟩
set_option maxRecDepth 100000 in
theorem open_dv (hval : Value.okWide Tryz.prog w r b0 45 v) (h : DataW.Trod enc Tryz.prog w base sp held 45 v d p) : ∃ x : DstV, IsDv x ∧ v = .agg (dvC x).toArray := by
  obtain ⟨cs, rfl⟩ := agg_of (by kernel_rfl) hval
  obtain ⟨fuel, hf⟩ := h
  obtain ⟨x, h1, h3⟩ := dec_dv fuel _ _ hf
  exact ⟨x, h1, by rw [← h3]; simp [Value.cells]⟩
end
end Go.Proofs.YtilgoepokaaleaaGreat
/-! Z2 -/
namespace Go.Proofs.YtilgoepokaaleaaGreat
set_option linter.unusedVariables false
set_option linter.unusedSimpArgs false
open Go.RowKit
section
variable {α : Type}
def vld1 (e1 : α → Bool) (cm : α → α → Int) (l : List α) (i : Nat) : Bool := match l[i]? with
  | none => true
  | some a => e1 a && (decide (i = 0) || match l[i - 1]? with
    | none => true
    | some b => decide (cm b a < 0))
def vldL (n : Nat) (e1 : α → Bool) (cm : α → α → Int) (l : List α) : Bool := decide (l.length ≤ n) && (List.range l.length).all (vld1 e1 cm l)
variable {n : Nat} {e1 : α → Bool} {cm : α → α → Int} {l : List α}
theorem vld1_0 {i : Nat} (h : i < l.length) (h0 : i = 0) : vld1 e1 cm l i = e1 l[i] := by
  subst h0
  simp [vld1, List.getElem?_eq_getElem h]
theorem vld1_s {i : Nat} (h : i < l.length) (h0 : 0 < i) : vld1 e1 cm l i = (e1 l[i] && decide (cm (l[i - 1]'(by omega)) l[i] < 0)) := by
  have : ¬ i = 0 := by omega
  simp [vld1, List.getElem?_eq_getElem h, List.getElem?_eq_getElem (show i - 1 < l.length by omega), this]
theorem vld1_f {i : Nat} (h : i < l.length) (hv : e1 l[i] = false) : vld1 e1 cm l i = false := by
  simp [vld1, List.getElem?_eq_getElem h, hv]
abbrev AscC (cm : α → α → Int) (l : List α) : Prop := l.Pairwise fun a b => cm a b < 0
theorem vldL_iff (tr : ∀ a b c, cm a b < 0 → cm b c < 0 → cm a c < 0) : vldL n e1 cm l = true ↔ l.length ≤ n ∧ (∀ a ∈ l, e1 a = true) ∧ AscC cm l := by
  unfold vldL
  rw [Bool.and_eq_true, decide_eq_true_eq, List.all_eq_true]
  constructor
  · rintro ⟨h1, h2⟩
    have hat : ∀ i (hi : i < l.length), e1 l[i] = true ∧ (0 < i → ∀ h : i - 1 < l.length, cm l[i - 1] l[i] < 0) := by
      intro i hi
      have := h2 i (List.mem_range.2 hi)
      simp only [vld1, List.getElem?_eq_getElem hi, Bool.and_eq_true, Bool.or_eq_true, decide_eq_true_eq] at this
      refine ⟨this.1, fun h0 h => ?_⟩
      rcases this.2 with h3 | h3
      · omega
      · rw [List.getElem?_eq_getElem h] at h3
        simpa using h3
    refine ⟨h1, fun a ha => ?_, ?_⟩
    · obtain ⟨i, hi, rfl⟩ := List.mem_iff_getElem.1 ha
      exact (hat i hi).1
    · refine List.pairwise_iff_getElem.2 ?_
      intro i j hi hj hij
      have key : ∀ n, ∀ (hn : i + 1 + n < l.length), cm l[i] (l[i + 1 + n]'hn) < 0 := by
        intro n
        induction n with
        | zero => intro hn; exact (hat (i + 1) hn).2 (by omega) (by omega)
        | succ n ih =>
          intro hn
          have h3 := (hat (i + 1 + (n + 1)) hn).2 (by omega) (by omega)
          exact tr _ _ _ (ih (by omega)) h3
      have := key (j - i - 1) (by omega)
      simpa [show i + 1 + (j - i - 1) = j by omega] using this
  · rintro ⟨h1, h2, h3⟩
    refine ⟨h1, fun i hi => ?_⟩
    have hi' := List.mem_range.1 hi
    replace h3 := List.pairwise_iff_getElem.1 h3
    have h4 := h2 l[i] (List.getElem_mem hi')
    simp only [vld1, List.getElem?_eq_getElem hi', h4, Bool.true_and, Bool.or_eq_true, decide_eq_true_eq]
    by_cases h0 : i = 0
    · exact .inl h0
    · right
      rw [List.getElem?_eq_getElem (show i - 1 < l.length by omega)]
      simpa using h3 (i - 1) i (by omega) hi' (by omega)
end
/-! orders -/
theorem cmpI_lt {a b : Int} : cmpI a b < 0 ↔ a < b := by
  unfold cmpI
  repeat' split
  all_goals omega
def keyR (r : RouV) : List Int := keyD r.to ++ [r.nb]
def cmpR (a b : RouV) : Int := cmpL (keyR a) (keyR b)
theorem keyD_len {d : DstV} (h : IsDv d) : (keyD d).length = 35 := by
  simp [keyD, h.1.len, h.2.len]
theorem cmpR_or {a b : RouV} (ha : IsDv a.to) (hb : IsDv b.to) : cmpR a b = orI (cmpD a.to b.to) (cmpI a.nb b.nb) := by
  unfold cmpR keyR
  rw [cmpL_two _ _ _ _ (by rw [keyD_len ha, keyD_len hb]), cmpL_cons]
  have : cmpL ([] : List Int) [] = 0 := cmpL_self _
  rw [this]
  show orI (cmpD a.to b.to) (orI (cmpI a.nb b.nb) 0) = _
  congr 1
  unfold orI
  split <;> simp_all
theorem cmpR_anti (a b : RouV) : cmpR b a = - cmpR a b := cmpL_anti _ _
theorem cmpR_trans {a b c : RouV} (h : cmpR a b < 0) (k : cmpR b c < 0) : cmpR a c < 0 := cmpL_lt_trans h k
/-! routes -/
def finD (d : DisV) : Bool := validM d.met && !decide (d.met = inf)
def rou1 (r : RouV) : Bool := validT r.to && !decide (r.nb = 0) && finD r.said && isTime r.til
def validRs (l : List RouV) : Bool := vldL 512 rou1 cmpR l
theorem validRs_iff {l : List RouV} : validRs l = true ↔ l.length ≤ 512 ∧ (∀ a ∈ l, rou1 a = true) ∧ AscC cmpR l := vldL_iff (fun _ _ _ h k => cmpR_trans h k)
def lowR (l : List RouV) (x : RouV) : List RouV := l.filter fun y => decide (cmpR y x < 0)
def highR (l : List RouV) (x : RouV) : List RouV := l.filter fun y => decide (0 < cmpR y x)
def putR (l : List RouV) (x : RouV) (gone : Bool) : List RouV := lowR l x ++ ((if gone then [] else [x]) ++ highR l x)
theorem mem_putR {l : List RouV} {x y : RouV} {g : Bool} : y ∈ putR l x g ↔ (g = false ∧ y = x) ∨ (y ∈ l ∧ cmpR y x ≠ 0) := by
  unfold putR lowR highR
  simp only [List.mem_append, List.mem_filter, decide_eq_true_eq]
  constructor
  · rintro (⟨h1, h2⟩ | h | ⟨h1, h2⟩)
    · exact .inr ⟨h1, by omega⟩
    · cases g <;> simp at h
      exact .inl ⟨rfl, h⟩
    · exact .inr ⟨h1, by omega⟩
  · rintro (⟨rfl, rfl⟩ | ⟨h1, h2⟩)
    · exact .inr (.inl (by simp))
    · rcases Int.lt_or_lt_of_ne h2 with h | h
      · exact .inl ⟨h1, h⟩
      · exact .inr (.inr ⟨h1, h⟩)
theorem asc_putR {l : List RouV} {x : RouV} {g : Bool} (h : AscC cmpR l) : AscC cmpR (putR l x g) := by
  unfold putR lowR highR
  refine List.pairwise_append.2 ⟨h.sublist List.filter_sublist, List.pairwise_append.2 ⟨?_, h.sublist List.filter_sublist, ?_⟩, ?_⟩
  · cases g <;> simp
  · intro a ha b hb
    cases g <;> simp at ha
    subst ha
    have := (List.mem_filter.1 hb).2
    simp only [decide_eq_true_eq] at this
    rw [cmpR_anti b a]
    omega
  · intro a ha b hb
    have ha2 := (List.mem_filter.1 ha).2
    simp only [decide_eq_true_eq] at ha2
    rcases List.mem_append.1 hb with hb | hb
    · cases g <;> simp at hb
      subst hb
      exact ha2
    · have hb2 := (List.mem_filter.1 hb).2
      simp only [decide_eq_true_eq] at hb2
      exact cmpR_trans ha2 (by rw [cmpR_anti b x]; omega)
/-! where a route comes in -/
structure PlR (ys : List RouV) (x : RouV) (i : Nat) : Prop where
  le : i ≤ ys.length
  lo : ∀ j (hj : j < i) (hl : j < ys.length), cmpR ys[j] x < 0
  hi : ∀ j (hj : i ≤ j) (hl : j < ys.length), 0 ≤ cmpR ys[j] x
def fndR (ys : List RouV) (x : RouV) (i : Nat) : Bool := match ys[i]? with | some y => decide (cmpR y x = 0) | none => false
theorem fndR_at {ys : List RouV} {x : RouV} {i : Nat} (h : i < ys.length) : fndR ys x i = decide (cmpR ys[i] x = 0) := by simp [fndR, List.getElem?_eq_getElem h]
theorem filter_all {α : Type} {p : α → Bool} {l : List α} (h : ∀ a ∈ l, p a = true) : l.filter p = l := List.filter_eq_self.2 h
theorem filter_no {α : Type} {p : α → Bool} {l : List α} (h : ∀ a ∈ l, p a = false) : l.filter p = [] := by
  rw [List.filter_eq_nil_iff]
  intro a ha
  rw [h a ha]
  simp
section
variable {ys : List RouV} {x : RouV} {i : Nat} (hP : PlR ys x i)
include hP
theorem PlR.low : lowR ys x = ys.take i := by
  unfold lowR
  conv => lhs; rw [← List.take_append_drop i ys]
  rw [List.filter_append, filter_all, filter_no, List.append_nil]
  · intro a ha
    obtain ⟨j, hj, rfl⟩ := List.mem_iff_getElem.1 ha
    rw [List.length_drop] at hj
    rw [List.getElem_drop]
    have := hP.hi (i + j) (by omega) (by omega)
    exact decide_eq_false (by omega)
  · intro a ha
    obtain ⟨j, hj, rfl⟩ := List.mem_iff_getElem.1 ha
    rw [List.length_take] at hj
    rw [List.getElem_take]
    exact decide_eq_true (hP.lo j (by omega) (by omega))
theorem PlR.take_high : (ys.take i).filter (fun y => decide (0 < cmpR y x)) = [] := filter_no fun a ha => by
  obtain ⟨j, hj, rfl⟩ := List.mem_iff_getElem.1 ha
  rw [List.length_take] at hj
  rw [List.getElem_take]
  have := hP.lo j (by omega) (by omega)
  exact decide_eq_false (by omega)
theorem PlR.miss (h : fndR ys x i = false) (ha : AscC cmpR ys) : highR ys x = ys.drop i := by
  unfold highR
  conv => lhs; rw [← List.take_append_drop i ys]
  rw [List.filter_append, hP.take_high, List.nil_append]
  refine filter_all fun a h2 => ?_
  obtain ⟨j, hj, rfl⟩ := List.mem_iff_getElem.1 h2
  rw [List.length_drop] at hj
  rw [List.getElem_drop]
  have h3 := hP.hi (i + j) (by omega) (by omega)
  rw [fndR_at (by omega)] at h
  have h4 := of_decide_eq_false h
  have h5 := hP.hi i (by omega) (by omega)
  rcases Nat.eq_zero_or_pos j with h0 | h0
  · subst h0
    simp only [Nat.add_zero] at h3 ⊢
    exact decide_eq_true (by omega)
  · have h6 := (List.pairwise_iff_getElem.1 ha) i (i + j) (by omega) (by omega) (by omega)
    refine decide_eq_true ?_
    have h7 : cmpR x ys[i] < 0 := by rw [cmpR_anti ys[i] x]; omega
    have := cmpR_trans h7 h6
    rw [cmpR_anti ys[i + j] x] at this
    omega
theorem PlR.hit (h : fndR ys x i = true) (ha : AscC cmpR ys) : ∃ hi : i < ys.length, cmpR ys[i] x = 0 ∧ highR ys x = ys.drop (i + 1) := by
  have hi : i < ys.length := by
    rcases Nat.lt_or_ge i ys.length with h1 | h1
    · exact h1
    · simp [fndR, List.getElem?_eq_none h1] at h
  rw [fndR_at hi] at h
  have h4 := of_decide_eq_true h
  refine ⟨hi, h4, ?_⟩
  unfold highR
  conv => lhs; rw [← List.take_append_drop i ys]
  rw [List.filter_append, hP.take_high, List.nil_append, ← List.getElem_cons_drop hi, List.filter_cons, h4]
  simp only [Int.lt_irrefl, decide_false, Bool.false_eq_true, if_false]
  refine filter_all fun a h2 => ?_
  obtain ⟨j, hj, rfl⟩ := List.mem_iff_getElem.1 h2
  rw [List.length_drop] at hj
  rw [List.getElem_drop]
  have h6 := (List.pairwise_iff_getElem.1 ha) i (i + 1 + j) (by omega) (by omega) (by omega)
  refine decide_eq_true ?_
  have hk : ∀ {a b c : RouV}, cmpR a b = 0 → cmpR a c < 0 → cmpR b c < 0 := fun {a b c} h k => by
    have h1 : cmpL (keyR a) (keyR b) = 0 := h
    have h2 : keyR a = keyR b := cmpL_zero h1
    unfold cmpR at k ⊢
    rw [← h2]
    exact k
  have := hk h4 h6
  rw [cmpR_anti ys[i + 1 + j] x] at this
  omega
end
end Go.Proofs.YtilgoepokaaleaaGreat
/-! LibW -/
namespace Go.Proofs.YtilgoepokaaleaaGreat
set_option linter.unusedVariables false
set_option linter.unusedSimpArgs false
open Go.RowKit
/-! keys -/
def findA {κ : Type} [DecidableEq κ] (x : κ) : List (κ × Value) → Nat → Option (Nat × Value)
  | [], _ => none
  | p :: m, i => if x = p.1 then some (i, p.2) else findA x m (i + 1)
def getA {κ ν : Type} [DecidableEq κ] (x : κ) : List (κ × ν) → Option ν
  | [] => none
  | p :: m => if x = p.1 then some p.2 else getA x m
def putA {κ ν : Type} [DecidableEq κ] (x : κ) (v : ν) : List (κ × ν) → List (κ × ν)
  | [] => [(x, v)]
  | p :: m => if x = p.1 then (x, v) :: m else p :: putA x v m
section plain
variable {κ ν μ : Type} [DecidableEq κ]
theorem getA_put_same (x : κ) (v : ν) : ∀ m, getA x (putA x v m) = some v
  | [] => by simp [putA, getA]
  | p :: m => by
    unfold putA
    split
    · simp [getA]
    · rename_i h
      simp [getA, h, getA_put_same x v m]
theorem getA_put_other {x y : κ} (h : y ≠ x) (v : ν) : ∀ m, getA y (putA x v m) = getA y m
  | [] => by simp [putA, getA, h]
  | p :: m => by
    unfold putA
    split
    · rename_i h2
      subst h2
      simp [getA, h]
    · simp [getA, getA_put_other h v m]
theorem getA_put (x y : κ) (v : ν) (m : List (κ × ν)) : getA y (putA x v m) = if y = x then some v else getA y m := by
  split
  · rename_i h; subst h; exact getA_put_same _ _ _
  · rename_i h; exact getA_put_other h _ _
theorem getA_map (f : ν → μ) (x : κ) : ∀ m : List (κ × ν), getA x (m.map fun p => (p.1, f p.2)) = (getA x m).map f
  | [] => rfl
  | p :: m => by
    simp only [List.map_cons, getA, getA_map f x m]
    split <;> rfl
theorem putA_map (f : ν → μ) (x : κ) (v : ν) : ∀ m : List (κ × ν), putA x (f v) (m.map fun p => (p.1, f p.2)) = (putA x v m).map fun p => (p.1, f p.2)
  | [] => rfl
  | p :: m => by
    simp only [List.map_cons, putA, putA_map f x v m]
    split <;> rfl
theorem findA_get (x : κ) : ∀ (m : List (κ × Value)) (i : Nat), (findA x m i).map (·.2) = getA x m
  | [], _ => rfl
  | p :: m, i => by
    unfold findA getA
    split
    · rfl
    · exact findA_get x m (i + 1)
theorem findA_none {x : κ} {v : Value} : ∀ {m : List (κ × Value)} {i : Nat}, findA x m i = none → putA x v m = m ++ [(x, v)]
  | [], _, _ => rfl
  | p :: m, i, h => by
    unfold findA at h
    split at h
    · cases h
    · rename_i hn
      simp only [putA, hn, if_false, List.cons_append]
      rw [findA_none h]
theorem findA_some {x : κ} {v u : Value} : ∀ {m : List (κ × Value)} {i j : Nat}, findA x m i = some (j, u) → ∃ k, j = i + k ∧ k < m.length ∧ putA x v m = m.set k (x, v) ∧ ∃ y, m[k]? = some (x, y)
  | [], _, _, h => by cases h
  | p :: m, i, j, h => by
    unfold findA at h
    split at h
    · rename_i hx
      simp only [Option.some.injEq, Prod.mk.injEq] at h
      subst hx
      exact ⟨0, by omega, by simp, by simp [putA], p.2, by simp⟩
    · rename_i hn
      obtain ⟨k, e, hk, hp, y, hy⟩ := findA_some (v := v) h
      exact ⟨k + 1, by omega, by simpa using hk, by simp [putA, hn, hp], y, by simpa using hy⟩
end plain
structure KeyLw (P : Program) (k : TypeId) {κ : Type} [DecidableEq κ] (kv : κ → Value) (ok : κ → Prop) : Prop where
  check : ∀ (em : Bool) (w : World) (x : κ), ok x → (Instr.checkKey em 10000 k (kv x)).run P w = .ok () w
  find : ∀ (w : World) (x : κ) (m : List (κ × Value)) (es : List MapEntry), ok x → (∀ p ∈ m, ok p.1) → es.map (fun e => (e.key, e.val)) = m.map (fun p => (kv p.1, p.2)) → (Instr.findKey k (kv x) es).run P w = .ok (findA x m 0) w
  stays : ∀ (w : World) (x : κ), ok x → (Instr.keyThatStays (kv x) (kv x)).run P w = .ok (kv x) w
theorem sameBits_int (n : Nat) (q : IntKind) (x : Int) : Instr.sameBits n (.int q x) (.int q x) = true := by
  cases n <;> simp [Instr.sameBits]
theorem check_int {P : Program} {k : TypeId} {q : IntKind} (hk : P.underlying k = some (.int q)) (em : Bool) (w : World) (x : Int) (n : Nat) : (Instr.checkKey em (n + 1) k (.int q x)).run P w = .ok () w := by
  simp [Instr.checkKey, run_underlying hk]
theorem keyLw_int {P : Program} {k : TypeId} {q : IntKind} (hk : P.underlying k = some (.int q)) : KeyLw P k (Value.int q) (fun _ => True) where
  check em w x _ := check_int hk em w x 9999
  find w x m es _ _ he := by
    have key : ∀ (m : List (Int × Value)) (es : List MapEntry) (i : Nat), es.map (fun e => (e.key, e.val)) = m.map (fun p => (Value.int q p.1, p.2)) → Instr.findNow (.int q) (.int q x) es i = some (findA x m i) := by
      intro m
      induction m with
      | nil =>
        intro es i h
        have : es = [] := by simpa using h
        subst this
        rfl
      | cons p m ih =>
        intro es i h
        cases es with
        | nil => simp at h
        | cons e es =>
          simp only [List.map_cons, List.cons.injEq, Prod.mk.injEq] at h
          obtain ⟨⟨h1, h2⟩, h3⟩ := h
          simp only [Instr.findNow, h1, Instr.sameNow, if_true, findA, h2]
          by_cases hx : x = p.1
          · simp [hx]
          · have : (x == p.1) = false := by simpa using hx
            rw [this]
            simp only [hx, if_false]
            exact ih es (i + 1) h3
    simp [Instr.findKey, run_underlying hk, key m es 0 he]
  stays w x _ := by
    unfold Instr.keyThatStays
    rw [if_pos (sameBits_int _ _ _)]
    rfl
section
variable {P : Program}
end
/-! maps in memory -/
def MapAt {κ : Type} (kv : κ → Value) (m : List (κ × Value)) (o : Obj) : Prop := ∃ es clock, o = .map es clock ∧ es.toList.map (fun e => (e.key, e.val)) = m.map fun p => (kv p.1, p.2)
theorem MapAt.empty {κ : Type} (kv : κ → Value) : MapAt kv [] (.map #[] 0) := ⟨#[], 0, rfl, rfl⟩
def MapIn {κ : Type} (w : World) (kv : κ → Value) (v : Value) (m : List (κ × Value)) : Prop := ∃ b o, v = .map (some b) ∧ w.heap[b]? = some o ∧ MapAt kv m o
theorem MapIn.later {κ : Type} {W w : World} {kv : κ → Value} {v : Value} {m : List (κ × Value)} (h : MapIn W kv v m) (E : Ext [] W w) : MapIn w kv v m := by
  obtain ⟨b, o, rfl, hb, h⟩ := h
  exact ⟨b, o, rfl, by rw [E.block b (Array.getElem?_eq_some_iff.1 hb).1 (by simp)]; exact hb, h⟩
/-- a map that the call has made itself -/
def OwnM {κ : Type} (kv : κ → Value) (v : Value) (m : List (κ × Value)) (ent : List (Nat × Obj)) : Prop := ∃ b o, v = .map (some b) ∧ ent = [(b, o)] ∧ MapAt kv m o
def zeroIs (P : Program) (t : TypeId) (z : Value) : Prop := (P.info? t).bind (·.zero) = some z
theorem run_zeroIs {P : Program} {t : TypeId} {z : Value} {w : World} (h : zeroIs P t z) : (zeroValue t).run P w = .ok z w := by
  unfold zeroIs at h
  cases hi : P.info? t with
  | none => simp [hi] at h
  | some i =>
    simp [hi] at h
    simp [zeroValue, typeInfo, hi, h]
section
variable {P : Program} {ρ : Operand → Value} {w W0 : World} {S : List Nat} {l l' : List (Nat × Obj)} {R : Value → World → Prop} {d : Option Tmp} {ty : TypeId} {pos : String} {af : Array Edge} {g : Option (Nat × Bool)}
variable {κ : Type} [DecidableEq κ] {kv : κ → Value} {ok : κ → Prop}
theorem o_makeMap {t k e : TypeId} {x : Operand} {q : IntKind} {n : Int} [ht : TU P t (.map k e)] (M : Mem S W0 w l) (hx : ρ x = .int q n) (h : ∀ b w', Mem S W0 w' ((b, .map #[] 0) :: l) → R (.map (some b)) w') : OpTo P ⟨d, .makeMap t (some x), ty, pos, af, g⟩ ρ w R :=
  OpTo.val (v := .map (some w.heap.size)) (w' := w.alloc (.map #[] 0)) (by simp [execOp, Instr.makeMap, hx, run_underlying ht.h, asInt, asIntOf, Result.andThen]) (h _ _ (M.alloc _))
theorem o_makeMap0 {t : TypeId} (M : Mem S W0 w l) (h : ∀ b w', Mem S W0 w' ((b, .map #[] 0) :: l) → R (.map (some b)) w') : OpTo P ⟨d, .makeMap t none, ty, pos, af, g⟩ ρ w R :=
  OpTo.val (v := .map (some w.heap.size)) (w' := w.alloc (.map #[] 0)) (by simp [execOp, Instr.makeMap, Result.andThen]) (h _ _ (M.alloc _))
theorem run_lookup {t k e : TypeId} {v z : Value} {m : List (κ × Value)} {c : Bool} (ht : P.underlying t = some (.map k e)) (K : KeyLw P k kv ok) (hz : zeroIs P e z) (hM : MapIn w kv v m) (hm : ∀ p ∈ m, ok p.1) {x : κ} (hx : ok x) :
    (Instr.lookup t v (kv x) c).run P w = .ok (if c then .tuple #[(getA x m).getD z, .bool (getA x m).isSome] else (getA x m).getD z) w := by
  obtain ⟨b, o, rfl, hb, es, clock, rfl, he⟩ := hM
  have hf := K.find w x m es.toList hx hm he
  rw [← findA_get x m 0]
  cases hr : findA x m 0 with
  | none => simp [Instr.lookup, run_underlying ht, MapKept.run_getObj_map hb, K.check es.isEmpty w x hx, hf, hr, run_zeroIs hz, Result.andThen]
  | some q => simp [Instr.lookup, run_underlying ht, MapKept.run_getObj_map hb, K.check es.isEmpty w x hx, hf, hr, Result.andThen]
theorem o_lookup2 {t k e : TypeId} {x y : Operand} {v z : Value} {m : List (κ × Value)} [ht : TU P t (.map k e)] (K : KeyLw P k kv ok) (hz : zeroIs P e z) (hM : MapIn w kv v m) (hm : ∀ p ∈ m, ok p.1) {a : κ} (ha : ok a) (hx : ρ x = v) (hy : ρ y = kv a)
    (h : R (.tuple [(getA a m).getD z, .bool (getA a m).isSome].toArray) w) : OpTo P ⟨d, .lookup t x y true, ty, pos, af, g⟩ ρ w R :=
  OpTo.val (v := .tuple [(getA a m).getD z, .bool (getA a m).isSome].toArray) (w' := w) (by simp [execOp, hx, hy, run_lookup (c := true) ht.h K hz hM hm ha]) h
theorem o_lookup1 {t k e : TypeId} {x y : Operand} {v z : Value} {m : List (κ × Value)} [ht : TU P t (.map k e)] (K : KeyLw P k kv ok) (hz : zeroIs P e z) (hM : MapIn w kv v m) (hm : ∀ p ∈ m, ok p.1) {a : κ} (ha : ok a) (hx : ρ x = v) (hy : ρ y = kv a)
    (h : R ((getA a m).getD z) w) : OpTo P ⟨d, .lookup t x y false, ty, pos, af, g⟩ ρ w R :=
  OpTo.val (v := (getA a m).getD z) (w' := w) (by simp [execOp, hx, hy, run_lookup (c := false) ht.h K hz hM hm ha]) h
theorem run_mapUpdate {t k e : TypeId} {b : Nat} {o : Obj} {u : Value} {m : List (κ × Value)} (ht : P.underlying t = some (.map k e)) (K : KeyLw P k kv ok) (hb : w.heap[b]? = some o) (hA : MapAt kv m o) (hm : ∀ p ∈ m, ok p.1) {x : κ} (hx : ok x) :
    ∃ o', MapAt kv (putA x u m) o' ∧ (Instr.mapUpdate t (.map (some b)) (kv x) u).run P w = .ok () (w.putObj b o') := by
  obtain ⟨es, clock, rfl, he⟩ := hA
  have hf := K.find w x m es.toList hx hm he
  have hlen : es.toList.length = m.length := by simpa using congrArg List.length he
  cases hr : findA x m 0 with
  | none =>
    refine ⟨.map (es.push { key := kv x, val := u, born := clock }) (clock + 1), ⟨_, _, rfl, ?_⟩, ?_⟩
    · rw [findA_none hr]
      simp [he]
    · simp [Instr.mapUpdate, run_underlying ht, MapKept.run_getObj_map hb, K.check false w x hx, hf, hr, MapKept.run_setObj_map _ hb, Result.andThen, World.putObj]
  | some q =>
    obtain ⟨j, y⟩ := q
    obtain ⟨i, e1, hi, hp, y', hy⟩ := findA_some (v := u) hr
    rw [Nat.zero_add] at e1
    subst e1
    have hil : j < es.toList.length := by omega
    have hkey : (es[j]?).map (·.key) = some (kv x) := by
      have h2 : (es.toList.map fun e => (e.key, e.val))[j]? = (m.map fun p => (kv p.1, p.2))[j]? := by rw [he]
      rw [List.getElem?_map, List.getElem?_map, hy] at h2
      simp only [Option.map_some, Option.map_eq_some_iff, Prod.mk.injEq, Array.getElem?_toList] at h2
      obtain ⟨e0, h3, h4, _⟩ := h2
      rw [h3, Option.map_some, h4]
    refine ⟨.map (es.modify j fun e => { e with key := kv x, val := u }) clock, ⟨_, _, rfl, ?_⟩, ?_⟩
    · rw [hp]
      apply List.ext_getElem?
      intro n
      have h2 : (es.toList.map fun e => (e.key, e.val))[n]? = (m.map fun p => (kv p.1, p.2))[n]? := by rw [he]
      rw [List.getElem?_map, List.getElem?_map] at h2
      rw [List.getElem?_map, List.getElem?_map, Array.toList_modify, List.getElem?_modify, List.getElem?_set]
      split
      · rename_i h3
        subst h3
        rw [List.getElem?_eq_getElem hil]
        rfl
      · simpa using h2
    · simp [Instr.mapUpdate, run_underlying ht, MapKept.run_getObj_map hb, K.check false w x hx, hf, hr, hkey, K.stays w x hx, MapKept.run_setObj_map _ hb, Result.andThen, World.putObj]
/-- a store into a map that the call has made itself -/
theorem o_mapUpdate {t k e : TypeId} {x y z : Operand} {v u : Value} {m : List (κ × Value)} {ent : List (Nat × Obj)} {f : List (Nat × Obj) → List (Nat × Obj)} [ht : TU P t (.map k e)] (K : KeyLw P k kv ok) (M : Mem S W0 w l) (hO : OwnM kv v m ent) (hl : TailAt ent l f) (hm : ∀ p ∈ m, ok p.1) {a : κ} (ha : ok a)
    (hx : ρ x = v) (hy : ρ y = kv a) (hz : ρ z = u) (h : ∀ ent' w', OwnM kv v (putA a u m) ent' → Mem S W0 w' (f ent') → R undef w') : OpTo P ⟨d, .mapUpdate t x y z, ty, pos, af, g⟩ ρ w R := by
  obtain ⟨lr, rfl, hf⟩ := hl.spec
  obtain ⟨b, o, rfl, rfl, hA⟩ := hO
  have hb := M.at_ (b, o) (by simp)
  have hlt : b < w.heap.size := (Array.getElem?_eq_some_iff.1 hb).1
  obtain ⟨o', hA', hr⟩ := run_mapUpdate (u := u) ht.h K hb hA hm ha
  refine OpTo.skip (w' := w.putObj b o') (by simp [execOp, hx, hy, hz, hr]) (h [(b, o')] _ ⟨b, o', rfl, rfl, hA'⟩ ?_)
  rw [hf]
  exact M.turned ((Upd.here (l := [])).append lr) (Ext.putObj w b o') (World.putObj_heap_same hlt)
omit [DecidableEq κ] in
theorem OwnM.at_ {v : Value} {m : List (κ × Value)} {ent : List (Nat × Obj)} (h : OwnM kv v m ent) (hb : ∀ p ∈ ent, w.heap[p.1]? = some p.2) : MapIn w kv v m := by
  obtain ⟨b, o, rfl, rfl, hA⟩ := h
  exact ⟨b, o, rfl, hb (b, o) (by simp), hA⟩
end
end Go.Proofs.YtilgoepokaaleaaGreat
/-! Y5 -/
namespace Go.Proofs.YtilgoepokaaleaaGreat
set_option linter.unusedVariables false
set_option linter.unusedSimpArgs false
open Go.RowKit
attribute [local irreducible] OpTo wpListIn Code.wpIn MW Cal
def di0 : DisV := ⟨0, 0⟩
def dvV (d : DstV) : Value := .agg (dvC d).toArray
def diV (d : DisV) : Value := .agg (diC d).toArray
/-! maps keyed by destinations -/
end Go.Proofs.YtilgoepokaaleaaGreat
/-! Z4 -/
namespace Go.Proofs.YtilgoepokaaleaaGreat
set_option linter.unusedVariables false
set_option linter.unusedSimpArgs false
open Go.RowKit
/-! distances -/
def newerV (a b : Int) : Bool := let d := IntKind.u16.wrap (a - b); (decide (1 ≤ d) && decide (d < 32768)) || (decide (d = 32768) && decide (b < a))
def betterV (a b : DisV) : Bool := !decide (a = b) && (newerV a.seq b.seq || (decide (a.seq = b.seq) && decide (a.met < b.met)))
def addM (a b : Int) : Int := if validM a && validM b then min (a + b) inf else inf
/-! sources -/
def src1 (s : SrcV) : Bool := validT s.to && finD s.bst && isTime s.til
def cmpS (a b : SrcV) : Int := cmpD a.to b.to
def validSs (l : List SrcV) : Bool := vldL 256 src1 cmpS l
theorem validSs_iff {l : List SrcV} : validSs l = true ↔ l.length ≤ 256 ∧ (∀ a ∈ l, src1 a = true) ∧ AscC cmpS l := vldL_iff (fun _ _ _ h k => cmpD_trans h k)
def bestS (s : List SrcV) (now : Int) (t : DstV) : Option DisV := (s.find? fun x => decide (x.to = t) && decide (now < x.til)).map (·.bst)
def feasV (s : List SrcV) (now : Int) (t : DstV) (d : DisV) : Bool := finD d && match bestS s now t with
  | none => true
  | some b => betterV d b
/-! options and choices -/
def none0 : OptV := ⟨0, inf⟩
def bstO (l : List OptV) : OptV := l.foldl (fun b o => if o.cost < b.cost then o else b) none0
def prvO (nb : Int) (l : List OptV) : OptV := l.foldl (fun c o => if o.cost < inf ∧ o.nb = nb then o else c) none0
def validCh (c : ChoV) : Bool := validM c.cost && (decide (c.btn = -1) || isTime c.btn)
def opt1 (o : OptV) : Bool := !decide (o.nb = 0) && validM o.cost
def cmpO (a b : OptV) : Int := cmpI a.nb b.nb
def validOs (l : List OptV) : Bool := vldL 16 opt1 cmpO l
theorem cmpO_trans {a b c : OptV} (h : cmpO a b < 0) (k : cmpO b c < 0) : cmpO a c < 0 := by
  unfold cmpO at *
  rw [cmpI_lt] at *
  omega
theorem validOs_iff {l : List OptV} : validOs l = true ↔ l.length ≤ 16 ∧ (∀ a ∈ l, opt1 a = true) ∧ AscC cmpO l := vldL_iff (fun _ _ _ h k => cmpO_trans h k)
def choB (now : Int) (old : ChoV) (b c : OptV) : ChoV :=
  if c = none0 then ⟨b.nb, b.cost, -1⟩ else if b.cost = c.cost then ⟨c.nb, c.cost, -1⟩
  else if 256 ≤ c.cost - b.cost then ⟨b.nb, b.cost, -1⟩ else if old.btn = -1 then ⟨c.nb, c.cost, now⟩
  else if old.btn + 6 ≤ now then ⟨b.nb, b.cost, -1⟩ else ⟨c.nb, c.cost, old.btn⟩
def chooseV (now : Int) (old : ChoV) (l : List OptV) : ChoV := choB now old (bstO l) (prvO old.nb l)
/-! installed destinations -/
def ins1 (e : InsV) : Bool := validT e.to && (if e.nb = 0 then decide (e.own.met = inf) && decide (e.btn = -1) && isTime e.til else finD e.own && (decide (e.btn = -1) || isTime e.btn) && decide (e.til = 0))
def cmpN (a b : InsV) : Int := cmpD a.to b.to
def validIs (l : List InsV) : Bool := vldL 512 ins1 cmpN l
theorem validIs_iff {l : List InsV} : validIs l = true ↔ l.length ≤ 512 ∧ (∀ a ∈ l, ins1 a = true) ∧ AscC cmpN l := vldL_iff (fun _ _ _ h k => cmpD_trans h k)
/-! select -/
/-- the destinations of two lists, each one once -/
def insD (t : DstV) : List DstV → List DstV
  | [] => [t]
  | x :: xs => if cmpD t x < 0 then t :: x :: xs else if t = x then x :: xs else x :: insD t xs
abbrev AscD (l : List DstV) : Prop := AscC cmpD l
theorem mem_insD {t y : DstV} : ∀ {l : List DstV}, y ∈ insD t l ↔ y = t ∨ y ∈ l
  | [] => by simp [insD]
  | x :: xs => by
    unfold insD
    split
    · simp
    · split
      · rename_i h
        subst h
        simp
      · rw [List.mem_cons, mem_insD (l := xs), List.mem_cons]
        constructor
        · rintro (h | h | h) <;> simp [h]
        · rintro (h | h | h) <;> simp [h]
theorem asc_insD {t : DstV} (ht : IsDv t) : ∀ {l : List DstV}, (∀ x ∈ l, IsDv x) → AscD l → AscD (insD t l)
  | [], _, _ => by simp [insD, AscD, AscC]
  | x :: xs, hi, h => by
    have h1 := List.pairwise_cons.1 h
    unfold insD
    split
    · rename_i h2
      refine List.pairwise_cons.2 ⟨fun y hy => ?_, h⟩
      rcases List.mem_cons.1 hy with rfl | hy
      · exact h2
      · exact cmpD_trans h2 (h1.1 y hy)
    · split
      · exact h
      · rename_i h2 h3
        refine List.pairwise_cons.2 ⟨fun y hy => ?_, asc_insD ht (fun z hz => hi z (List.mem_cons_of_mem _ hz)) h1.2⟩
        rcases mem_insD.1 hy with rfl | hy
        · have h4 := cmpD_anti y x
          have h5 : cmpD y x ≠ 0 := fun e => h3 (cmpD_zero ht (hi x (by simp)) e)
          omega
        · exact h1.1 y hy
def allD (l : List RouV) (old : List InsV) : List DstV := l.map (·.to) ++ old.map (·.to)
def destsV (l : List RouV) (old : List InsV) : List DstV := (allD l old).foldr insD []
theorem foldr_insD {l : List DstV} (hi : ∀ x ∈ l, IsDv x) : AscD (l.foldr insD []) ∧ (∀ x, x ∈ l.foldr insD [] ↔ x ∈ l) := by
  induction l with
  | nil => simp [AscD, AscC]
  | cons a l ih =>
    obtain ⟨h1, h2⟩ := ih fun x hx => hi x (List.mem_cons_of_mem _ hx)
    rw [List.foldr_cons]
    exact ⟨asc_insD (hi a (by simp)) (fun x hx => hi x (List.mem_cons_of_mem _ ((h2 x).1 hx))) h1, fun x => by rw [mem_insD, h2, List.mem_cons]⟩
def lkC (c : Int) : Int := if c < 1 then 1 else c
def costM (links : List OptV) : List (Int × Int) := links.foldl (fun m o => putA o.nb (lkC o.cost) m) []
/-- an option, if a route is one -/
def optV (now : Int) (s : List SrcV) (cm : List (Int × Int)) (t : DstV) (r : RouV) : Option OptV := match getA r.nb cm with
  | none => none
  | some c => if decide (r.til ≤ now) || !feasV s now t r.said then none else some ⟨r.nb, addM r.said.met c⟩
def optsV (now : Int) (s : List SrcV) (cm : List (Int × Int)) (t : DstV) (l : List RouV) : List OptV := (l.filter fun r => decide (r.to = t)).filterMap (optV now s cm t)
def saidV (now : Int) (s : List SrcV) (cm : List (Int × Int)) (t : DstV) (l : List RouV) : List (Int × DisV) := ((l.filter fun r => decide (r.to = t)).filter fun r => (optV now s cm t r).isSome).foldl (fun m r => putA r.nb r.said m) []
def befV : Option InsV → ChoV
  | none => ⟨0, 0, -1⟩
  | some o => ⟨o.nb, o.own.met, o.btn⟩
def aftV (now : Int) (t : DstV) (old : Option InsV) (l : List OptV) (said : List (Int × DisV)) : Option InsV :=
  let c := chooseV now (befV old) l
  if c.nb ≠ 0 then some ⟨t, c.nb, ⟨((getA c.nb said).getD di0).seq, c.cost⟩, c.btn, 0⟩ else match old with
    | none => none
    | some o => if o.nb ≠ 0 then some ⟨t, 0, ⟨o.own.seq, inf⟩, -1, laterV now 14⟩ else if now < o.til then some o else none
def oldV (old : List InsV) (t : DstV) : Option InsV := old.find? fun o => decide (o.to = t)
def selE (now : Int) (l : List RouV) (s : List SrcV) (cm : List (Int × Int)) (old : List InsV) (t : DstV) : Option InsV := aftV now t (oldV old t) (optsV now s cm t l) (saidV now s cm t l)
def selV (now : Int) (l : List RouV) (s : List SrcV) (links : List OptV) (old : List InsV) : List InsV := (destsV l old).filterMap (selE now l s (costM links) old)
/-! lookup -/
def nearC (a b : DstV) : Int := orI (cmpI a.dbits b.dbits) (cmpI a.sbits b.sbits)
def matchV (t : DstV) (src dst : List Int) : Bool := containsP t.dip t.dbits dst && containsP t.sip t.sbits src
def nearS (src dst : List Int) (near : List InsV) (e : InsV) : List InsV :=
  if matchV e.to src dst then match near with
    | [] => [e]
    | y :: ys => if 0 < nearC e.to y.to then [e] else if nearC e.to y.to = 0 then y :: ys ++ [e] else y :: ys
  else near
def nearL (l : List InsV) (src dst : List Int) : List InsV := l.foldl (nearS src dst) []
def cheap (near : List InsV) (y : InsV) : InsV := near.foldl (fun c e => if e.own.met < c.own.met then e else c) y
def nul16 : List Int := [0, 0, 0, 0, 0, 0, 0, 0, 0, 0, 0, 0, 0, 0, 0, 0]
theorem nul16_is : IsIP nul16 := ⟨rfl, by intro x hx; simp [nul16] at hx; omega⟩
def in0 : InsV := ⟨⟨nul16, 0, nul16, 0, 0⟩, 0, di0, 0, 0⟩
def lookN (near : List InsV) (mark : DstV) (marked : Bool) : InsV × Int := match near with
  | [] => (in0, 9)
  | y :: ys => if marked && decide (nearC y.to mark < 0) then (in0, 9) else
    let c := if marked && (decide (y.to.dip = mark.dip) && decide (y.to.dbits = mark.dbits)) && (decide (y.to.sip = mark.sip) && decide (y.to.sbits = mark.sbits)) then (y :: ys).find? fun e => decide (e.to = mark) else some (cheap (y :: ys) y)
    match c with
    | none => (in0, 9)
    | some c => if c.nb = 0 then (in0, 15) else (c, 0)
def lookV (l : List InsV) (src dst : List Int) (mark : DstV) (marked : Bool) : InsV × Int :=
  if !validIs l || (marked && !validT mark) then (in0, 1) else lookN (nearL l src dst) mark marked
end Go.Proofs.YtilgoepokaaleaaGreat
/-! Z3 -/
namespace Go.Proofs.YtilgoepokaaleaaGreat
set_option linter.unusedVariables false
set_option linter.unusedSimpArgs false
open Go.RowKit
attribute [local irreducible] OpTo wpListIn Code.wpIn MW Cal
theorem rtTime_c (t : Int) (W : World) : Cal Tryz.prog 49 [.int .i64 t].toArray W fun v w' => v = .bool (isTime t) ∧ Ext [] W w' := by
  unfold isTime
  by_cases h : 0 ≤ t
  · rw [decide_eq_true h, Bool.true_and]
    refine fn_ofM (n := 9) [] Tryz.func49 rfl rfl rfl ?_
    intro a w F M hwW
    refine c_seq (c_region ?_)
    refine sD F (o_assign (F.ev rfl) ?_); clear F a; intro a F
    with_reducible refine l_nil (q_then (c_seq (c_region ?_)))
    refine sD F (o_move (F.ev rfl) ?_); clear F a; intro a F
    refine sD F (o_geqT (F.ev rfl) (F.ev rfl) (by omega) ?_); clear F a; intro a F
    refine sD F (o_move (F.ev rfl) ?_); clear F a; intro a F
    refine sG F (o_move (F.ev rfl) ?_); clear F a; intro a F
    refine sG F (o_leq (F.ev rfl) (F.ev rfl) ?_); clear F a; intro a F
    refine sD F (o_pickT (F.ev rfl) (F.ev rfl) ?_); clear F a; intro a F
    refine sD F (o_assign (F.ev rfl) ?_); clear F a; intro a F
    with_reducible refine l_nil (q_then (c_ret ?_))
    refine p_ret F rfl (.cons (.tmp (F.ev rfl)) .nil) ?_
    exact ⟨rfl, M.ext⟩
  · rw [decide_eq_false h, Bool.false_and]
    refine fn_ofM (n := 9) [] Tryz.func49 rfl rfl rfl ?_
    intro a w F M hwW
    refine c_seq (c_region ?_)
    refine sD F (o_assign (F.ev rfl) ?_); clear F a; intro a F
    with_reducible refine l_nil (q_then (c_seq (c_region ?_)))
    refine sD F (o_move (F.ev rfl) ?_); clear F a; intro a F
    refine sD F (o_geqF (F.ev rfl) (F.ev rfl) (by omega) ?_); clear F a; intro a F
    refine sD F (o_move (F.ev rfl) ?_); clear F a; intro a F
    refine sO F ?_; clear F a; intro a F
    refine sO F ?_; clear F a; intro a F
    refine sD F (o_pickF (F.ev rfl) (F.ev rfl) ?_); clear F a; intro a F
    refine sD F (o_assign (F.ev rfl) ?_); clear F a; intro a F
    with_reducible refine l_nil (q_then (c_ret ?_))
    refine p_ret F rfl (.cons (.tmp (F.ev rfl)) .nil) ?_
    exact ⟨rfl, M.ext⟩
theorem mtTime_c (t : Int) (W : World) : Cal Tryz.prog 133 [.int .i64 t].toArray W fun v w' => v = .bool (isTime t) ∧ Ext [] W w' := by
  unfold isTime
  by_cases h : 0 ≤ t
  · rw [decide_eq_true h, Bool.true_and]
    refine fn_ofM (n := 9) [] Tryz.func133 rfl rfl rfl ?_
    intro a w F M hwW
    refine c_seq (c_region ?_)
    refine sD F (o_assign (F.ev rfl) ?_); clear F a; intro a F
    with_reducible refine l_nil (q_then (c_seq (c_region ?_)))
    refine sD F (o_move (F.ev rfl) ?_); clear F a; intro a F
    refine sD F (o_geqT (F.ev rfl) (F.ev rfl) (by omega) ?_); clear F a; intro a F
    refine sD F (o_move (F.ev rfl) ?_); clear F a; intro a F
    refine sG F (o_move (F.ev rfl) ?_); clear F a; intro a F
    refine sG F (o_leq (F.ev rfl) (F.ev rfl) ?_); clear F a; intro a F
    refine sD F (o_pickT (F.ev rfl) (F.ev rfl) ?_); clear F a; intro a F
    refine sD F (o_assign (F.ev rfl) ?_); clear F a; intro a F
    with_reducible refine l_nil (q_then (c_ret ?_))
    refine p_ret F rfl (.cons (.tmp (F.ev rfl)) .nil) ?_
    exact ⟨rfl, M.ext⟩
  · rw [decide_eq_false h, Bool.false_and]
    refine fn_ofM (n := 9) [] Tryz.func133 rfl rfl rfl ?_
    intro a w F M hwW
    refine c_seq (c_region ?_)
    refine sD F (o_assign (F.ev rfl) ?_); clear F a; intro a F
    with_reducible refine l_nil (q_then (c_seq (c_region ?_)))
    refine sD F (o_move (F.ev rfl) ?_); clear F a; intro a F
    refine sD F (o_geqF (F.ev rfl) (F.ev rfl) (by omega) ?_); clear F a; intro a F
    refine sD F (o_move (F.ev rfl) ?_); clear F a; intro a F
    refine sO F ?_; clear F a; intro a F
    refine sO F ?_; clear F a; intro a F
    refine sD F (o_pickF (F.ev rfl) (F.ev rfl) ?_); clear F a; intro a F
    refine sD F (o_assign (F.ev rfl) ?_); clear F a; intro a F
    with_reducible refine l_nil (q_then (c_ret ?_))
    refine p_ret F rfl (.cons (.tmp (F.ev rfl)) .nil) ?_
    exact ⟨rfl, M.ext⟩
theorem scTime_c (t : Int) (W : World) : Cal Tryz.prog 95 [.int .i64 t].toArray W fun v w' => v = .bool (isTime t) ∧ Ext [] W w' := by
  unfold isTime
  by_cases h : 0 ≤ t
  · rw [decide_eq_true h, Bool.true_and]
    refine fn_ofM (n := 9) [] Tryz.func95 rfl rfl rfl ?_
    intro a w F M hwW
    refine c_seq (c_region ?_)
    refine sD F (o_assign (F.ev rfl) ?_); clear F a; intro a F
    with_reducible refine l_nil (q_then (c_seq (c_region ?_)))
    refine sD F (o_move (F.ev rfl) ?_); clear F a; intro a F
    refine sD F (o_geqT (F.ev rfl) (F.ev rfl) (by omega) ?_); clear F a; intro a F
    refine sD F (o_move (F.ev rfl) ?_); clear F a; intro a F
    refine sG F (o_move (F.ev rfl) ?_); clear F a; intro a F
    refine sG F (o_leq (F.ev rfl) (F.ev rfl) ?_); clear F a; intro a F
    refine sD F (o_pickT (F.ev rfl) (F.ev rfl) ?_); clear F a; intro a F
    refine sD F (o_assign (F.ev rfl) ?_); clear F a; intro a F
    with_reducible refine l_nil (q_then (c_ret ?_))
    refine p_ret F rfl (.cons (.tmp (F.ev rfl)) .nil) ?_
    exact ⟨rfl, M.ext⟩
  · rw [decide_eq_false h, Bool.false_and]
    refine fn_ofM (n := 9) [] Tryz.func95 rfl rfl rfl ?_
    intro a w F M hwW
    refine c_seq (c_region ?_)
    refine sD F (o_assign (F.ev rfl) ?_); clear F a; intro a F
    with_reducible refine l_nil (q_then (c_seq (c_region ?_)))
    refine sD F (o_move (F.ev rfl) ?_); clear F a; intro a F
    refine sD F (o_geqF (F.ev rfl) (F.ev rfl) (by omega) ?_); clear F a; intro a F
    refine sD F (o_move (F.ev rfl) ?_); clear F a; intro a F
    refine sO F ?_; clear F a; intro a F
    refine sO F ?_; clear F a; intro a F
    refine sD F (o_pickF (F.ev rfl) (F.ev rfl) ?_); clear F a; intro a F
    refine sD F (o_assign (F.ev rfl) ?_); clear F a; intro a F
    with_reducible refine l_nil (q_then (c_ret ?_))
    refine p_ret F rfl (.cons (.tmp (F.ev rfl)) .nil) ?_
    exact ⟨rfl, M.ext⟩
theorem rlater_c (a d : Int) (h0 : 0 ≤ a) (h1 : a ≤ 1099511627776) (d0 : 0 ≤ d) (d1 : d ≤ 1099511627776) (W : World) : Cal Tryz.prog 76 [.int .i64 a, .int .i64 d].toArray W fun v w' => v = .int .i64 (laterV a d) ∧ Ext [] W w' := by
  refine fn_ofM (n := 9) [] Tryz.func76 rfl rfl rfl ?_
  intro a w F M hwW
  refine c_seq (c_region ?_)
  refine sD F (o_assign (F.ev rfl) ?_); clear F a; intro a F
  with_reducible refine l_nil (q_then (c_seq (c_region ?_)))
  refine sD F (o_move (F.ev rfl) ?_); clear F a; intro a F
  refine sD F (o_move (F.ev rfl) ?_); clear F a; intro a F
  refine sD F (o_add (F.ev rfl) (F.ev rfl) (w_i64 (by omega) (by omega)) ?_); clear F a; intro a F
  refine sD F (o_min (F.ev rfl) (F.ev rfl) ?_); clear F a; intro a F
  refine sD F (o_assign (F.ev rfl) ?_); clear F a; intro a F
  with_reducible refine l_nil (q_then (c_ret ?_))
  refine p_ret F rfl (.cons (.tmp (F.ev rfl)) .nil) ?_
  exact ⟨rfl, M.ext⟩
theorem sqvalid_c (d : DisV) (W : World) : Cal Tryz.prog 75 [.agg (diC d).toArray].toArray W fun v w' => v = .bool (validM d.met) ∧ Ext [] W w' := by
  have e1 := di_met (o := d) trivial
  refine fn_ofM (n := 6) [] Tryz.func75 rfl rfl rfl ?_
  intro a w F M hwW
  refine c_seq ?_
  refine c_region ?_
  (refine sD F (o_box M (F.ev rfl) rfl ?_); clear F M; intro b1 w M a F)
  refine sD F (o_assign (F.ev rfl) ?_); clear F a; intro a F
  with_reducible refine l_nil (q_then (c_seq (c_region ?_)))
  refine sD F (o_fieldAddr (F.ev rfl) ?_); clear F a; intro a F
  refine sD F (o_load1 M (F.ev rfl) (by repeat constructor) (by first | assumption | rfl) ?_); clear F a; intro a F
  (refine sD F (o_call (F.ev rfl) (F.evs rfl) (Cal.mono (mvalid_c d.met _) ?_)); clear F; clear a; rintro _ w ⟨rfl, hE⟩ a F; replace M := M.later hE; clear hE)
  refine sD F (o_assign (F.ev rfl) ?_); clear F a; intro a F
  with_reducible refine l_nil (q_then (c_ret ?_))
  refine p_ret F rfl (.cons (.tmp (F.ev rfl)) .nil) ?_
  exact ⟨rfl, M.ext⟩
theorem rtfin_c (d : DisV) (W : World) : Cal Tryz.prog 94 [.agg (diC d).toArray].toArray W fun v w' => v = .bool (finD d) ∧ Ext [] W w' := by
  have e1 := di_met (o := d) trivial
  have e2 := di_all (o := d) trivial
  unfold finD inf
  refine fn_ofM (n := 10) [] Tryz.func94 rfl rfl rfl ?_
  intro a w F M hwW
  refine c_seq ?_
  refine c_region ?_
  (refine sD F (o_box M (F.ev rfl) rfl ?_); clear F M; intro b1 w M a F)
  refine sD F (o_assign (F.ev rfl) ?_); clear F a; intro a F
  with_reducible refine l_nil (q_then (c_seq (c_region ?_)))
  refine sD F (o_loadA M (F.ev rfl) (by repeat constructor) (by first | assumption | rfl) ?_); clear F a; intro a F
  (refine sD F (o_call (F.ev rfl) (F.evs rfl) (Cal.mono (sqvalid_c d _) ?_)); clear F; clear a; rintro _ w ⟨rfl, hE⟩ a F; replace M := M.later hE; clear hE)
  cases h1 : validM d.met
  · rw [h1] at F
    refine sD F (o_move (F.ev rfl) ?_); clear F a; intro a F
    refine sO F ?_; clear F a; intro a F
    refine sO F ?_; clear F a; intro a F
    refine sO F ?_; clear F a; intro a F
    refine sD F (o_pickF (F.ev rfl) (F.ev rfl) ?_); clear F a; intro a F
    refine sD F (o_assign (F.ev rfl) ?_); clear F a; intro a F
    with_reducible refine l_nil (q_then (c_ret ?_))
    refine p_ret F rfl (.cons (.tmp (F.ev rfl)) .nil) ?_
    exact ⟨rfl, M.ext⟩
  · rw [h1] at F
    by_cases h2 : d.met = 65535
    · rw [decide_eq_true h2]
      refine sD F (o_move (F.ev rfl) ?_); clear F a; intro a F
      refine sG F (o_fieldAddr (F.ev rfl) ?_); clear F a; intro a F
      refine sG F (o_load1 M (F.ev rfl) (by repeat constructor) (by first | assumption | rfl) ?_); clear F a; intro a F
      refine sG F (o_neqF (F.ev rfl) (F.ev rfl) (by omega) ?_); clear F a; intro a F
      refine sD F (o_pickT (F.ev rfl) (F.ev rfl) ?_); clear F a; intro a F
      refine sD F (o_assign (F.ev rfl) ?_); clear F a; intro a F
      with_reducible refine l_nil (q_then (c_ret ?_))
      refine p_ret F rfl (.cons (.tmp (F.ev rfl)) .nil) ?_
      exact ⟨rfl, M.ext⟩
    · rw [decide_eq_false h2]
      refine sD F (o_move (F.ev rfl) ?_); clear F a; intro a F
      refine sG F (o_fieldAddr (F.ev rfl) ?_); clear F a; intro a F
      refine sG F (o_load1 M (F.ev rfl) (by repeat constructor) (by first | assumption | rfl) ?_); clear F a; intro a F
      refine sG F (o_neqT (F.ev rfl) (F.ev rfl) (by omega) ?_); clear F a; intro a F
      refine sD F (o_pickT (F.ev rfl) (F.ev rfl) ?_); clear F a; intro a F
      refine sD F (o_assign (F.ev rfl) ?_); clear F a; intro a F
      with_reducible refine l_nil (q_then (c_ret ?_))
      refine p_ret F rfl (.cons (.tmp (F.ev rfl)) .nil) ?_
      exact ⟨rfl, M.ext⟩
set_option maxHeartbeats 1000000 in
theorem rorder_c (x y : RouV) (ha : IsRo x) (hb : IsRo y) (W : World) : Cal Tryz.prog 78 [.agg (roC x).toArray, .agg (roC y).toArray].toArray W fun v w' => v = .int .i64 (cmpR x y) ∧ Ext [] W w' := by
  have a1 := ro_to ha
  have a2 := ro_nb ha
  have c1 := ro_to hb
  have c2 := ro_nb hb
  have hr : cmpR x y = orV [cmpD x.to y.to, cmpV x.nb y.nb] := by
    rw [cmpR_or ha.1 hb.1]
    simp only [orV, orI]
    repeat' split
    all_goals first | rfl | (rename_i h; exact h) | (rename_i h; exact h.symm) | simp_all [cmpI, cmpV]
  rw [hr]
  refine fn_ofM (n := 17) [] Tryz.func78 rfl rfl rfl ?_
  intro a w F M hwW
  refine c_seq ?_
  refine c_region ?_
  (refine sD F (o_box M (F.ev rfl) rfl ?_); clear F M; intro b2 w M a F)
  (refine sD F (o_box M (F.ev rfl) rfl ?_); clear F M; intro b3 w M a F)
  refine sD F (o_assign (F.ev rfl) ?_); clear F a; intro a F
  with_reducible refine l_nil (q_then (c_seq ?_))
  replace F := F.only [2, 3] rfl
  refine c_draw 10 F (by kernel_rfl) ?_
  intro w1 hE hok
  have M1 := M.later hE
  refine mK hok rfl rfl (fun a' w' F' E' => o_fieldAddr (F'.ev rfl) ⟨Ext.refl _ _, rfl⟩) ?_
  refine mK hok rfl rfl (fun a' w' F' E' => o_loadA (M1.later E') (F'.ev rfl) (by repeat constructor) (by first | assumption | rfl) ⟨Ext.refl _ _, rfl⟩) ?_
  refine mK hok rfl rfl (fun a' w' F' E' => o_fieldAddr (F'.ev rfl) ⟨Ext.refl _ _, rfl⟩) ?_
  refine mK hok rfl rfl (fun a' w' F' E' => o_loadA (M1.later E') (F'.ev rfl) (by repeat constructor) (by first | assumption | rfl) ⟨Ext.refl _ _, rfl⟩) ?_
  (refine mK hok rfl rfl (fun a' w' F' E' => o_call (F'.ev rfl) (F'.evs rfl) (Cal.mono (scompare_c x.to y.to ha.1 hb.1 _) fun _ _ hh => ⟨hh.2, hh.1⟩)) ?_)
  refine mK hok rfl rfl (fun a' w' F' E' => o_fieldAddr (F'.ev rfl) ⟨Ext.refl _ _, rfl⟩) ?_
  refine mK hok rfl rfl (fun a' w' F' E' => o_load1 (M1.later E') (F'.ev rfl) (by repeat constructor) (by first | assumption | rfl) ⟨Ext.refl _ _, rfl⟩) ?_
  refine mK hok rfl rfl (fun a' w' F' E' => o_fieldAddr (F'.ev rfl) ⟨Ext.refl _ _, rfl⟩) ?_
  refine mK hok rfl rfl (fun a' w' F' E' => o_load1 (M1.later E') (F'.ev rfl) (by repeat constructor) (by first | assumption | rfl) ⟨Ext.refl _ _, rfl⟩) ?_
  (refine mK hok rfl rfl (fun a' w' F' E' => o_call (F'.ev rfl) (F'.evs rfl) (Cal.mono (cmp_eui x.nb y.nb _) fun _ _ hh => ⟨hh.2, hh.1⟩)) ?_)
  skip
  (refine mDone rfl rfl ?_; clear F M; intro a w F hE2 hX hTT hDD hPP; have M := M1.later hE2; clear M1; clear hX; clear hE2; clear hok; clear hE; clear hTT; clear hDD; clear hPP; (try dsimp only at F))
  (refine sD F (o_buildSlice F M rfl rfl rfl rfl ?_); clear F M; intro b15 w M a F)
  (refine sD F (o_call (F.ev rfl) (F.evs rfl) (Cal.mono (or_c (b := b15) [cmpD x.to y.to, cmpV x.nb y.nb] 2 rfl (by omega) _ (M.heap .here)) ?_)); clear F; clear a; rintro _ w ⟨rfl, hE⟩ a F; replace M := M.later hE; clear hE)
  refine sD F (o_assign (F.ev rfl) ?_); clear F a; intro a F
  with_reducible refine l_nil (q_then (c_ret ?_))
  refine p_ret F rfl (.cons (.tmp (F.ev rfl)) .nil) ?_
  exact ⟨rfl, M.ext⟩
set_option maxHeartbeats 1000000 in
theorem rnearest_c (x y : DstV) (ha : IsDv x) (hb : IsDv y) (W : World) : Cal Tryz.prog 108 [.agg (dvC x).toArray, .agg (dvC y).toArray].toArray W fun v w' => v = .int .i64 (nearC x y) ∧ Ext [] W w' := by
  have a1 := dv_dbits ha
  have a2 := dv_sbits ha
  have c1 := dv_dbits hb
  have c2 := dv_sbits hb
  have hr : nearC x y = orV [cmpV x.dbits y.dbits, cmpV x.sbits y.sbits] := by
    simp only [nearC, orV, orI]
    repeat' split
    all_goals first | rfl | (rename_i h; exact h) | (rename_i h; exact h.symm) | simp_all [cmpI, cmpV]
  rw [hr]
  refine fn_ofM (n := 21) [] Tryz.func108 rfl rfl rfl ?_
  intro a w F M hwW
  refine c_seq ?_
  refine c_region ?_
  (refine sD F (o_box M (F.ev rfl) rfl ?_); clear F M; intro b2 w M a F)
  (refine sD F (o_box M (F.ev rfl) rfl ?_); clear F M; intro b3 w M a F)
  refine sD F (o_assign (F.ev rfl) ?_); clear F a; intro a F
  with_reducible refine l_nil (q_then (c_seq ?_))
  replace F := F.only [2, 3] rfl
  refine c_draw 14 F (by kernel_rfl) ?_
  intro w1 hE hok
  have M1 := M.later hE
  refine mK hok rfl rfl (fun a' w' F' E' => o_fieldAddr (F'.ev rfl) ⟨Ext.refl _ _, rfl⟩) ?_
  refine mK hok rfl rfl (fun a' w' F' E' => o_fieldAddr (F'.ev rfl) ⟨Ext.refl _ _, rfl⟩) ?_
  refine mK hok rfl rfl (fun a' w' F' E' => o_load1 (M1.later E') (F'.ev rfl) (by repeat constructor) (by first | assumption | rfl) ⟨Ext.refl _ _, rfl⟩) ?_
  refine mK hok rfl rfl (fun a' w' F' E' => o_fieldAddr (F'.ev rfl) ⟨Ext.refl _ _, rfl⟩) ?_
  refine mK hok rfl rfl (fun a' w' F' E' => o_fieldAddr (F'.ev rfl) ⟨Ext.refl _ _, rfl⟩) ?_
  refine mK hok rfl rfl (fun a' w' F' E' => o_load1 (M1.later E') (F'.ev rfl) (by repeat constructor) (by first | assumption | rfl) ⟨Ext.refl _ _, rfl⟩) ?_
  (refine mK hok rfl rfl (fun a' w' F' E' => o_call (F'.ev rfl) (F'.evs rfl) (Cal.mono (cmp_int x.dbits y.dbits _) fun _ _ hh => ⟨hh.2, hh.1⟩)) ?_)
  refine mK hok rfl rfl (fun a' w' F' E' => o_fieldAddr (F'.ev rfl) ⟨Ext.refl _ _, rfl⟩) ?_
  refine mK hok rfl rfl (fun a' w' F' E' => o_fieldAddr (F'.ev rfl) ⟨Ext.refl _ _, rfl⟩) ?_
  refine mK hok rfl rfl (fun a' w' F' E' => o_load1 (M1.later E') (F'.ev rfl) (by repeat constructor) (by first | assumption | rfl) ⟨Ext.refl _ _, rfl⟩) ?_
  refine mK hok rfl rfl (fun a' w' F' E' => o_fieldAddr (F'.ev rfl) ⟨Ext.refl _ _, rfl⟩) ?_
  refine mK hok rfl rfl (fun a' w' F' E' => o_fieldAddr (F'.ev rfl) ⟨Ext.refl _ _, rfl⟩) ?_
  refine mK hok rfl rfl (fun a' w' F' E' => o_load1 (M1.later E') (F'.ev rfl) (by repeat constructor) (by first | assumption | rfl) ⟨Ext.refl _ _, rfl⟩) ?_
  (refine mK hok rfl rfl (fun a' w' F' E' => o_call (F'.ev rfl) (F'.evs rfl) (Cal.mono (cmp_int x.sbits y.sbits _) fun _ _ hh => ⟨hh.2, hh.1⟩)) ?_)
  skip
  (refine mDone rfl rfl ?_; clear F M; intro a w F hE2 hX hTT hDD hPP; have M := M1.later hE2; clear M1; clear hX; clear hE2; clear hok; clear hE; clear hTT; clear hDD; clear hPP; (try dsimp only at F))
  (refine sD F (o_buildSlice F M rfl rfl rfl rfl ?_); clear F M; intro b19 w M a F)
  (refine sD F (o_call (F.ev rfl) (F.evs rfl) (Cal.mono (or_c (b := b19) [cmpV x.dbits y.dbits, cmpV x.sbits y.sbits] 2 rfl (by omega) _ (M.heap .here)) ?_)); clear F; clear a; rintro _ w ⟨rfl, hE⟩ a F; replace M := M.later hE; clear hE)
  refine sD F (o_assign (F.ev rfl) ?_); clear F a; intro a F
  with_reducible refine l_nil (q_then (c_ret ?_))
  refine p_ret F rfl (.cons (.tmp (F.ev rfl)) .nil) ?_
  exact ⟨rfl, M.ext⟩
theorem rtreach_c (e : InsV) (he : IsIn e) (W : World) : Cal Tryz.prog 104 [.agg (inC e).toArray].toArray W fun v w' => v = .bool (!decide (e.nb = 0)) ∧ Ext [] W w' := by
  have e1 := in_nb he
  refine fn_ofM (n := 6) [] Tryz.func104 rfl rfl rfl ?_
  intro a w F M hwW
  refine c_seq ?_
  refine c_region ?_
  (refine sD F (o_box M (F.ev rfl) rfl ?_); clear F M; intro b1 w M a F)
  by_cases h : e.nb = 0
  · rw [decide_eq_true h]
    refine sD F (o_assign (F.ev rfl) ?_); clear F a; intro a F
    with_reducible refine l_nil (q_then (c_seq (c_region ?_)))
    refine sD F (o_fieldAddr (F.ev rfl) ?_); clear F a; intro a F
    refine sD F (o_load1 M (F.ev rfl) (by repeat constructor) (by first | assumption | rfl) ?_); clear F a; intro a F
    refine sD F (o_neqF (F.ev rfl) (F.ev rfl) (by omega) ?_); clear F a; intro a F
    refine sD F (o_assign (F.ev rfl) ?_); clear F a; intro a F
    with_reducible refine l_nil (q_then (c_ret ?_))
    refine p_ret F rfl (.cons (.tmp (F.ev rfl)) .nil) ?_
    exact ⟨rfl, M.ext⟩
  · rw [decide_eq_false h]
    refine sD F (o_assign (F.ev rfl) ?_); clear F a; intro a F
    with_reducible refine l_nil (q_then (c_seq (c_region ?_)))
    refine sD F (o_fieldAddr (F.ev rfl) ?_); clear F a; intro a F
    refine sD F (o_load1 M (F.ev rfl) (by repeat constructor) (by first | assumption | rfl) ?_); clear F a; intro a F
    refine sD F (o_neqT (F.ev rfl) (F.ev rfl) (by omega) ?_); clear F a; intro a F
    refine sD F (o_assign (F.ev rfl) ?_); clear F a; intro a F
    with_reducible refine l_nil (q_then (c_ret ?_))
    refine p_ret F rfl (.cons (.tmp (F.ev rfl)) .nil) ?_
    exact ⟨rfl, M.ext⟩
theorem lookup1_c (e : InsV) (he : IsIn e) (t : DstV) (ht : IsDv t) {bt : Nat} {ft : Nat × Nat} (W : World) (hb : W.heap[bt]? = some (.cells (dvC t).toArray 45 ft)) : Cal Tryz.prog 110 [.agg (inC e).toArray, .pointer (some ⟨bt, 0, none⟩)].toArray W fun v w' => v = .bool (decide (e.to = t)) ∧ Ext [] W w' := by
  have e1 := in_to he
  have e2 := dv_all ht
  have e3 := dv_fits he.1
  have e5 := dv_fits ht
  have e4 := dv_eq he.1 ht
  refine fn_ofM (n := 8) [] Tryz.func110 rfl rfl rfl ?_
  intro a w F M hwW
  refine c_seq ?_
  refine c_region ?_
  (refine sD F (o_box M (F.ev rfl) rfl ?_); clear F M; intro b2 w M a F)
  refine sD F (o_assign (F.ev rfl) ?_); clear F a; intro a F
  with_reducible refine l_nil (q_then (c_seq (c_region ?_)))
  refine sD F (o_fieldAddr (F.ev rfl) ?_); clear F a; intro a F
  refine sD F (o_loadA M (F.ev rfl) (by repeat constructor) (by first | assumption | rfl) ?_); clear F a; intro a F
  refine sD F (o_loadWA M (F.ev rfl) (by assumption) (by first | assumption | rfl) ?_); clear F a; intro a F
  refine sD F (o_eqlA (F.ev rfl) (F.ev rfl) (by first | assumption | rfl) (by first | assumption | rfl) ?_); clear F a; intro a F
  refine sD F (o_assign (F.ev rfl) ?_); clear F a; intro a F
  with_reducible refine l_nil (q_then (c_ret ?_))
  rw [e4] at F
  refine p_ret F rfl (.cons (.tmp (F.ev rfl)) .nil) ?_
  exact ⟨rfl, M.ext⟩
theorem addM_c (x y : Int) (W : World) : Cal Tryz.prog 52 [.int .i64 x, .int .i64 y].toArray W fun v w' => v = .int .i64 (addM x y) ∧ Ext [] W w' := by
  unfold addM inf
  refine fn_ofM (n := 17) [] Tryz.func52 rfl rfl rfl ?_
  intro a w F M hwW
  refine c_seq (c_region ?_)
  refine sD F (o_assign (F.ev rfl) ?_); clear F a; intro a F
  with_reducible refine l_nil (q_then (c_seq (c_seq (c_region ?_))))
  refine sD F (o_move (F.ev rfl) ?_); clear F a; intro a F
  (refine sD F (o_call (F.ev rfl) (F.evs rfl) (Cal.mono (mvalid_c x _) ?_)); clear F; clear a; rintro _ w ⟨rfl, hE⟩ a F; replace M := M.later hE; clear hE)
  cases h1 : validM x
  · rw [h1] at F
    refine sD F (o_not (F.ev rfl) ?_); clear F a; intro a F
    refine sD F (o_move (F.ev rfl) ?_); clear F a; intro a F
    refine sO F ?_; clear F a; intro a F
    refine sO F ?_; clear F a; intro a F
    refine sO F ?_; clear F a; intro a F
    refine sD F (o_pickT (F.ev rfl) (F.ev rfl) ?_); clear F a; intro a F
    with_reducible refine l_nil (q_then ?_)
    refine c_true F rfl rfl ?_
    refine c_seq (c_region ?_)
    refine sD F (o_assign (F.ev rfl) ?_); clear F a; intro a F
    with_reducible refine l_nil (q_then (c_ret (q_thenR ?_)))
    refine p_ret F rfl (.cons (.tmp (F.ev rfl)) .nil) ?_
    exact ⟨rfl, M.ext⟩
  rw [h1] at F
  refine sD F (o_not (F.ev rfl) ?_); clear F a; intro a F
  refine sD F (o_move (F.ev rfl) ?_); clear F a; intro a F
  refine sG F (o_move (F.ev rfl) ?_); clear F a; intro a F
  (refine sG F (o_call (F.ev rfl) (F.evs rfl) (Cal.mono (mvalid_c y _) ?_)); clear F; clear a; rintro _ w ⟨rfl, hE⟩ a F; replace M := M.later hE; clear hE)
  cases h2 : validM y
  · rw [h2] at F
    refine sG F (o_not (F.ev rfl) ?_); clear F a; intro a F
    refine sD F (o_pickF (F.ev rfl) (F.ev rfl) ?_); clear F a; intro a F
    with_reducible refine l_nil (q_then ?_)
    refine c_true F rfl rfl ?_
    refine c_seq (c_region ?_)
    refine sD F (o_assign (F.ev rfl) ?_); clear F a; intro a F
    with_reducible refine l_nil (q_then (c_ret (q_thenR ?_)))
    refine p_ret F rfl (.cons (.tmp (F.ev rfl)) .nil) ?_
    exact ⟨rfl, M.ext⟩
  rw [h2] at F
  unfold validM at h1 h2
  simp only [Bool.and_eq_true, decide_eq_true_eq] at h1 h2
  refine sG F (o_not (F.ev rfl) ?_); clear F a; intro a F
  refine sD F (o_pickF (F.ev rfl) (F.ev rfl) ?_); clear F a; intro a F
  with_reducible refine l_nil (q_then ?_)
  refine c_false F rfl rfl ?_
  with_reducible refine c_skip (q_then (c_seq (c_region ?_)))
  refine sD F (o_move (F.ev rfl) ?_); clear F a; intro a F
  refine sD F (o_move (F.ev rfl) ?_); clear F a; intro a F
  refine sD F (o_add (F.ev rfl) (F.ev rfl) (w_i64 (by omega) (by omega)) ?_); clear F a; intro a F
  refine sD F (o_min (F.ev rfl) (F.ev rfl) ?_); clear F a; intro a F
  refine sD F (o_assign (F.ev rfl) ?_); clear F a; intro a F
  with_reducible refine l_nil (q_then (c_ret ?_))
  refine p_ret F rfl (.cons (.tmp (F.ev rfl)) .nil) ?_
  exact ⟨by
    show _ = Value.int .i64 (min (x + y) 65535)
    rw [show min (x + y) 65535 = if 65535 < x + y then 65535 else x + y by split <;> omega]
    rfl, M.ext⟩
set_option maxHeartbeats 1000000 in
theorem newer_c (x y : Int) (W : World) : Cal Tryz.prog 156 [.int .u16 x, .int .u16 y].toArray W fun v w' => v = .bool (newerV x y) ∧ Ext [] W w' := by
  obtain ⟨d, hd⟩ : ∃ d, d = IntKind.u16.wrap (x - y) := ⟨_, rfl⟩
  have hn : newerV x y = ((decide (1 ≤ d) && decide (d < 32768)) || (decide (d = 32768) && decide (y < x))) := by rw [hd]; rfl
  rw [hn]
  refine fn_ofM (n := 24) [] Tryz.func156 rfl rfl rfl ?_
  intro a w F M hwW
  refine c_seq (c_region ?_)
  refine sD F (o_assign (F.ev rfl) ?_); clear F a; intro a F
  with_reducible refine l_nil (q_then (c_seq (c_region ?_)))
  refine sD F (o_move (F.ev rfl) ?_); clear F a; intro a F
  refine sD F (o_move (F.ev rfl) ?_); clear F a; intro a F
  refine sD F (o_sub (F.ev rfl) (F.ev rfl) rfl ?_); clear F a; intro a F
  refine sD F (o_assign (F.ev rfl) ?_); clear F a; intro a F
  with_reducible refine l_nil (q_then (c_seq (c_region ?_)))
  refine sD F (o_move (F.ev rfl) ?_); clear F a; intro a F
  refine sD F (o_geq (F.ev rfl) (F.ev rfl) ?_); clear F a; intro a F
  refine sD F (o_move (F.ev rfl) ?_); clear F a; intro a F
  rw [← hd] at F
  by_cases h1 : 1 ≤ d
  · rw [decide_eq_true h1] at F
    rw [decide_eq_true h1]
    by_cases h2 : d < 32768
    · rw [decide_eq_true h2]
      refine sG F (o_move (F.ev rfl) ?_); clear F a; intro a F
      refine sG F (o_lssT (F.ev rfl) (F.ev rfl) (by omega) ?_); clear F a; intro a F
      refine sD F (o_pickT (F.ev rfl) (F.ev rfl) ?_); clear F a; intro a F
      refine sD F (o_move (F.ev rfl) ?_); clear F a; intro a F
      refine sO F ?_; clear F a; intro a F
      refine sO F ?_; clear F a; intro a F
      refine sO F ?_; clear F a; intro a F
      refine sO F ?_; clear F a; intro a F
      refine sO F ?_; clear F a; intro a F
      refine sO F ?_; clear F a; intro a F
      refine sO F ?_; clear F a; intro a F
      refine sD F (o_pickT (F.ev rfl) (F.ev rfl) ?_); clear F a; intro a F
      refine sD F (o_assign (F.ev rfl) ?_); clear F a; intro a F
      with_reducible refine l_nil (q_then (c_ret ?_))
      refine p_ret F rfl (.cons (.tmp (F.ev rfl)) .nil) ?_
      exact ⟨rfl, M.ext⟩
    · by_cases h3 : d = 32768
      · rw [decide_eq_false h2, decide_eq_true h3]
        refine sG F (o_move (F.ev rfl) ?_); clear F a; intro a F
        refine sG F (o_lssF (F.ev rfl) (F.ev rfl) (by omega) ?_); clear F a; intro a F
        refine sD F (o_pickT (F.ev rfl) (F.ev rfl) ?_); clear F a; intro a F
        refine sD F (o_move (F.ev rfl) ?_); clear F a; intro a F
        refine sG F (o_move (F.ev rfl) ?_); clear F a; intro a F
        refine sG F (o_eqlT (F.ev rfl) (F.ev rfl) (by omega) ?_); clear F a; intro a F
        refine sG F (o_move (F.ev rfl) ?_); clear F a; intro a F
        refine sG F (o_move (F.ev rfl) ?_); clear F a; intro a F
        refine sG F (o_move (F.ev rfl) ?_); clear F a; intro a F
        refine sG F (o_gtr (F.ev rfl) (F.ev rfl) ?_); clear F a; intro a F
        refine sG F (o_pickT (F.ev rfl) (F.ev rfl) ?_); clear F a; intro a F
        refine sD F (o_pickF (F.ev rfl) (F.ev rfl) ?_); clear F a; intro a F
        refine sD F (o_assign (F.ev rfl) ?_); clear F a; intro a F
        with_reducible refine l_nil (q_then (c_ret ?_))
        refine p_ret F rfl (.cons (.tmp (F.ev rfl)) .nil) ?_
        exact ⟨rfl, M.ext⟩
      · rw [decide_eq_false h2, decide_eq_false h3]
        refine sG F (o_move (F.ev rfl) ?_); clear F a; intro a F
        refine sG F (o_lssF (F.ev rfl) (F.ev rfl) (by omega) ?_); clear F a; intro a F
        refine sD F (o_pickT (F.ev rfl) (F.ev rfl) ?_); clear F a; intro a F
        refine sD F (o_move (F.ev rfl) ?_); clear F a; intro a F
        refine sG F (o_move (F.ev rfl) ?_); clear F a; intro a F
        refine sG F (o_eqlF (F.ev rfl) (F.ev rfl) (by omega) ?_); clear F a; intro a F
        refine sG F (o_move (F.ev rfl) ?_); clear F a; intro a F
        refine sO F ?_; clear F a; intro a F
        refine sO F ?_; clear F a; intro a F
        refine sO F ?_; clear F a; intro a F
        refine sG F (o_pickF (F.ev rfl) (F.ev rfl) ?_); clear F a; intro a F
        refine sD F (o_pickF (F.ev rfl) (F.ev rfl) ?_); clear F a; intro a F
        refine sD F (o_assign (F.ev rfl) ?_); clear F a; intro a F
        with_reducible refine l_nil (q_then (c_ret ?_))
        refine p_ret F rfl (.cons (.tmp (F.ev rfl)) .nil) ?_
        exact ⟨rfl, M.ext⟩
  · rw [decide_eq_false h1] at F
    rw [decide_eq_false h1, decide_eq_false (show ¬ d = 32768 by omega)]
    refine sO F ?_; clear F a; intro a F
    refine sO F ?_; clear F a; intro a F
    refine sD F (o_pickF (F.ev rfl) (F.ev rfl) ?_); clear F a; intro a F
    refine sD F (o_move (F.ev rfl) ?_); clear F a; intro a F
    refine sG F (o_move (F.ev rfl) ?_); clear F a; intro a F
    refine sG F (o_eqlF (F.ev rfl) (F.ev rfl) (by omega) ?_); clear F a; intro a F
    refine sG F (o_move (F.ev rfl) ?_); clear F a; intro a F
    refine sO F ?_; clear F a; intro a F
    refine sO F ?_; clear F a; intro a F
    refine sO F ?_; clear F a; intro a F
    refine sG F (o_pickF (F.ev rfl) (F.ev rfl) ?_); clear F a; intro a F
    refine sD F (o_pickF (F.ev rfl) (F.ev rfl) ?_); clear F a; intro a F
    refine sD F (o_assign (F.ev rfl) ?_); clear F a; intro a F
    with_reducible refine l_nil (q_then (c_ret ?_))
    refine p_ret F rfl (.cons (.tmp (F.ev rfl)) .nil) ?_
    exact ⟨rfl, M.ext⟩
end Go.Proofs.YtilgoepokaaleaaGreat

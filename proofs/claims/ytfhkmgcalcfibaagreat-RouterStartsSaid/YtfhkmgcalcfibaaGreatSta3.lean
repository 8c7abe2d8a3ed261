/-
  Texts joined.
-/
import Derived.Test.YtfhkmgcalcfibaaGreatSta2
set_option linter.unusedVariables false
set_option linter.unusedSimpArgs false
set_option maxHeartbeats 64000000
namespace Go.Proofs.YtfhkmgcalcfibaaGreat
open Go.RowKit
section
open Go.RowKit
attribute [local irreducible] OpTo wpListIn Code.wpIn MW Cal
theorem xor8_bd (m n : Int) : 0 ≤ bitsOf .xor .u8 m n ∧ bitsOf .xor .u8 m n < 256 := by
 unfold bitsOf
 simp only [IntKind.wrap, IntKind.signed, IntKind.bits, Bool.false_and, Bool.false_eq_true, if_false]
 omega
theorem nextE_c {bt : Nat} {p : Option Addr} {len cap k : Nat} {xs : List Int} (n : Int) (hn : 0 < n) (hn2 : n ≤ 9223372036854775807) (W : World) (hT : TapeS W bt p len xs) (hb : W.heap[bt]? = some (tobj p len cap k)) :
  Cal Tryz.prog 28 [.pointer (some ⟨bt, 0, none⟩), .int .i64 n].toArray W fun v w' => ∃ x k', v = .int .i64 x ∧ (0 ≤ x ∧ x < n) ∧ Mem [bt] W w' [(bt, tobj p len cap k')] :=
 Cal.mono (next_c n hn hn2 W hT hb) fun _ _ h => ⟨_, _, h.1, nxV_bd _ _ hn, h.2⟩
theorem boolE_c {bt : Nat} {p : Option Addr} {len cap k : Nat} {xs : List Int} (n : Int) (hn : 0 < n) (hn2 : n ≤ 9223372036854775807) (W : World) (hT : TapeS W bt p len xs) (hb : W.heap[bt]? = some (tobj p len cap k)) :
  Cal Tryz.prog 14 [.pointer (some ⟨bt, 0, none⟩), .int .i64 n].toArray W fun v w' => ∃ x k', v = .bool x ∧ Mem [bt] W w' [(bt, tobj p len cap k')] :=
 Cal.mono (bool_c n hn hn2 W hT hb) fun _ _ h => ⟨_, _, h.1, h.2⟩
theorem eui_c {bt : Nat} {p : Option Addr} {len cap k : Nat} {xs : List Int} (W : World) (hT : TapeS W bt p len xs) (hb : W.heap[bt]? = some (tobj p len cap k)) :
  Cal Tryz.prog 25 [.pointer (some ⟨bt, 0, none⟩)].toArray W fun v w' => ∃ x k', v = .int .u64 x ∧ (1 ≤ x ∧ x ≤ 5) ∧ Mem [bt] W w' [(bt, tobj p len cap k')] := by
 refine fn_ofM (n := 7) [bt] Tryz.func25 rfl rfl rfl ?_
 intro a w F M hwW
 replace M := M.came hwW hb (by simp) (by simp)
 refine c_seq (c_region ?_)
 refine sD F (o_assign (F.e rfl) ?_);clear F a;intro a F
 with_reducible refine l_nil (q_then (c_seq (c_region ?_)))
 refine sD F (o_move (F.e rfl) ?_);clear F a;intro a F
 (refine sD F (o_call (F.e rfl) (F.evs rfl) (Cal.mono (nextE_c 5 (by omega) (by omega) _ (hT.later M.ext) (M.heap .here) ) ?_));clear F;clear a;have M0 := M;clear M;rintro _ w ⟨x, k', rfl, hx, N⟩ a F)
 replace M := M0.turn1 N .here
 refine sD F (o_add (F.e rfl) (F.e rfl) (w_i64 (by omega) (by omega)) fun a F => sD F (o_conv (F.e rfl) (w_u64 (by omega) (by omega)) fun a F => sD F (o_assign (F.e rfl) ?_)));iterate 3 clear F a
 intro a F
 with_reducible refine l_nil (q_then (c_ret ?_))
 exact p_ret F rfl (.cons (.tmp (F.e rfl)) .nil) (⟨1 + x, k', rfl, by omega, M⟩)
def isTime (t : Int) : Bool := decide (0 ≤ t) && decide (t ≤ 1099511627776)
def laterV (a d : Int) : Int := if 1099511627776 < a + d then 1099511627776 else a + d
theorem bytesCompare_c {v u : Value} {n m : Nat} {xs ys : List Int} (W : World) (h : SlAt W 1 v n (ipC xs)) (k : SlAt W 1 u m (ipC ys)) (hx : ∀ x ∈ xs, 0 ≤ x ∧ x < 256) (hy : ∀ x ∈ ys, 0 ≤ x ∧ x < 256) :
  Cal Tryz.prog 183 [v, u].toArray W fun x w' => x = .int .i64 (cmpL xs ys) ∧ Ext [] W w' := by
 refine fn_ofM (n := 8) [] Tryz.func183 rfl rfl rfl ?_
 intro a w F M hwW
 refine c_seq (c_region ?_)
 refine sD F (o_assign (F.e rfl) ?_);clear F a;intro a F
 with_reducible refine l_nil (q_then (c_seq (c_region ?_)))
 refine sD F (o_move (F.e rfl) fun a F => sD F (o_move (F.e rfl) ?_));iterate 2 clear F a
 intro a F
 (refine sD F (o_entry (F.e rfl) Tryz.func279 (by kernel_rfl) (by kernel_rfl) (by kernel_rfl) (e := Extern.BytealgCompare.compare) (by kernel_rfl) (F.evs rfl) (run_compare (h.later M.ext) (k.later M.ext) hx hy) ?_);clear F a;intro a F)
 refine sD F (o_assign (F.e rfl) ?_);clear F a;intro a F
 with_reducible refine l_nil (q_then (c_ret ?_))
 exact p_ret F rfl (.cons (.tmp (F.e rfl)) .nil) (⟨rfl, M.ext⟩)
def overlapP (p : List Int) (n : Int) (q : List Int) (m : Int) : Bool := coversP p n q m || coversP q m p n
end
section
open Go.RowKit
attribute [local irreducible] OpTo wpListIn Code.wpIn MW Cal
structure Lease where
 ip : List Int
 bits : Int
 own : Int
 til : Int
end
section
open Go.RowKit
attribute [local irreducible] OpTo wpListIn Code.wpIn MW Cal
end
section
open Go.RowKit
attribute [local irreducible] OpTo wpListIn Code.wpIn MW Cal
structure LeaseOk (p : List Int) (n : Int) (l : Lease) : Prop where
 ip : IsIP l.ip
 own0 : l.own ≠ 0
 own1 : 0 ≤ l.own ∧ l.own ≤ 18446744073709551615
 til : isTime l.til = true
 bits : l.bits ≤ 64
 cov : coversP p n l.ip l.bits = true
structure PoolOk (p : List Int) (n : Int) (ls : List Lease) : Prop where
 ip : IsIP p
 pre : validP p n = true
 bits : n ≤ 64
 len : ls.length ≤ 64
 each : ∀ l ∈ ls, LeaseOk p n l
 pw : ls.Pairwise fun x y => cmpL x.ip y.ip < 0 ∧ overlapP x.ip x.bits y.ip y.bits = false
end
section
open Go.RowKit
attribute [local irreducible] OpTo wpListIn Code.wpIn MW Cal
end
section
open Go.RowKit
attribute [local irreducible] OpTo wpListIn Code.wpIn MW Cal
theorem PoolOk.filter {p : List Int} {n : Int} {ls : List Lease} (h : PoolOk p n ls) (f : Lease → Bool) : PoolOk p n (ls.filter f) :=
 ⟨h.ip, h.pre, h.bits, Nat.le_trans (List.length_filter_le _ _) h.len, fun l hl => h.each l (List.mem_filter.1 hl).1, h.pw.filter _⟩
end
section
open Go.RowKit
attribute [local irreducible] OpTo wpListIn Code.wpIn MW Cal
end
section
open Go.RowKit
structure PInf where
 ip : List Int
 bits : Int
 onl : Bool
 aut : Bool
 life : Int
 deriving DecidableEq
def piC (o : PInf) : List Value := pfC o.ip o.bits ++ ([.bool o.onl, .bool o.aut, .int .u32 o.life])
def IsPi (o : PInf) : Prop := IsIP o.ip
abbrev pisC (l : List PInf) : List Value := encL piC l
structure CInf where
 id : Int
 ip : List Int
 bits : Int
 cmp : Bool
 life : Int
 deriving DecidableEq
def ciC (o : CInf) : List Value := [.int .i64 o.id] ++ (pfC o.ip o.bits ++ ([.bool o.cmp, .int .u16 o.life]))
def IsCi (o : CInf) : Prop := IsIP o.ip
abbrev cisC (l : List CInf) : List Value := encL ciC l
structure OffH where
 rt : List Int
 ver : Int
 til : Int
 deriving DecidableEq
def ofC (o : OffH) (ps : Value) (cs : Value) : List Value := ipC o.rt ++ ([.int .i64 o.ver, .int .i64 o.til, ps, cs])
def IsOf (o : OffH) : Prop := IsIP o.rt
end
section
open Go.RowKit
attribute [local irreducible] OpTo wpListIn Code.wpIn MW Cal
structure Off where
 h : OffH
 ps : List PInf
 cs : List CInf
 deriving DecidableEq
def IsOff (o : Off) : Prop := IsOf o.h ∧ (∀ p ∈ o.ps, IsPi p) ∧ ∀ c ∈ o.cs, IsCi c
structure OV where
 o : Off
 u : Value
 v : Value
def ovC (x : OV) : List Value := ofC x.o.h x.u x.v
def OffAt (W : World) (x : OV) : Prop := SlAt W 20 x.u x.o.ps.length (pisC x.o.ps) ∧ SlAt W 20 x.v x.o.cs.length (cisC x.o.cs)
theorem OffAt.later {W w : World} {x : OV} (h : OffAt W x) (E : Ext [] W w) : OffAt w x := ⟨h.1.later E, h.2.later E⟩
end
section
open Go.RowKit
attribute [local irreducible] OpTo wpListIn Code.wpIn MW Cal
theorem risTime_c (t : Int) (W : World) : Cal Tryz.prog 74 [.int .i64 t].toArray W fun v w' => v = .bool (isTime t) ∧ Ext [] W w' := by
 unfold isTime
 by_cases h : 0 ≤ t
 ·rw [dqT h, Bool.true_and]
  exact g_start (n := 9) (S := []) fldT_ok slcT_ok Tryz.func74 rfl rfl rfl (gR 10 rfl (g_know 5 rfl (dqT (by omega)) (gR 7 rfl (g_ret1 rfl rfl rfl fun w M => ⟨rfl, M.ext⟩))))
 ·rw [dqF h, Bool.false_and]
  exact g_start (n := 9) (S := []) fldT_ok slcT_ok Tryz.func74 rfl rfl rfl (gR 10 rfl (g_know 5 rfl (dqF (by omega)) (gR 7 rfl (g_ret1 rfl rfl rfl fun w M => ⟨rfl, M.ext⟩))))
theorem rafter_c (a d : Int) (h0 : 0 ≤ a) (h1 : a ≤ 1099511627776) (d0 : 0 ≤ d) (d1 : d ≤ 1099511627776) (W : World) : Cal Tryz.prog 93 [.int .i64 a, .int .i64 d].toArray W fun v w' => v = .int .i64 (laterV a d) ∧ Ext [] W w' := by
 exact g_start (n := 9) (S := []) fldT_ok slcT_ok Tryz.func93 rfl rfl rfl (gR 9 rfl (g_add rfl rfl (w_i64 (by omega) (by omega)) (g_v (fun a w F M R r => o_min (F.e rfl) (F.e rfl) r) (gR 4 rfl (g_ret1 rfl rfl rfl fun w M => ⟨rfl, M.ext⟩)))))
theorem cmpL_drop {p q : List Int} : ∀ (i : Nat), i ≤ p.length → p.length = q.length → (∀ j, j < i → p.getD j 0 = q.getD j 0) → cmpL p q = cmpL (p.drop i) (q.drop i)
 | 0, _, _, _ => by simp
 | i + 1, h1, h2, h => by
  rw [cmpL_drop i (by omega) h2 fun j hj => h j (by omega), List.drop_eq_getElem_cons (show i < p.length by omega), List.drop_eq_getElem_cons (show i < q.length by omega)]
  have := h i (by omega)
  simp only [List.getD_eq_getElem?_getD, List.getElem?_eq_getElem (show i < p.length by omega), List.getElem?_eq_getElem (show i < q.length by omega), Option.getD_some] at this
  simp [cmpL, this]
theorem cmpL_step {p q : List Int} {i : Nat} (h1 : i < p.length) (h2 : p.length = q.length) (h : ∀ j, j < i → p.getD j 0 = q.getD j 0) : cmpL p q = if p.getD i 0 < q.getD i 0 then -1 else if q.getD i 0 < p.getD i 0 then 1 else cmpL (p.drop (i + 1)) (q.drop (i + 1)) := by
 rw [cmpL_drop i (by omega) h2 h, List.drop_eq_getElem_cons (show i < p.length by omega), List.drop_eq_getElem_cons (show i < q.length by omega)]
 simp [cmpL, List.getD_eq_getElem?_getD, List.getElem?_eq_getElem (show i < p.length by omega), List.getElem?_eq_getElem (show i < q.length by omega)]
theorem rcompareIP_c (p q : List Int) (hp : IsIP p) (hq : IsIP q) (W : World) : Cal Tryz.prog 282 [.agg (ipC p).toArray, .agg (ipC q).toArray].toArray W fun x w' => x = .int .i64 (cmpL p q) ∧ Ext [] W w' := by
 have l1 := hp.len
 have l2 := hq.len
 refine g_start (n := 24) (S := []) fldT_ok slcT_ok Tryz.func282 rfl rfl rfl (gR 2 rfl (g_box rfl rfl fun b2 => g_box rfl rfl fun b3 => gR 10 rfl (g_loop (ι := Nat) ⟨fun i => 16 - i, fun i => i ≤ 16 ∧ (∀ j, j < i → p.getD j 0 = q.getD j 0), fun i => [(5, .int .i64 i), (3, .pointer (some ⟨b3, 0, none⟩)), (2, .pointer (some ⟨b2, 0, none⟩))], fun i => [[(b3, .cells (ipC q).toArray 63 (0, 0))], [(b2, .cells (ipC p).toArray 63 (0, 0))]]⟩ 0 ⟨by omega, by omega⟩ (fun a F => F.only [5, 3, 2] rfl) (by repeat (first | exact .refl _ | apply sC2 | apply sC1)) ?_)))
 rintro i ⟨hi, hv⟩
 by_cases hlt : i < 16
 ·have hst := cmpL_step (by omega) (by omega) hv
  have f1 : nth (ipC p) (0 + (i : Int).toNat * 1) = some (.int .u8 (p.getD i 0)) := nth_ip2 hp hlt (by omega)
  have f2 : nth (ipC q) (0 + (i : Int).toNat * 1) = some (.int .u8 (q.getD i 0)) := nth_ip2 hq hlt (by omega)
  by_cases c1 : p.getD i 0 < q.getD i 0
  ·rw [if_pos c1] at hst
   rw [hst]
   refine gR 7 rfl (g_ifT rfl (dqT (by omega)) (gR 6 rfl (g_draw 7 24 rfl (by kernel_rfl) (fR 1 rfl (fd_v (fun a w F M R r => o_indexArr (F.e rfl) (F.e rfl) (by omega) (by omega) r) (fd_ld1 1 rfl rfl (by with_reducible assumption) ?_))))))
   refine fR 1 rfl (fd_v (fun a w F M R r => o_indexArr (F.e rfl) (F.e rfl) (by omega) (by omega) r) (fd_ld1 0 rfl rfl (by with_reducible assumption) ?_))
   exact fR 1 rfl (fd_done rfl rfl (gR 2 rfl (g_ifT rfl (dqT (by omega)) (gR 9 rfl (g_outR (gR 2 rfl (g_ret1 rfl rfl rfl fun w M => ⟨rfl, M.ext⟩)))))))
  ·rw [if_neg c1] at hst
   by_cases c2 : q.getD i 0 < p.getD i 0
   ·rw [if_pos c2] at hst
    rw [hst]
    refine gR 7 rfl (g_ifT rfl (dqT (by omega)) (gR 6 rfl (g_draw 7 24 rfl (by kernel_rfl) (fR 1 rfl (fd_v (fun a w F M R r => o_indexArr (F.e rfl) (F.e rfl) (by omega) (by omega) r) (fd_ld1 1 rfl rfl (by with_reducible assumption) ?_))))))
    refine fR 1 rfl (fd_v (fun a w F M R r => o_indexArr (F.e rfl) (F.e rfl) (by omega) (by omega) r) (fd_ld1 0 rfl rfl (by with_reducible assumption) ?_))
    refine fR 1 rfl (fd_done rfl rfl (gR 2 rfl (g_ifF rfl (dqF (by omega)) (gR 3 rfl (g_draw 7 24 rfl (by kernel_rfl) (fR 1 rfl (fd_v (fun a w F M R r => o_indexArr (F.e rfl) (F.e rfl) (by omega) (by omega) r) (fd_ld1 1 rfl rfl (by with_reducible assumption) ?_))))))))
    refine fR 1 rfl (fd_v (fun a w F M R r => o_indexArr (F.e rfl) (F.e rfl) (by omega) (by omega) r) (fd_ld1 0 rfl rfl (by with_reducible assumption) ?_))
    exact fR 1 rfl (fd_done rfl rfl (gR 2 rfl (g_ifT rfl (dqT (by omega)) (gR 8 rfl (g_outR (gR 2 rfl (g_ret1 rfl rfl rfl fun w M => ⟨rfl, M.ext⟩)))))))
   ·refine gR 7 rfl ?_
    refine g_ifT rfl (dqT (by omega)) (gR 6 rfl (g_draw 7 24 rfl (by kernel_rfl) (fR 1 rfl (fd_v (fun a w F M R r => o_indexArr (F.e rfl) (F.e rfl) (by omega) (by omega) r) (fd_ld1 1 rfl rfl (by with_reducible assumption) ?_)))))
    refine fR 1 rfl (fd_v (fun a w F M R r => o_indexArr (F.e rfl) (F.e rfl) (by omega) (by omega) r) (fd_ld1 0 rfl rfl (by with_reducible assumption) ?_))
    refine fR 1 rfl (fd_done rfl rfl (gR 2 rfl (g_ifF rfl (dqF (by omega)) (gR 3 rfl (g_draw 7 24 rfl (by kernel_rfl) (fR 1 rfl (fd_v (fun a w F M R r => o_indexArr (F.e rfl) (F.e rfl) (by omega) (by omega) r) (fd_ld1 1 rfl rfl (by with_reducible assumption) ?_))))))))
    refine fR 1 rfl (fd_v (fun a w F M R r => o_indexArr (F.e rfl) (F.e rfl) (by omega) (by omega) r) (fd_ld1 0 rfl rfl (by with_reducible assumption) ?_))
    exact fR 1 rfl (fd_done rfl rfl (gR 2 rfl (g_ifF rfl (dqF (by omega)) (gR 5 rfl (g_add rfl rfl (w_i64 (by omega) (by omega)) (gR 2 rfl (g_next (i + 1) ⟨by omega, fun j hj => (Nat.lt_or_ge j i).elim (hv j) fun h1 => (show i = j by omega) ▸ (show p.getD i 0 = q.getD i 0 by omega)⟩ (by dsimp only;omega) (fun a F => F.only [5, 3, 2] rfl) (by (try dsimp only);repeat (first | exact .refl _ | with_reducible exact sC0 _ | with_reducible apply sC2 | apply sC1)))))))))
 ·obtain rfl : i = 16 := by omega
  have : cmpL p q = 0 := by rw [cmpL_drop 16 (by omega) (by omega) hv, List.drop_eq_nil_of_le (by omega), List.drop_eq_nil_of_le (by omega)];rfl
  rw [this]
  exact gR 10 rfl (g_outX (gR 8 rfl (g_ret1 rfl rfl rfl fun w M => ⟨rfl, M.ext⟩)))
end
section
open Go.RowKit
attribute [local irreducible] OpTo wpListIn Code.wpIn MW Cal
def insO (o : Off) : List Off → Option (List Off)
 | [] => some [o]
 | y :: ys =>
  if cmpL y.h.rt o.h.rt < 0 then (insO o ys).map (y :: ·)
  else if cmpL y.h.rt o.h.rt = 0 then
   (if o.h.ver < y.h.ver then none else if y.h.ver = o.h.ver then some ({ y with h := { y.h with til := if y.h.til < o.h.til then o.h.til else y.h.til } } :: ys) else some (o :: ys))
  else some (o :: y :: ys)
def Asc (os : List Off) : Prop := os.Pairwise fun a b => cmpL a.h.rt b.h.rt < 0
theorem Asc.filter {os : List Off} (h : Asc os) (f : Off → Bool) : Asc (os.filter f) := List.Pairwise.filter _ h
def OffsAt (W : World) (s : Value) (os : List Off) : Prop := ∃ zs : List OV, zs.map (·.o) = os ∧ SlAt W 20 s zs.length (encL ovC zs) ∧ ∀ z ∈ zs, OffAt W z
theorem OffsAt.nil (W : World) : OffsAt W (.slice none 0 0) [] := ⟨[], rfl, SlAt.nil W 20, by simp⟩
theorem OffsAt.later {W w : World} {s : Value} {os : List Off} (h : OffsAt W s os) (E : Ext [] W w) : OffsAt w s os := by
 obtain ⟨zs, h1, h2, h3⟩ := h
 exact ⟨zs, h1, h2.later E, fun z hz => (h3 z hz).later E⟩
def OffsN (n0 : Nat) (W : World) (s : Value) (os : List Off) : Prop := ∃ zs : List OV, zs.map (·.o) = os ∧ SlAt W 20 s zs.length (encL ovC zs) ∧ (∀ z ∈ zs, OffAt W z) ∧ NewV n0 s ∧ ∀ z ∈ zs, NewV n0 z.u ∧ NewV n0 z.v
theorem OffsN.nil (n0 : Nat) (W : World) : OffsN n0 W (.slice none 0 0) [] := ⟨[], rfl, SlAt.nil W 20, by simp, NewV.nil _ _ _, by simp⟩
theorem OffsN.at {n0 : Nat} {W : World} {s : Value} {os : List Off} (h : OffsN n0 W s os) : OffsAt W s os := by
 obtain ⟨zs, h1, h2, h3, _⟩ := h
 exact ⟨zs, h1, h2, h3⟩
end
section
open Go.RowKit
attribute [local irreducible] OpTo wpListIn Code.wpIn MW Cal
def Pl (o : Off) (placed : Bool) (out pre rest : List Off) : Prop :=
 if placed then insO o (pre ++ rest) = some (out ++ rest) ∧ ∀ y ∈ rest, 0 < cmpL y.h.rt o.h.rt
 else out = pre ∧ ∀ y ∈ pre, cmpL y.h.rt o.h.rt < 0
theorem insO_pre {o : Off} : ∀ {pre : List Off} (r : List Off), (∀ y ∈ pre, cmpL y.h.rt o.h.rt < 0) → insO o (pre ++ r) = (insO o r).map (pre ++ ·)
 | [], r, _ => by simp
 | y :: pre, r, h => by
  have ih := insO_pre r fun z hz => h z (List.mem_cons_of_mem _ hz)
  simp only [List.cons_append, insO, if_pos (h y List.mem_cons_self), ih, Option.map_map]
  rfl
theorem cmpL_pos {a b c : List Int} (h1 : 0 ≤ cmpL a c) (h2 : cmpL a b < 0) : 0 < cmpL b c := by
 rcases Int.lt_trichotomy (cmpL b c) 0 with h | h | h
 ·exact absurd (cmpL_lt_trans h2 h) (by omega)
 ·rw [cmpL_zero h] at h2;omega
 ·exact h
theorem Pl.new {o y : Off} {out pre rest : List Off} (h : Pl o false out pre (y :: rest)) (ha : Asc (y :: rest)) (hk : cmpL y.h.rt o.h.rt = 0) (hv : ¬ o.h.ver < y.h.ver) (hv2 : ¬ y.h.ver = o.h.ver) : Pl o true (out ++ [o]) (pre ++ [y]) rest := by
 simp only [Pl, Bool.false_eq_true, if_false, if_true] at *
 refine ⟨?_, fun z hz => cmpL_pos (by omega) ((List.pairwise_cons.1 ha).1 z hz)⟩
 rw [List.append_assoc, insO_pre _ h.2, h.1]
 simp [insO, hk, hv, hv2]
theorem Pl.on {o y : Off} {out pre rest : List Off} (h : Pl o true out pre (y :: rest)) : Pl o true (out ++ [y]) (pre ++ [y]) rest := by
 simp only [Pl, if_true] at *
 exact ⟨by simpa using h.1, fun z hz => h.2 z (List.mem_cons_of_mem _ hz)⟩
end
section
open Go.RowKit
attribute [local irreducible] OpTo wpListIn Code.wpIn MW Cal
end
section
open Go.RowKit
attribute [local irreducible] OpTo wpListIn Code.wpIn MW Cal
def wip0 (xs : List Int) (k : Nat) : List Int := [32, 1, 13, 184, 0, nxV xs k 2, nxV xs (nxK xs k) 2, 0, 0, 0, 0, 0, 0, 0, 0, nxV xs (nxK xs (nxK xs k)) 6]
def wip4 (xs : List Int) (k : Nat) : Nat := nxK xs (nxK xs (nxK xs (nxK xs k)))
def wipV (xs : List Int) (k : Nat) : List Int := if boolV xs (nxK xs (nxK xs (nxK xs k))) 9 then (wip0 xs k).set (nxV xs (wip4 xs k) 16).toNat (bitsOf .xor .u8 ((wip0 xs k).getD (nxV xs (wip4 xs k) 16).toNat 0) (IntKind.u8.wrap (1 * 2 ^ min (nxV xs (nxK xs (wip4 xs k)) 8).toNat IntKind.u8.bits))) else wip0 xs k
def wipK (xs : List Int) (k : Nat) : Nat := if boolV xs (nxK xs (nxK xs (nxK xs k))) 9 then nxK xs (nxK xs (wip4 xs k)) else wip4 xs k
theorem wip0_is (xs : List Int) (k : Nat) : IsIP (wip0 xs k) := by
 have h1 := nxV_bd xs k (n := 2) (by omega)
 have h2 := nxV_bd xs (nxK xs k) (n := 2) (by omega)
 have h3 := nxV_bd xs (nxK xs (nxK xs k)) (n := 6) (by omega)
 exact ⟨rfl, by intro x hx;simp [wip0] at hx;omega⟩
theorem wipV_is (xs : List Int) (k : Nat) : IsIP (wipV xs k) := by
 unfold wipV
 split
 ·exact (wip0_is xs k).set _ (xor8_bd _ _).1 (xor8_bd _ _).2
 ·exact wip0_is xs k
theorem wipD_c {bt : Nat} {p : Option Addr} {len cap k : Nat} {xs : List Int} (W : World) (hT : TapeS W bt p len xs) (hb : W.heap[bt]? = some (tobj p len cap k)) :
  Cal Tryz.prog 46 [.pointer (some ⟨bt, 0, none⟩)].toArray W fun v w' => v = .agg (ipC (wipV xs k)).toArray ∧ Mem [bt] W w' [(bt, tobj p len cap (wipK xs k))] := by
 refine fn_ofM (n := 28) [bt] Tryz.func46 rfl rfl rfl ?_
 intro a w F M hwW
 replace M := M.came hwW hb (by simp) (by simp)
 refine c_seq (c_region ?_)
 (refine sD F (o_alloc M ?_);clear F M;intro b2 w M a F)
 with_reducible refine l_nil (q_then (c_seq (c_region ?_)))
 refine sD F (o_move (F.e rfl) ?_);clear F a;intro a F
 (refine sD F (o_call (F.e rfl) (F.evs rfl) (Cal.mono (next_c 2 (by omega) (by omega) _ (hT.later M.ext) (M.heap (.there .here)) ) ?_));clear F;clear a;have M0 := M;clear M;rintro _ w ⟨rfl, N⟩ a F)
 have hx1 := nxV_bd xs k (n := 2) (by omega)
 replace M := M0.turn1 N (.there .here)
 refine sD F (o_conv (F.e rfl) (w_u8 (by omega) (by omega)) fun a F => sD F (o_move (F.e rfl) ?_));iterate 2 clear F a
 intro a F
 (refine sD F (o_call (F.e rfl) (F.evs rfl) (Cal.mono (next_c 2 (by omega) (by omega) _ (hT.later M.ext) (M.heap (.there .here)) ) ?_));clear F;clear a;have M0 := M;clear M;rintro _ w ⟨rfl, N⟩ a F)
 have hx2 := nxV_bd xs (nxK xs k) (n := 2) (by omega)
 replace M := M0.turn1 N (.there .here)
 refine sD F (o_conv (F.e rfl) (w_u8 (by omega) (by omega)) fun a F => sD F (o_build F rfl rfl ?_));iterate 2 clear F a
 intro a F
 (refine sD F (o_alloc M ?_);clear F M;intro b3 w M a F)
 (refine stepN rfl F (o_storeA M (F.e rfl) (F.e rfl) (by rfl) (by rfl) (by repeat constructor) (by rfl) (by repeat constructor) ?_);clear F M;intro w M a F)
 with_reducible refine l_nil (q_then (c_seq (c_region ?_)))
 refine sD F (o_move (F.e rfl) ?_);clear F a;intro a F
 (refine sD F (o_call (F.e rfl) (F.evs rfl) (Cal.mono (next_c 6 (by omega) (by omega) _ (hT.later M.ext) (M.heap (.there (.there .here))) ) ?_));clear F;clear a;have M0 := M;clear M;rintro _ w ⟨rfl, N⟩ a F)
 have hx3 := nxV_bd xs (nxK xs (nxK xs k)) (n := 6) (by omega)
 replace M := M0.turn1 N (.there (.there .here))
 refine sD F (o_conv (F.e rfl) (w_u8 (by omega) (by omega)) fun a F => sD F (o_indexArr (F.e rfl) (F.e rfl) (by omega) (by omega) ?_));iterate 2 clear F a
 intro a F
 (refine stepN rfl F (o_store1 M (F.e rfl) (F.e rfl) rfl (by repeat constructor) (by rfl) (by repeat constructor) ?_);clear F M;intro w M a F)
 with_reducible refine l_nil (q_then (c_seq (c_seq (c_region ?_))))
 refine sD F (o_move (F.e rfl) ?_);clear F a;intro a F
 obtain ⟨ip, hipd, hip, M⟩ : ∃ ip, ip = wip0 xs k ∧ IsIP ip ∧ Mem [bt] W w [(bt, tobj p len cap (nxK xs (nxK xs (nxK xs k)))), (b3, .cells (ipC ip).toArray 63 (0, 0)), (b2, .cells (ipC [0, 0, 0, 0, 0, 0, 0, 0, 0, 0, 0, 0, 0, 0, 0, 0]).toArray 63 (0, 0))] :=
  ⟨wip0 xs k, rfl, ⟨rfl, by intro x hx;simp [wip0] at hx;omega⟩, M.perm ((List.Perm.refl _).trans (List.perm_append_comm (l₁ := [_, _]) (l₂ := [_])))⟩
 (refine sD F (o_call (F.e rfl) (F.evs rfl) (Cal.mono (bool_c 9 (by omega) (by omega) _ (hT.later M.ext) (M.heap .here) ) ?_));clear F;clear a;have M0 := M;clear M;rintro _ w ⟨rfl, N⟩ a F)
 replace M := M0.turn1 N .here
 clear M0
 have e0 : seg (ipC ip) 0 16 = some (ipC ip) := seg_all (ipC_len hip.len)
 rw [show nxK xs (nxK xs (nxK xs (nxK xs k))) = wip4 xs k from rfl] at M
 obtain ⟨k4, hk4⟩ : ∃ k4, k4 = wip4 xs k := ⟨_, rfl⟩
 rw [← hk4] at M
 cases hc : boolV xs (nxK xs (nxK xs (nxK xs k))) 9
 all_goals rw [hc] at F
 ·with_reducible refine l_nil ?_
  with_reducible refine q_then ?_
  refine c_false F rfl rfl ?_
  with_reducible refine c_skip (q_then (c_seq (c_region ?_)))
  refine sD F (o_loadA M (F.e rfl) (by repeat constructor) (by first | assumption | rfl) ?_);clear F a;intro a F
  (refine stepN rfl F (o_storeA M (F.e rfl) (F.e rfl) (ipC_len hip.len) (one_ip _)  (by repeat constructor)  (put_all (by rw [ipC_len hip.len];rfl)) (by repeat constructor) ?_);clear F M;intro w M a F)
  with_reducible refine l_nil (q_then (c_ret ?_))
  exact p_ret F rfl (.cons (.cell (F.e rfl) (run_loadVar_agg TAgg.h (M.heap (.there (.there .here))) e0)) .nil) ⟨by rw [show wipV xs k = ip by rw [hipd];unfold wipV;rw [if_neg (by simp [hc])]];rfl, by rw [show wipK xs k = k4 by rw [hk4];unfold wipK;rw [if_neg (by simp [hc])]];exact M.sub (.cons_cons _ (.cons _ (.cons _ (.refl _))))⟩
 ·replace F := F.only [0, 2, 3, 16] rfl
  have v1 := nxV_bd xs k4 (n := 16) (by omega)
  have v2 := nxV_bd xs (nxK xs k4) (n := 8) (by omega)
  have hib := hip.at_ (nxV xs k4 16).toNat
  have h1 : nth (ipC ip) (0 + (nxV xs k4 16).toNat * 1) = some (.int .u8 (ip.getD (nxV xs k4 16).toNat 0)) := nth_ip2 hip (by omega) (by omega)
  with_reducible refine l_nil (q_then ?_)
  refine c_true F rfl rfl (c_drawB (l0 := [(bt, tobj p len cap k4)]) [bt] [1, 5] M 9 F (by kernel_rfl) ?_)
  intro w1 M1 hok hef
  have hB : ∀ k ∈ [bt], k ∈ ([(bt, tobj p len cap k4)] : List (Nat × Obj)).map (·.1) := by simp
  have hTw : ∀ w', Ext [bt] w1 w' → TapeS w' bt p len xs := fun w' E => hT.later (M1.ext.trans (E.mono (by simp)))
  refine mK hok rfl rfl (fun a' w' F' E' => o_move (F'.e rfl) ⟨Ext.refl _ _, rfl⟩) (mE (T' := fun _ w => Mem _ _ w ([(bt, tobj p len cap (nxK xs k4))] ++ _)) hok rfl rfl (fun _ _ _ h k => h.later k) (fun a' w' σ' F' E' T' => o_call (F'.e rfl) (F'.evs rfl) (Cal.mono (next_c 16 (by omega) (by omega) _ (hTw _ E') (T'.heap .here)) fun _ _ hh => ⟨hh.2.ext, hh.1, Mem.turn1 T' hh.2 .here⟩)) (mK hok rfl rfl (fun a' w' F' E' => o_indexArr (F'.e rfl) (F'.e rfl) (by omega) (by omega) ⟨Ext.refl _ _, rfl⟩) (mK hok rfl rfl (fun a' w' F' E' => o_load1 (M1.laterBut E' hB) (F'.e rfl) (by repeat constructor) (by first | assumption | rfl) ⟨Ext.refl _ _, rfl⟩) ?_)))
  refine mK hok rfl rfl (fun a' w' F' E' => o_move (F'.e rfl) ⟨Ext.refl _ _, rfl⟩) (mE (T' := fun _ w => Mem _ _ w ([(bt, tobj p len cap (nxK xs (nxK xs k4)))] ++ _)) hok rfl rfl (fun _ _ _ h k => h.later k) (fun a' w' σ' F' E' T' => o_call (F'.e rfl) (F'.evs rfl) (Cal.mono (next_c 8 (by omega) (by omega) _ (hTw _ E') (T'.heap .here)) fun _ _ hh => ⟨hh.2.ext, hh.1, Mem.turn1 T' hh.2 .here⟩)) (mK hok rfl rfl (fun a' w' F' E' => o_conv (F'.e rfl) (w_u64 (by omega) (by omega)) ⟨Ext.refl _ _, rfl⟩) (mK hok rfl rfl (fun a' w' F' E' => o_shl (F'.e rfl) (F'.e rfl) (by omega) rfl ⟨Ext.refl _ _, rfl⟩) (mK hok rfl rfl (fun a' w' F' E' => o_xor (F'.e rfl) (F'.e rfl) rfl ⟨Ext.refl _ _, rfl⟩) ?_))))
  clear hTw
  (refine mDone rfl hef ?_;clear F M;intro a w F hE2 hX M hDD hPP;clear M1;clear hX;clear hE2;clear hok;clear hef;clear hB;clear hDD;clear hPP;(try dsimp only at F);(try simp only [List.cons_append, List.nil_append] at M))
  have hbd := xor8_bd (ip.getD (nxV xs k4 16).toNat 0) (IntKind.u8.wrap (1 * 2 ^ min (nxV xs (nxK xs k4) 8).toNat IntKind.u8.bits))
  obtain ⟨z, hz⟩ : ∃ z, z = bitsOf BinOp.xor IntKind.u8 (ip.getD (nxV xs k4 16).toNat 0) (IntKind.u8.wrap (1 * 2 ^ min (nxV xs (nxK xs k4) 8).toNat IntKind.u8.bits)) := ⟨_, rfl⟩
  rw [← hz] at F hbd
  refine sD F (o_indexArr (F.e rfl) (F.e rfl) (by omega) (by omega) ?_);clear F a;intro a F
  (refine stepN rfl F (o_store1 M (F.e rfl) (F.e rfl) rfl (by repeat constructor) (put1 (q := (nxV xs k4 16).toNat) _ (by omega) (by rw [ipC_len hip.len];omega)) (by repeat constructor) ?_);clear F M;intro w M a F)
  rw [← ipC_set] at M
  have hip2 := hip.set (nxV xs k4 16).toNat hbd.1 hbd.2
  obtain ⟨ip2, hi2⟩ : ∃ ip2, ip2 = ip.set (nxV xs k4 16).toNat z := ⟨_, rfl⟩
  rw [← hi2] at M hip2
  have e2 : seg (ipC ip2) 0 16 = some (ipC ip2) := seg_all (ipC_len hip2.len)
  with_reducible refine l_nil (q_then (c_seq (c_region ?_)))
  refine sD F (o_loadA M (F.e rfl) (by repeat constructor) (by first | assumption | rfl) ?_);clear F a;intro a F
  (refine stepN rfl F (o_storeA M (F.e rfl) (F.e rfl) (ipC_len hip2.len) (one_ip _)  (by repeat constructor)  (put_all (by rw [ipC_len hip2.len];rfl)) (by repeat constructor) ?_);clear F M;intro w M a F)
  with_reducible refine l_nil (q_then (c_ret ?_))
  exact p_ret F rfl (.cons (.cell (F.e rfl) (run_loadVar_agg TAgg.h (M.heap (.there (.there .here))) e2)) .nil) ⟨by rw [show wipV xs k = ip2 by rw [hi2, hz, hipd, hk4];unfold wipV;rw [if_pos hc]];rfl, by rw [show wipK xs k = nxK xs (nxK xs k4) by rw [hk4];unfold wipK;rw [if_pos hc]];exact M.sub (.cons_cons _ (.cons _ (.cons _ (.refl _))))⟩
end
section
open Go.RowKit
attribute [local irreducible] OpTo wpListIn Code.wpIn MW Cal
def wtV (xs : List Int) (k : Nat) (base : Int) : Int := if 0 < (if base + nxV xs k 60 - 30 < 1099511627776 then base + nxV xs k 60 - 30 else 1099511627776) then (if base + nxV xs k 60 - 30 < 1099511627776 then base + nxV xs k 60 - 30 else 1099511627776) else 0
theorem wtime_c {bt : Nat} {p : Option Addr} {len cap k : Nat} {xs : List Int} (base : Int) (h0 : 0 ≤ base) (h1 : base ≤ 1099511627776) (W : World) (hT : TapeS W bt p len xs) (hb : W.heap[bt]? = some (tobj p len cap k)) :
  Cal Tryz.prog 44 [.pointer (some ⟨bt, 0, none⟩), .int .i64 base].toArray W fun v w' => v = .int .i64 (wtV xs k base) ∧ Mem [bt] W w' [(bt, tobj p len cap (nxK xs k))] := by
 refine fn_ofM (n := 12) [bt] Tryz.func44 rfl rfl rfl ?_
 intro a w F M hwW
 replace M := M.came hwW hb (by simp) (by simp)
 have hx := nxV_bd xs k (n := 60) (by omega)
 refine c_seq (c_region ?_)
 refine sD F (o_assign (F.e rfl) ?_);clear F a;intro a F
 with_reducible refine l_nil (q_then (c_seq (c_region ?_)))
 refine sD F (o_move (F.e rfl) fun a F => sD F (o_move (F.e rfl) ?_));iterate 2 clear F a
 intro a F
 (refine sD F (o_call (F.e rfl) (F.evs rfl) (Cal.mono (next_c 60 (by omega) (by omega) _ (hT.later M.ext) (M.heap .here) ) ?_));clear F;clear a;have M0 := M;clear M;rintro _ w ⟨rfl, N⟩ a F)
 replace M := M0.turn1 N .here
 clear M0
 refine sD F (o_add (F.e rfl) (F.e rfl) (w_i64 (by omega) (by omega)) fun a F => sD F (o_sub (F.e rfl) (F.e rfl) (w_i64 (by omega) (by omega)) fun a F => sD F (o_min (F.e rfl) (F.e rfl) fun a F => sD F (o_max (F.e rfl) (F.e rfl) fun a F => sD F (o_assign (F.e rfl) ?_)))));iterate 5 clear F a
 intro a F
 with_reducible refine l_nil (q_then (c_ret ?_))
 exact p_ret F rfl (.cons (.tmp (F.e rfl)) .nil) (⟨rfl, M⟩)
theorem nth_tab {k : IntKind} {xs : List Int} {i : Int} (h0 : 0 ≤ i) (h1 : i < xs.length) : nth (xs.map (Value.int k)) (0 + i.toNat * 1) = some (.int k (xs.getD i.toNat 0)) := by
 have h : i.toNat < xs.length := by omega
 rw [nth_spec, show 0 + i.toNat * 1 = i.toNat by omega]
 simp [h]
def tab10 : List Int := [128, 128, 64, 56, 48, 32, 0, 127, 3, 60]
theorem tab10_bd (i : Nat) : 0 ≤ tab10.getD i 0 ∧ tab10.getD i 0 ≤ 128 := by
 rcases Nat.lt_or_ge i 10 with h | h
 ·have : ∀ i : Fin 10, 0 ≤ tab10.getD i.val 0 ∧ tab10.getD i.val 0 ≤ 128 := by decide
  exact this ⟨i, h⟩
 ·rw [List.getD_eq_getElem?_getD, List.getElem?_eq_none (by simpa [tab10] using h)]
  simp
def wpN (xs : List Int) (k : Nat) : Int := if boolV xs (nxK xs k) 7 then nxV xs (nxK xs (nxK xs k)) 129 else tab10.getD (nxV xs k 10).toNat 0
def wpK0 (xs : List Int) (k : Nat) : Nat := if boolV xs (nxK xs k) 7 then nxK xs (nxK xs (nxK xs k)) else nxK xs (nxK xs k)
def wpA (xs : List Int) (k : Nat) : List Int := wipV xs (wpK0 xs k)
def wpK (xs : List Int) (k : Nat) : Nat := wipK xs (wpK0 xs k)
theorem wpN_bd (xs : List Int) (k : Nat) : 0 ≤ wpN xs k ∧ wpN xs k ≤ 128 := by
 have h1 := nxV_bd xs (nxK xs (nxK xs k)) (n := 129) (by omega)
 unfold wpN
 split
 ·omega
 ·exact tab10_bd _
theorem wprefix_c {bt : Nat} {p : Option Addr} {len cap k : Nat} {xs : List Int} (W : World) (hT : TapeS W bt p len xs) (hb : W.heap[bt]? = some (tobj p len cap k)) :
  Cal Tryz.prog 83 [.pointer (some ⟨bt, 0, none⟩)].toArray W fun v w' => v = .agg (pfC (maskI (wpA xs k) (wpN xs k)) (wpN xs k)).toArray ∧ Mem [bt] W w' [(bt, tobj p len cap (wpK xs k))] := by
 have v1 := nxV_bd xs k (n := 10) (by omega)
 have v3 := nxV_bd xs (nxK xs (nxK xs k)) (n := 129) (by omega)
 have n1 := nth_tab (k := .i64) (xs := tab10) v1.1 (by simpa [tab10] using v1.2)
 have hbd := wpN_bd xs k
 have hcl : clampB (wpN xs k) = wpN xs k := clamp_in hbd.1 hbd.2
 have s3 := seg_pf (maskI_len (wpA xs k) (wpN xs k)) (wpN xs k)
 refine fn_ofM (n := 17) [bt] Tryz.func83 rfl rfl rfl ?_
 intro a w F M hwW
 replace M := M.came hwW hb (by simp) (by simp)
 refine c_seq (c_region ?_)
 (refine sD F (o_alloc M ?_);clear F M;intro b2 w M a F)
 with_reducible refine l_nil (q_then (c_seq (c_region ?_)))
 (refine sD F (o_buildSlice F M rfl rfl rfl rfl ?_);clear F M;intro b4 w M a F)
 refine sD F (o_move (F.e rfl) ?_);clear F a;intro a F
 (refine sD F (o_call (F.e rfl) (F.evs rfl) (Cal.mono (next_c 10 (by omega) (by omega) _ (hT.later M.ext) (M.heap (.there (.there .here))) ) ?_));clear F;clear a;have M0 := M;clear M;rintro _ w ⟨rfl, N⟩ a F)
 replace M := M0.turn1 N (.there (.there .here))
 (refine sD F (o_indexSl (F.e rfl) (F.e rfl) (by omega) (by omega) ?_);clear F a;intro a F)
 (refine sD F (o_load1 M (F.e rfl) (by repeat constructor) (n1) ?_);clear F a;intro a F)
 refine sD F (o_assign (F.e rfl) ?_);clear F a;intro a F
 with_reducible refine l_nil (q_then (c_seq (c_seq (c_region ?_))))
 refine sD F (o_move (F.e rfl) ?_);clear F a;intro a F
 (refine sD F (o_call (F.e rfl) (F.evs rfl) (Cal.mono (bool_c 7 (by omega) (by omega) _ (hT.later M.ext) (M.heap (.there (.there .here))) ) ?_));clear F;clear a;have M0 := M;clear M;rintro _ w ⟨rfl, N⟩ a F)
 replace M := M0.turn1 N (.there (.there .here))
 cases hc : boolV xs (nxK xs k) 7
 ·rw [hc] at F
  have hN : wpN xs k = tab10.getD (nxV xs k 10).toNat 0 := by unfold wpN;rw [hc];rfl
  have hK : wpK0 xs k = nxK xs (nxK xs k) := by unfold wpK0;rw [hc];rfl
  rw [← hK] at M
  rw [← hN] at F
  with_reducible refine l_nil (q_then ?_)
  refine c_false F rfl rfl ?_
  with_reducible refine c_skip (q_then (c_seq (c_region ?_)))
  refine sD F (o_move (F.e rfl) ?_);clear F a;intro a F
  (refine sD F (o_call (F.e rfl) (F.evs rfl) (Cal.mono (wipD_c _ (hT.later M.ext) (M.heap (.there (.there .here))) ) ?_));clear F;clear a;have M0 := M;clear M;rintro _ w ⟨rfl, N⟩ a F)
  replace M := M0.turn1 N (.there (.there .here))
  refine sD F (o_move (F.e rfl) ?_);clear F a;intro a F
  (refine sD F (o_call (F.e rfl) (F.evs rfl) (Cal.mono (Cal.to (rmask_c (wpA xs k) (wipV_is _ _) (wpN xs k) _) (by rw [hcl])) ?_));clear F;clear a;rintro _ w ⟨rfl, hE⟩ a F;replace M := M.later hE;clear hE)
  (refine stepN rfl F (o_storeA M (F.e rfl) (F.e rfl) (pfC_len (maskI_len _ _) _) (one_pf _ _)  (by repeat constructor)  (put_all (by rw [pfC_len (maskI_len (wpA xs k) (wpN xs k)) (wpN xs k)];rfl)) (by repeat constructor) ?_);clear F M;intro w M a F)
  with_reducible refine l_nil (q_then (c_ret ?_))
  refine p_ret F rfl (.cons (.cell (F.e rfl) (run_loadVar_agg TAgg.h (M.heap (by repeat constructor)) s3)) .nil) ⟨rfl, M.sub (by repeat (first | exact List.Sublist.refl _ | apply sC1))⟩
 ·rw [hc] at F
  have hN : wpN xs k = nxV xs (nxK xs (nxK xs k)) 129 := by unfold wpN;rw [hc];rfl
  have hK : wpK0 xs k = nxK xs (nxK xs (nxK xs k)) := by unfold wpK0;rw [hc];rfl
  with_reducible refine l_nil (q_then ?_)
  refine c_true F rfl rfl (c_region ?_)
  refine sD F (o_move (F.e rfl) ?_);clear F a;intro a F
  (refine sD F (o_call (F.e rfl) (F.evs rfl) (Cal.mono (next_c 129 (by omega) (by omega) _ (hT.later M.ext) (M.heap (.there (.there .here))) ) ?_));clear F;clear a;have M0 := M;clear M;rintro _ w ⟨rfl, N⟩ a F)
  replace M := M0.turn1 N (.there (.there .here))
  rw [← hK] at M
  rw [← hN] at F
  refine sD F (o_assign (F.e rfl) ?_);clear F a;intro a F
  with_reducible refine l_nil (q_then (c_seq (c_region ?_)))
  refine sD F (o_move (F.e rfl) ?_);clear F a;intro a F
  (refine sD F (o_call (F.e rfl) (F.evs rfl) (Cal.mono (wipD_c _ (hT.later M.ext) (M.heap (.there (.there .here))) ) ?_));clear F;clear a;have M0 := M;clear M;rintro _ w ⟨rfl, N⟩ a F)
  replace M := M0.turn1 N (.there (.there .here))
  refine sD F (o_move (F.e rfl) ?_);clear F a;intro a F
  (refine sD F (o_call (F.e rfl) (F.evs rfl) (Cal.mono (Cal.to (rmask_c (wpA xs k) (wipV_is _ _) (wpN xs k) _) (by rw [hcl])) ?_));clear F;clear a;rintro _ w ⟨rfl, hE⟩ a F;replace M := M.later hE;clear hE)
  (refine stepN rfl F (o_storeA M (F.e rfl) (F.e rfl) (pfC_len (maskI_len _ _) _) (one_pf _ _)  (by repeat constructor)  (put_all (by rw [pfC_len (maskI_len (wpA xs k) (wpN xs k)) (wpN xs k)];rfl)) (by repeat constructor) ?_);clear F M;intro w M a F)
  with_reducible refine l_nil (q_then (c_ret ?_))
  refine p_ret F rfl (.cons (.cell (F.e rfl) (run_loadVar_agg TAgg.h (M.heap (by repeat constructor)) s3)) .nil) ⟨rfl, M.sub (by repeat (first | exact List.Sublist.refl _ | apply sC1))⟩
end
section
open Go.RowKit
attribute [local irreducible] OpTo wpListIn Code.wpIn MW Cal
def OffNew (n0 : Nat) (W : World) (x : OV) : Prop := OffAt W x ∧ NewV n0 x.u ∧ NewV n0 x.v
end
section
open Go.RowKit
attribute [local irreducible] OpTo wpListIn Code.wpIn MW Cal
theorem NewV.mono {n0 n1 : Nat} {v : Value} (h : NewV n1 v) (hle : n0 ≤ n1) : NewV n0 v := fun b o s n c e => Nat.le_trans hle (h b o s n c e)
theorem NewV.notIn {n0 bt : Nat} {v : Value} (h : NewV n0 v) (hbt : bt < n0) : ∀ b o s k c, v = .slice (some ⟨b, o, s⟩) k c → b ∉ [bt] := fun b o s k c e hb => by
 have := h b o s k c e
 simp only [List.mem_singleton] at hb
 omega
theorem OffNew.mono {n0 n1 : Nat} {W : World} {x : OV} (h : OffNew n1 W x) (hle : n0 ≤ n1) : OffNew n0 W x := ⟨h.1, h.2.1.mono hle, h.2.2.mono hle⟩
theorem OffNew.laterB {n0 bt : Nat} {W w : World} {x : OV} (h : OffNew n0 W x) (hbt : bt < n0) (E : Ext [bt] W w) : OffNew n0 w x :=
 ⟨⟨h.1.1.laterB (h.2.1.notIn hbt) E, h.1.2.laterB (h.2.2.notIn hbt) E⟩, h.2⟩
theorem OffsN.mono {n0 n1 : Nat} {W : World} {v : Value} {os : List Off} (h : OffsN n1 W v os) (hle : n0 ≤ n1) : OffsN n0 W v os := by
 obtain ⟨zs, h1, h2, h3, h4, h5⟩ := h
 exact ⟨zs, h1, h2, h3, h4.mono hle, fun z hz => ⟨(h5 z hz).1.mono hle, (h5 z hz).2.mono hle⟩⟩
theorem OffsN.laterB {n0 bt : Nat} {W w : World} {v : Value} {os : List Off} (h : OffsN n0 W v os) (hbt : bt < n0) (E : Ext [bt] W w) : OffsN n0 w v os := by
 obtain ⟨zs, h1, h2, h3, h4, h5⟩ := h
 exact ⟨zs, h1, h2.laterB (h4.notIn hbt) E, fun z hz => (OffNew.laterB ⟨h3 z hz, h5 z hz⟩ hbt E).1, h4, h5⟩
structure OffsO (n0 : Nat) (W : World) (v : Value) (os : List Off) : Prop where
 at_ : OffsN n0 W v os
 is : ∀ o ∈ os, IsOff o
 len : os.length ≤ 8
 small : ∀ o ∈ os, o.ps.length ≤ 16 ∧ o.cs.length ≤ 16
theorem OffsO.laterB {n0 bt : Nat} {W w : World} {v : Value} {os : List Off} (h : OffsO n0 W v os) (hbt : bt < n0) (E : Ext [bt] W w) : OffsO n0 w v os := ⟨h.at_.laterB hbt E, h.is, h.len, h.small⟩
theorem Mem.re {S : List Nat} {W w : World} {l : List (Nat × Obj)} (M : Mem S W w l) (h : ∀ p ∈ l, p.1 ∈ S) : Mem S w w l := ⟨Ext.refl _ _, M.at_, M.nd, fun p hp => .inl (h p hp)⟩
def OffNb (bt : Nat) (x : OV) : Prop := (∀ b o s k c, x.u = .slice (some ⟨b, o, s⟩) k c → b ∉ [bt]) ∧ ∀ b o s k c, x.v = .slice (some ⟨b, o, s⟩) k c → b ∉ [bt]
theorem OffAt.laterB {bt : Nat} {W w : World} {x : OV} (h : OffAt W x) (hn : OffNb bt x) (E : Ext [bt] W w) : OffAt w x := ⟨h.1.laterB hn.1 E, h.2.laterB hn.2 E⟩
end
section
open Go.RowKit
attribute [local irreducible] OpTo wpListIn Code.wpIn MW Cal
theorem OffsO.mono {n0 n1 : Nat} {W : World} {v : Value} {os : List Off} (h : OffsO n1 W v os) (hle : n0 ≤ n1) : OffsO n0 W v os := ⟨h.at_.mono hle, h.is, h.len, h.small⟩
end
section
open Go.RowKit
structure Msg where
 ty : Int
 hops : Int
 life : Int
 tgt : List Int
 sm : Int
 ss : Int
 se : Int
 oe : Int
 os : Int
 ost : Int
 ol : Int
 ho : Bool
 bv : Int
 bl : Int
 br : List Int
 hb : Bool
 deriving DecidableEq
structure MV where
 m : Msg
 ps : List PInf
 cs : List CInf
 u : Value
 v : Value
def MsAt (W : World) (x : MV) : Prop := SlAt W 20 x.u x.ps.length (pisC x.ps) ∧ SlAt W 20 x.v x.cs.length (cisC x.cs)
theorem MsAt.later {W w : World} {x : MV} (h : MsAt W x) (E : Ext [] W w) : MsAt w x := ⟨h.1.later E, h.2.later E⟩
end
section
open Go.RowKit
attribute [local irreducible] OpTo wpListIn Code.wpIn MW Cal
def LSt (W : World) (v : Value) (zs : List OV) : Prop := SlAt W 20 v zs.length (encL ovC zs) ∧ ∀ z ∈ zs, OffAt W z
theorem LSt.later {W w : World} {v : Value} {zs : List OV} (h : LSt W v zs) (E : Ext [] W w) : LSt w v zs := ⟨h.1.later E, fun z hz => (h.2 z hz).later E⟩
end
end Go.Proofs.YtfhkmgcalcfibaaGreat
namespace Go.Proofs.YtfhkmgcalcfibaaGreat
open Go.ChangeShapes Go.WideShapes Go.ChangeAt Go.RowKit
def loK : IntKind → Int
 | .i64 => -9223372036854775808 | .u64 => 0 | .u32 => 0 | .u16 => 0 | .u8 => 0 | .i32 => -2147483648 | k => k.min
def hiK : IntKind → Int
 | .i64 => 9223372036854775807 | .u64 => 18446744073709551615 | .u32 => 4294967295 | .u16 => 65535 | .u8 => 255 | .i32 => 2147483647 | k => k.max
theorem int_bd {k : IntKind} {n : Int} (h : (Lit.int k n).wf = true) : loK k ≤ n ∧ n ≤ hiK k := by
 have := wf_bd h
 cases k <;> simp [IntKind.min, IntKind.max, IntKind.signed, IntKind.bits, loK, hiK] at this ⊢ <;> omega
theorem wfV_int {k : IntKind} {v : Value} (h : wfV (.i k) v = true) : ∃ n, v = .int k n ∧ loK k ≤ n ∧ n ≤ hiK k := by
 cases v <;> simp [wfV] at h
 rename_i k' n
 obtain ⟨rfl, hw⟩ := h
 exact ⟨n, rfl, int_bd hw⟩
theorem wfK_cons {k : LK} {ks : List LK} {xs : List Value} (h : wfK (k :: ks) xs = true) : ∃ x ys, xs = x :: ys ∧ wfV k x = true ∧ wfK ks ys = true := by
 cases xs with
 | nil => cases h
 | cons x ys => simp only [wfK, Bool.and_eq_true] at h;exact ⟨x, ys, rfl, h.1, h.2⟩
theorem wfK_nil {xs : List Value} (h : wfK [] xs = true) : xs = [] := by
 cases xs with
 | nil => rfl
 | cons x ys => cases h
theorem ip_wf : ∀ (xs : List Value) (n : Nat), wfK (List.replicate n (.i .u8)) xs = true → ∃ a : List Int, xs = ipC a ∧ a.length = n ∧ ∀ x ∈ a, 0 ≤ x ∧ x < 256
 | [], 0, _ => ⟨[], rfl, rfl, by simp⟩
 | [], n + 1, h => by simp [List.replicate_succ, wfK] at h
 | _ :: _, 0, h => by simp [wfK] at h
 | x :: xs, n + 1, h => by
  simp only [List.replicate_succ, wfK, Bool.and_eq_true] at h
  obtain ⟨a, rfl, hl, hb⟩ := ip_wf xs n h.2
  obtain ⟨m, rfl, h0, h1⟩ := wfV_int h.1
  refine ⟨m :: a, rfl, by simp [hl], fun y hy => ?_⟩
  rcases List.mem_cons.1 hy with rfl | hy
  ·simp only [loK, hiK] at h0 h1;omega
  ·exact hb y hy
section
variable {H : Type} {enc : TypeId × Value → H} {w : World} {r : Reach} {b0 base : Nat} {sp : Nat → Bool} {held : Bool} {v : Value} {d : DataW H} {p : List MemPlace}
theorem wfK_split : ∀ {ks ks' : List LK} {xs : List Value}, wfK (ks ++ ks') xs = true → ∃ ys zs, xs = ys ++ zs ∧ wfK ks ys = true ∧ wfK ks' zs = true
 | [], ks', xs, h => ⟨[], xs, rfl, rfl, h⟩
 | k :: ks, ks', [], h => by cases h
 | k :: ks, ks', x :: xs, h => by
  simp only [List.cons_append, wfK, Bool.and_eq_true] at h
  obtain ⟨ys, zs, rfl, h1, h2⟩ := wfK_split h.2
  exact ⟨x :: ys, zs, rfl, by simp [wfK, h.1, h1], h2⟩
end
set_option maxRecDepth 100000 in
theorem open_il {H : Type} {enc : TypeId × Value → H} {w : World} {r : Reach} {b0 base : Nat} {held : Bool} {v : Value} {d : DataW H} {p : List MemPlace} (hval : Value.okWide Tryz.prog w r b0 22 v) (h : DataW.Trod enc Tryz.prog w base (fun _ => true) held 22 v d p) :
  ∃ xs q cap, v = .slice q xs.length cap ∧ xs.length ≤ cap ∧ IntsAt w v xs := by
 obtain ⟨a, len, cap, rfl⟩ := okWide_slice Tryz.underlying22 hval
 obtain ⟨fuel, hf⟩ := h
 have hone : (Value.slice a len cap).cells.toList = [Value.slice a len cap] := rfl
 rw [hone] at hf
 rcases open_ints Tryz.underlying22 Tryz.underlying3 (by kernel_rfl) hf with ⟨h1, _⟩ | ⟨a', len', cap', zs, h1, _, hlc, hcm, hzl, _, hat, hwf⟩
 ·cases h1
  exact ⟨[], none, 0, rfl, by simp, ⟨⟨none, 0, rfl, by simp, fun h => absurd h (by simp)⟩, by simp, by simp⟩⟩
 ·cases h1
  simp only [if_true] at hzl
  have hml : maxLen = 9223372036854775807 := rfl
  have htl : (zs.take len).length = len := by rw [List.length_take];omega
  refine ⟨zs.take len, some a', cap, by rw [htl], by omega, ⟨⟨some a', cap, by rw [htl], by omega, fun hl => ?_⟩, fun x hx => ?_, by omega⟩⟩
  ·rw [htl] at hl
   have h0 := hat 0 (by omega)
   have hsp : a'.spot = none := by
    cases hs : a'.spot with
    | none => rfl
    | some q =>
     have e0 : a'.add 0 = a' := by simp [Addr.add]
     rw [e0] at h0
     simp only [World.cell?, hs] at h0
     split at h0 <;> simp at h0
   obtain ⟨b, o, sp⟩ := a'
   simp only at hsp
   subst hsp
   have hadd : ∀ i, (⟨b, o, none⟩ : Addr).add i = ⟨b, o + i, none⟩ := fun i => addr_add b o i
   rw [hadd] at h0
   cases hb : w.heap[b]? with
   | none => simp [World.cell?, hb] at h0
   | some ob =>
    cases ob with
    | cells cs t fz =>
     refine ⟨b, o, cs, t, fz, rfl, hb, ?_⟩
     have hcell : ∀ i, i < zs.length → cs[o + i]? = some (.int .i64 (zs.getD i 0)) := fun i hi => by
      have := hat i hi
      rw [hadd] at this
      simpa [World.cell?, hb] using this
     have hle : o + len ≤ cs.toList.length := by
      have := hcell (len - 1) (by omega)
      have := (Array.getElem?_eq_some_iff.1 this).1
      simp only [Array.length_toList]
      omega
     rw [htl, seg_eq, if_pos hle]
     congr 1
     apply List.ext_getElem
     ·simp only [List.length_take, List.length_drop, i64C, List.length_map]
      omega
     ·intro i h1 h2
      have hi : i < len := by simp only [List.length_take] at h1;omega
      have := hcell i (by omega)
      have h3 := Array.getElem?_eq_some_iff.1 this
      obtain ⟨h4, h5⟩ := h3
      simp only [List.getElem_take, List.getElem_drop, Array.getElem_toList, h5, i64C, List.getElem_map]
      rw [List.getD_eq_getElem?_getD, List.getElem?_eq_getElem (by omega)]
      rfl
    | _ => simp [World.cell?, hb] at h0
  ·have := int_bd (hwf x (List.mem_of_mem_take hx))
   exact this
end Go.Proofs.YtfhkmgcalcfibaaGreat
namespace Go.Proofs.YtfhkmgcalcfibaaGreat
open Go.RowKit
theorem add_add (a : Addr) (m r : Nat) : (a.add m).add r = a.add (m + r) := by
 obtain ⟨b, o, sp⟩ := a
 unfold Addr.add
 by_cases hm : m = 0
 ·subst hm
  simp
 ·by_cases hr : r = 0
  ·subst hr;simp [hm]
  ·simp [hm, hr, show ¬ m + r = 0 by omega];omega
section
variable {H : Type} {enc : TypeId × Value → H} {P : Program} {w : World} {base : Nat} {sp : Nat → Bool} {held : Bool}
theorem open_slG {α : Type} {encE : α → List Value} {Is : α → Prop} {t e : TypeId} {sz : Nat} (ht : P.underlying t = some (.slice e)) (hsz : P.cellsOf e = sz) (h0 : 0 < sz)
  (hdec : ∀ n cs y, DataW.trod enc P w base sp held n e cs = some y → ∃ x : α, Is x ∧ cs = encE x) {fuel : Nat} {cs : List Value} {x : DataW H × List MemPlace} (h : DataW.trod enc P w base sp held fuel t cs = some x) :
  ∃ (v : Value) (ls : List α), cs = [v] ∧ (∀ x ∈ ls, Is x) ∧ SlAt w sz v ls.length (encL encE ls) ∧ ls.length ≤ 9223372036854775807 := by
 rcases DataW.trod_slice ht h with ⟨rfl, _⟩ | ⟨a, len, cap, elems, rest, n, _, rfl, _, _, hlc, hcm, hel, hat, _, _⟩
 ·exact ⟨_, [], rfl, by simp, SlAt.nil _ _, by simp⟩
 have hml : maxLen = 9223372036854775807 := rfl
 rw [hsz] at hat
 have key : ∀ k, k ≤ len → ∃ ls : List α, ls.length = k ∧ (∀ x ∈ ls, Is x) ∧ (encL encE ls).length = k * sz ∧ ∀ j, j < k * sz → w.cell? (a.add j) = (encL encE ls)[j]? := by
  intro k
  induction k with
  | zero => exact fun _ => ⟨[], rfl, by simp, by simp [encL_nil], by simp⟩
  | succ k ih =>
   intro hk
   obtain ⟨ls, h1, h2, h3, h4⟩ := ih (by omega)
   have hb := hat k (by omega)
   rw [List.getElem?_eq_getElem (by omega), Option.bind_eq_some_iff] at hb
   obtain ⟨ck, hc, hy⟩ := hb
   obtain ⟨x, hx, rfl⟩ := hdec _ _ _ hy
   obtain ⟨_, hcl, hca⟩ := World.cells?_some hc
   refine ⟨ls ++ [x], by simp [h1], fun z hz => ?_, ?_, fun j hj => ?_⟩
   ·rcases List.mem_append.1 hz with h | h
    ·exact h2 z h
    ·simp only [List.mem_singleton] at h
     rw [h];exact hx
   ·rw [encL_app, encL_one, List.length_append, h3, hcl, Nat.add_mul];omega
   ·rw [encL_app, encL_one]
    rcases Nat.lt_or_ge j (k * sz) with h | h
    ·rw [List.getElem?_append_left (by omega)]
     exact h4 j h
    ·rw [List.getElem?_append_right (by omega), h3, ← hca (j - k * sz) (by rw [Nat.add_mul] at hj;omega), add_add]
     congr 2
     omega
 obtain ⟨ls, h1, h2, h3, h4⟩ := key len (Nat.le_refl _)
 refine ⟨_, ls, rfl, h2, ⟨some a, cap, by rw [h1], by omega, fun _ _ => trivial, by rw [h3, h1], fun hl => ?_⟩, by omega⟩
 have hpos : 0 < len * sz := Nat.mul_pos (by omega) h0
 have hc0 := h4 0 hpos
 have hsp : a.spot = none := by
  cases hs : a.spot with
  | none => rfl
  | some q =>
   have e0 : a.add 0 = a := by simp [Addr.add]
   rw [e0, List.getElem?_eq_getElem (by omega)] at hc0
   simp only [World.cell?, hs] at hc0
   split at hc0 <;> simp at hc0
 obtain ⟨b, o, spt⟩ := a
 simp only at hsp
 subst hsp
 have hadd : ∀ i, (⟨b, o, none⟩ : Addr).add i = ⟨b, o + i, none⟩ := fun i => addr_add b o i
 rw [hadd, List.getElem?_eq_getElem (by omega)] at hc0
 cases hb : w.heap[b]? with
 | none => simp [World.cell?, hb] at hc0
 | some ob =>
  cases ob with
  | cells cs t fz =>
   refine ⟨b, o, cs.toList, t, fz, rfl, by simpa using hb, ?_⟩
   have hcell : ∀ i, i < len * sz → cs[o + i]? = (encL encE ls)[i]? := fun i hi => by
    have := h4 i hi
    rw [hadd] at this
    simpa [World.cell?, hb] using this
   have hle : o + len * sz ≤ cs.toList.length := by
    have := hcell (len * sz - 1) (by omega)
    rw [List.getElem?_eq_getElem (by omega)] at this
    have := (Array.getElem?_eq_some_iff.1 this).1
    simp only [Array.length_toList]
    omega
   rw [h1, sg_eq, if_pos hle]
   congr 1
   apply List.ext_getElem?
   intro i
   rcases Nat.lt_or_ge i (len * sz) with hi | hi
   ·rw [List.getElem?_take_of_lt hi, List.getElem?_drop, Array.getElem?_toList, hcell i hi]
   ·rw [List.getElem?_eq_none (by simp;omega), List.getElem?_eq_none (by omega)]
  | _ => simp [World.cell?, hb] at hc0
end
structure DstV where
 dip : List Int
 dbits : Int
 sip : List Int
 sbits : Int
 rt : Int
 deriving DecidableEq
def dvC (o : DstV) : List Value := pfC o.dip o.dbits ++ (pfC o.sip o.sbits ++ ([.int .u64 o.rt]))
def IsDv (o : DstV) : Prop := IsIP o.dip ∧ IsIP o.sip
theorem dv_len {o : DstV} (h : IsDv o) : (dvC o).length = 35 := by
 obtain ⟨f_dip, f_dbits, f_sip, f_sbits, f_rt⟩ := o
 obtain ⟨x0_0, x0_1, x0_2, x0_3, x0_4, x0_5, x0_6, x0_7, x0_8, x0_9, x0_10, x0_11, x0_12, x0_13, x0_14, x0_15, e0⟩ := len16 (show f_dip.length = 16 from (h.1).len)
 obtain ⟨x1_0, x1_1, x1_2, x1_3, x1_4, x1_5, x1_6, x1_7, x1_8, x1_9, x1_10, x1_11, x1_12, x1_13, x1_14, x1_15, e1⟩ := len16 (show f_sip.length = 16 from (h.2).len)
 subst e0
 subst e1
 rfl
theorem dv_all {o : DstV} (h : IsDv o) : seg (dvC o) 0 35 = some (dvC o) := sg_all (dv_len h)
theorem dv_dst {o : DstV} (h : IsDv o) : seg (dvC o) 0 17 = some (pfC o.dip o.dbits) := by
 obtain ⟨f_dip, f_dbits, f_sip, f_sbits, f_rt⟩ := o
 obtain ⟨x0_0, x0_1, x0_2, x0_3, x0_4, x0_5, x0_6, x0_7, x0_8, x0_9, x0_10, x0_11, x0_12, x0_13, x0_14, x0_15, e0⟩ := len16 (show f_dip.length = 16 from (h.1).len)
 obtain ⟨x1_0, x1_1, x1_2, x1_3, x1_4, x1_5, x1_6, x1_7, x1_8, x1_9, x1_10, x1_11, x1_12, x1_13, x1_14, x1_15, e1⟩ := len16 (show f_sip.length = 16 from (h.2).len)
 subst e0
 subst e1
 rfl
theorem dv_dip {o : DstV} (h : IsDv o) : seg (dvC o) 0 16 = some (ipC o.dip) := by
 obtain ⟨f_dip, f_dbits, f_sip, f_sbits, f_rt⟩ := o
 obtain ⟨x0_0, x0_1, x0_2, x0_3, x0_4, x0_5, x0_6, x0_7, x0_8, x0_9, x0_10, x0_11, x0_12, x0_13, x0_14, x0_15, e0⟩ := len16 (show f_dip.length = 16 from (h.1).len)
 obtain ⟨x1_0, x1_1, x1_2, x1_3, x1_4, x1_5, x1_6, x1_7, x1_8, x1_9, x1_10, x1_11, x1_12, x1_13, x1_14, x1_15, e1⟩ := len16 (show f_sip.length = 16 from (h.2).len)
 subst e0
 subst e1
 rfl
theorem dv_dbits {o : DstV} (h : IsDv o) : nth (dvC o) 16 = some (.int .i64 o.dbits) := by
 obtain ⟨f_dip, f_dbits, f_sip, f_sbits, f_rt⟩ := o
 obtain ⟨x0_0, x0_1, x0_2, x0_3, x0_4, x0_5, x0_6, x0_7, x0_8, x0_9, x0_10, x0_11, x0_12, x0_13, x0_14, x0_15, e0⟩ := len16 (show f_dip.length = 16 from (h.1).len)
 obtain ⟨x1_0, x1_1, x1_2, x1_3, x1_4, x1_5, x1_6, x1_7, x1_8, x1_9, x1_10, x1_11, x1_12, x1_13, x1_14, x1_15, e1⟩ := len16 (show f_sip.length = 16 from (h.2).len)
 subst e0
 subst e1
 rfl
theorem dv_src {o : DstV} (h : IsDv o) : seg (dvC o) 17 17 = some (pfC o.sip o.sbits) := by
 obtain ⟨f_dip, f_dbits, f_sip, f_sbits, f_rt⟩ := o
 obtain ⟨x0_0, x0_1, x0_2, x0_3, x0_4, x0_5, x0_6, x0_7, x0_8, x0_9, x0_10, x0_11, x0_12, x0_13, x0_14, x0_15, e0⟩ := len16 (show f_dip.length = 16 from (h.1).len)
 obtain ⟨x1_0, x1_1, x1_2, x1_3, x1_4, x1_5, x1_6, x1_7, x1_8, x1_9, x1_10, x1_11, x1_12, x1_13, x1_14, x1_15, e1⟩ := len16 (show f_sip.length = 16 from (h.2).len)
 subst e0
 subst e1
 rfl
theorem dv_sip {o : DstV} (h : IsDv o) : seg (dvC o) 17 16 = some (ipC o.sip) := by
 obtain ⟨f_dip, f_dbits, f_sip, f_sbits, f_rt⟩ := o
 obtain ⟨x0_0, x0_1, x0_2, x0_3, x0_4, x0_5, x0_6, x0_7, x0_8, x0_9, x0_10, x0_11, x0_12, x0_13, x0_14, x0_15, e0⟩ := len16 (show f_dip.length = 16 from (h.1).len)
 obtain ⟨x1_0, x1_1, x1_2, x1_3, x1_4, x1_5, x1_6, x1_7, x1_8, x1_9, x1_10, x1_11, x1_12, x1_13, x1_14, x1_15, e1⟩ := len16 (show f_sip.length = 16 from (h.2).len)
 subst e0
 subst e1
 rfl
theorem dv_sbits {o : DstV} (h : IsDv o) : nth (dvC o) 33 = some (.int .i64 o.sbits) := by
 obtain ⟨f_dip, f_dbits, f_sip, f_sbits, f_rt⟩ := o
 obtain ⟨x0_0, x0_1, x0_2, x0_3, x0_4, x0_5, x0_6, x0_7, x0_8, x0_9, x0_10, x0_11, x0_12, x0_13, x0_14, x0_15, e0⟩ := len16 (show f_dip.length = 16 from (h.1).len)
 obtain ⟨x1_0, x1_1, x1_2, x1_3, x1_4, x1_5, x1_6, x1_7, x1_8, x1_9, x1_10, x1_11, x1_12, x1_13, x1_14, x1_15, e1⟩ := len16 (show f_sip.length = 16 from (h.2).len)
 subst e0
 subst e1
 rfl
theorem dv_put_src {o : DstV} (h : IsDv o) {z : List Int} (hz : IsIP z) (y : Int) : put (dvC o) 17 (pfC z y) = some (dvC { o with sip := z, sbits := y }) := by
 obtain ⟨f_dip, f_dbits, f_sip, f_sbits, f_rt⟩ := o
 obtain ⟨x0_0, x0_1, x0_2, x0_3, x0_4, x0_5, x0_6, x0_7, x0_8, x0_9, x0_10, x0_11, x0_12, x0_13, x0_14, x0_15, e0⟩ := len16 (show f_dip.length = 16 from (h.1).len)
 obtain ⟨x1_0, x1_1, x1_2, x1_3, x1_4, x1_5, x1_6, x1_7, x1_8, x1_9, x1_10, x1_11, x1_12, x1_13, x1_14, x1_15, e1⟩ := len16 (show f_sip.length = 16 from (h.2).len)
 subst e0
 subst e1
 obtain ⟨z0, z1, z2, z3, z4, z5, z6, z7, z8, z9, z10, z11, z12, z13, z14, z15, ez⟩ := len16 hz.len
 subst ez
 rfl
theorem dv_rt {o : DstV} (h : IsDv o) : nth (dvC o) 34 = some (.int .u64 o.rt) := by
 obtain ⟨f_dip, f_dbits, f_sip, f_sbits, f_rt⟩ := o
 obtain ⟨x0_0, x0_1, x0_2, x0_3, x0_4, x0_5, x0_6, x0_7, x0_8, x0_9, x0_10, x0_11, x0_12, x0_13, x0_14, x0_15, e0⟩ := len16 (show f_dip.length = 16 from (h.1).len)
 obtain ⟨x1_0, x1_1, x1_2, x1_3, x1_4, x1_5, x1_6, x1_7, x1_8, x1_9, x1_10, x1_11, x1_12, x1_13, x1_14, x1_15, e1⟩ := len16 (show f_sip.length = 16 from (h.2).len)
 subst e0
 subst e1
 rfl
theorem dv_one (o : DstV) : (dvC o).all (·.oneCell') = true := by
 simp [pfC, ipC, dvC, Value.oneCell']
def dvZ : List Value := [.int .u8 0, .int .u8 0, .int .u8 0, .int .u8 0, .int .u8 0, .int .u8 0, .int .u8 0, .int .u8 0, .int .u8 0, .int .u8 0, .int .u8 0, .int .u8 0, .int .u8 0, .int .u8 0, .int .u8 0, .int .u8 0, .int .i64 0, .int .u8 0, .int .u8 0, .int .u8 0, .int .u8 0, .int .u8 0, .int .u8 0, .int .u8 0, .int .u8 0, .int .u8 0, .int .u8 0, .int .u8 0, .int .u8 0, .int .u8 0, .int .u8 0, .int .u8 0, .int .u8 0, .int .i64 0, .int .u64 0]
theorem dv_build {o : DstV} (h : IsDv o) : putAll [(0, 17), (17, 17), (34, 1)] dvZ [(0, pfC o.dip o.dbits), (1, pfC o.sip o.sbits), (2, [.int .u64 o.rt])] = some (dvC o) := by
 obtain ⟨f_dip, f_dbits, f_sip, f_sbits, f_rt⟩ := o
 obtain ⟨x0_0, x0_1, x0_2, x0_3, x0_4, x0_5, x0_6, x0_7, x0_8, x0_9, x0_10, x0_11, x0_12, x0_13, x0_14, x0_15, e0⟩ := len16 (show f_dip.length = 16 from (h.1).len)
 obtain ⟨x1_0, x1_1, x1_2, x1_3, x1_4, x1_5, x1_6, x1_7, x1_8, x1_9, x1_10, x1_11, x1_12, x1_13, x1_14, x1_15, e1⟩ := len16 (show f_sip.length = 16 from (h.2).len)
 subst e0
 subst e1
 rfl
abbrev dvK : List LK := [.i .u8, .i .u8, .i .u8, .i .u8, .i .u8, .i .u8, .i .u8, .i .u8, .i .u8, .i .u8, .i .u8, .i .u8, .i .u8, .i .u8, .i .u8, .i .u8, .i .i64, .i .u8, .i .u8, .i .u8, .i .u8, .i .u8, .i .u8, .i .u8, .i .u8, .i .u8, .i .u8, .i .u8, .i .u8, .i .u8, .i .u8, .i .u8, .i .u8, .i .i64, .i .u64]
theorem dv_fits {o : DstV} (h : IsDv o) : fitsK dvK (dvC o) = true := by
 obtain ⟨f_dip, f_dbits, f_sip, f_sbits, f_rt⟩ := o
 obtain ⟨x0_0, x0_1, x0_2, x0_3, x0_4, x0_5, x0_6, x0_7, x0_8, x0_9, x0_10, x0_11, x0_12, x0_13, x0_14, x0_15, e0⟩ := len16 (show f_dip.length = 16 from (h.1).len)
 obtain ⟨x1_0, x1_1, x1_2, x1_3, x1_4, x1_5, x1_6, x1_7, x1_8, x1_9, x1_10, x1_11, x1_12, x1_13, x1_14, x1_15, e1⟩ := len16 (show f_sip.length = 16 from (h.2).len)
 subst e0
 subst e1
 rfl
theorem dv_eq {a b : DstV} (ha : IsDv a) (hb : IsDv b) : eqVs (dvC a) (dvC b) = decide (a = b) := by
 have l0 : a.dip.length = b.dip.length := by rw [(ha.1).len, (hb.1).len]
 have l1 : a.sip.length = b.sip.length := by rw [(ha.2).len, (hb.2).len]
 rw [Bool.eq_iff_iff, decide_eq_true_eq]
 obtain ⟨a_dip, a_dbits, a_sip, a_sbits, a_rt⟩ := a
 obtain ⟨b_dip, b_dbits, b_sip, b_sbits, b_rt⟩ := b
 dsimp only at l0 l1
 simp only [dvC, DstV.mk.injEq]
 rw [eqVs_append _ _ _ _ (by first | rfl | assumption | (simp [pfC, ipC];assumption))]
 rw [eqVs_append _ _ _ _ (by first | rfl | assumption | (simp [pfC, ipC];assumption))]
 rw [eqVs_pf l0]
 rw [eqVs_pf l1]
 simp [eqVs, eqV, Bool.and_eq_true, beq_iff_eq, Bool.and_true, and_assoc, decide_eq_true_eq, List.cons_append, List.nil_append]
structure DisV where
 seq : Int
 met : Int
 deriving DecidableEq
def diC (o : DisV) : List Value := [.int .u16 o.seq, .int .i64 o.met]
def IsDi (o : DisV) : Prop := True
theorem di_len {o : DisV} (h : IsDi o) : (diC o).length = 2 := by
 obtain ⟨f_seq, f_met⟩ := o
 rfl
theorem di_all {o : DisV} (h : IsDi o) : seg (diC o) 0 2 = some (diC o) := sg_all (di_len h)
theorem di_seq {o : DisV} (h : IsDi o) : nth (diC o) 0 = some (.int .u16 o.seq) := by
 obtain ⟨f_seq, f_met⟩ := o
 rfl
theorem di_met {o : DisV} (h : IsDi o) : nth (diC o) 1 = some (.int .i64 o.met) := by
 obtain ⟨f_seq, f_met⟩ := o
 rfl
theorem di_one (o : DisV) : (diC o).all (·.oneCell') = true := by
 simp [pfC, ipC, diC, Value.oneCell']
def diZ : List Value := [.int .u16 0, .int .i64 0]
abbrev diK : List LK := [.i .u16, .i .i64]
theorem di_fits {o : DisV} (h : IsDi o) : fitsK diK (diC o) = true := by
 obtain ⟨f_seq, f_met⟩ := o
 rfl
theorem di_eq {a b : DisV} (ha : IsDi a) (hb : IsDi b) : eqVs (diC a) (diC b) = decide (a = b) := by
 rw [Bool.eq_iff_iff, decide_eq_true_eq]
 obtain ⟨a_seq, a_met⟩ := a
 obtain ⟨b_seq, b_met⟩ := b
 simp only [diC, DisV.mk.injEq]
 simp [eqVs, eqV, Bool.and_eq_true, beq_iff_eq, Bool.and_true, and_assoc, decide_eq_true_eq, List.cons_append, List.nil_append]
structure AdvV where
 to : DstV
 own : DisV
 deriving DecidableEq
def avC (o : AdvV) : List Value := dvC o.to ++ (diC o.own)
def IsAv (o : AdvV) : Prop := IsDv o.to ∧ IsDi o.own
theorem av_len {o : AdvV} (h : IsAv o) : (avC o).length = 37 := by
 obtain ⟨⟨f_to_dip, f_to_dbits, f_to_sip, f_to_sbits, f_to_rt⟩, ⟨f_own_seq, f_own_met⟩⟩ := o
 obtain ⟨x0_0, x0_1, x0_2, x0_3, x0_4, x0_5, x0_6, x0_7, x0_8, x0_9, x0_10, x0_11, x0_12, x0_13, x0_14, x0_15, e0⟩ := len16 (show f_to_dip.length = 16 from (h.1.1).len)
 obtain ⟨x1_0, x1_1, x1_2, x1_3, x1_4, x1_5, x1_6, x1_7, x1_8, x1_9, x1_10, x1_11, x1_12, x1_13, x1_14, x1_15, e1⟩ := len16 (show f_to_sip.length = 16 from (h.1.2).len)
 subst e0
 subst e1
 rfl
theorem av_all {o : AdvV} (h : IsAv o) : seg (avC o) 0 37 = some (avC o) := sg_all (av_len h)
theorem av_to {o : AdvV} (h : IsAv o) : seg (avC o) 0 35 = some (dvC o.to) := by
 obtain ⟨⟨f_to_dip, f_to_dbits, f_to_sip, f_to_sbits, f_to_rt⟩, ⟨f_own_seq, f_own_met⟩⟩ := o
 obtain ⟨x0_0, x0_1, x0_2, x0_3, x0_4, x0_5, x0_6, x0_7, x0_8, x0_9, x0_10, x0_11, x0_12, x0_13, x0_14, x0_15, e0⟩ := len16 (show f_to_dip.length = 16 from (h.1.1).len)
 obtain ⟨x1_0, x1_1, x1_2, x1_3, x1_4, x1_5, x1_6, x1_7, x1_8, x1_9, x1_10, x1_11, x1_12, x1_13, x1_14, x1_15, e1⟩ := len16 (show f_to_sip.length = 16 from (h.1.2).len)
 subst e0
 subst e1
 rfl
theorem av_own {o : AdvV} (h : IsAv o) : seg (avC o) 35 2 = some (diC o.own) := by
 obtain ⟨⟨f_to_dip, f_to_dbits, f_to_sip, f_to_sbits, f_to_rt⟩, ⟨f_own_seq, f_own_met⟩⟩ := o
 obtain ⟨x0_0, x0_1, x0_2, x0_3, x0_4, x0_5, x0_6, x0_7, x0_8, x0_9, x0_10, x0_11, x0_12, x0_13, x0_14, x0_15, e0⟩ := len16 (show f_to_dip.length = 16 from (h.1.1).len)
 obtain ⟨x1_0, x1_1, x1_2, x1_3, x1_4, x1_5, x1_6, x1_7, x1_8, x1_9, x1_10, x1_11, x1_12, x1_13, x1_14, x1_15, e1⟩ := len16 (show f_to_sip.length = 16 from (h.1.2).len)
 subst e0
 subst e1
 rfl
theorem av_own_met {o : AdvV} (h : IsAv o) : nth (avC o) 36 = some (.int .i64 o.own.met) := by
 obtain ⟨⟨f_to_dip, f_to_dbits, f_to_sip, f_to_sbits, f_to_rt⟩, ⟨f_own_seq, f_own_met⟩⟩ := o
 obtain ⟨x0_0, x0_1, x0_2, x0_3, x0_4, x0_5, x0_6, x0_7, x0_8, x0_9, x0_10, x0_11, x0_12, x0_13, x0_14, x0_15, e0⟩ := len16 (show f_to_dip.length = 16 from (h.1.1).len)
 obtain ⟨x1_0, x1_1, x1_2, x1_3, x1_4, x1_5, x1_6, x1_7, x1_8, x1_9, x1_10, x1_11, x1_12, x1_13, x1_14, x1_15, e1⟩ := len16 (show f_to_sip.length = 16 from (h.1.2).len)
 subst e0
 subst e1
 rfl
theorem av_put_own {o : AdvV} (h : IsAv o) {z : DisV} (hz : IsDi z) : put (avC o) 35 (diC z) = some (avC { o with own := z }) := by
 obtain ⟨⟨f_to_dip, f_to_dbits, f_to_sip, f_to_sbits, f_to_rt⟩, ⟨f_own_seq, f_own_met⟩⟩ := o
 obtain ⟨x0_0, x0_1, x0_2, x0_3, x0_4, x0_5, x0_6, x0_7, x0_8, x0_9, x0_10, x0_11, x0_12, x0_13, x0_14, x0_15, e0⟩ := len16 (show f_to_dip.length = 16 from (h.1.1).len)
 obtain ⟨x1_0, x1_1, x1_2, x1_3, x1_4, x1_5, x1_6, x1_7, x1_8, x1_9, x1_10, x1_11, x1_12, x1_13, x1_14, x1_15, e1⟩ := len16 (show f_to_sip.length = 16 from (h.1.2).len)
 subst e0
 subst e1
 obtain ⟨z_seq, z_met⟩ := z
 rfl
theorem av_put_own_met {o : AdvV} (h : IsAv o) (z : Int) : put (avC o) 36 [.int .i64 z] = some (avC { o with own := { o.own with met := z } }) := by
 obtain ⟨⟨f_to_dip, f_to_dbits, f_to_sip, f_to_sbits, f_to_rt⟩, ⟨f_own_seq, f_own_met⟩⟩ := o
 obtain ⟨x0_0, x0_1, x0_2, x0_3, x0_4, x0_5, x0_6, x0_7, x0_8, x0_9, x0_10, x0_11, x0_12, x0_13, x0_14, x0_15, e0⟩ := len16 (show f_to_dip.length = 16 from (h.1.1).len)
 obtain ⟨x1_0, x1_1, x1_2, x1_3, x1_4, x1_5, x1_6, x1_7, x1_8, x1_9, x1_10, x1_11, x1_12, x1_13, x1_14, x1_15, e1⟩ := len16 (show f_to_sip.length = 16 from (h.1.2).len)
 subst e0
 subst e1
 rfl
theorem av_one (o : AdvV) : (avC o).all (·.oneCell') = true := by
 simp [pfC, ipC, avC, dvC, diC, Value.oneCell']
def avZ : List Value := [.int .u8 0, .int .u8 0, .int .u8 0, .int .u8 0, .int .u8 0, .int .u8 0, .int .u8 0, .int .u8 0, .int .u8 0, .int .u8 0, .int .u8 0, .int .u8 0, .int .u8 0, .int .u8 0, .int .u8 0, .int .u8 0, .int .i64 0, .int .u8 0, .int .u8 0, .int .u8 0, .int .u8 0, .int .u8 0, .int .u8 0, .int .u8 0, .int .u8 0, .int .u8 0, .int .u8 0, .int .u8 0, .int .u8 0, .int .u8 0, .int .u8 0, .int .u8 0, .int .u8 0, .int .i64 0, .int .u64 0, .int .u16 0, .int .i64 0]
theorem av_build {o : AdvV} (h : IsAv o) : putAll [(0, 35), (35, 2)] avZ [(0, dvC o.to), (1, diC o.own)] = some (avC o) := by
 obtain ⟨⟨f_to_dip, f_to_dbits, f_to_sip, f_to_sbits, f_to_rt⟩, ⟨f_own_seq, f_own_met⟩⟩ := o
 obtain ⟨x0_0, x0_1, x0_2, x0_3, x0_4, x0_5, x0_6, x0_7, x0_8, x0_9, x0_10, x0_11, x0_12, x0_13, x0_14, x0_15, e0⟩ := len16 (show f_to_dip.length = 16 from (h.1.1).len)
 obtain ⟨x1_0, x1_1, x1_2, x1_3, x1_4, x1_5, x1_6, x1_7, x1_8, x1_9, x1_10, x1_11, x1_12, x1_13, x1_14, x1_15, e1⟩ := len16 (show f_to_sip.length = 16 from (h.1.2).len)
 subst e0
 subst e1
 rfl
theorem av_build1 {o : AdvV} (h : IsAv o) : putAll (placesL 1 37) (zerosL avZ (1 * 37)) [(0, avC o)] = some (avC o) := by
 obtain ⟨⟨f_to_dip, f_to_dbits, f_to_sip, f_to_sbits, f_to_rt⟩, ⟨f_own_seq, f_own_met⟩⟩ := o
 obtain ⟨x0_0, x0_1, x0_2, x0_3, x0_4, x0_5, x0_6, x0_7, x0_8, x0_9, x0_10, x0_11, x0_12, x0_13, x0_14, x0_15, e0⟩ := len16 (show f_to_dip.length = 16 from (h.1.1).len)
 obtain ⟨x1_0, x1_1, x1_2, x1_3, x1_4, x1_5, x1_6, x1_7, x1_8, x1_9, x1_10, x1_11, x1_12, x1_13, x1_14, x1_15, e1⟩ := len16 (show f_to_sip.length = 16 from (h.1.2).len)
 subst e0
 subst e1
 rfl
abbrev avsC (l : List AdvV) : List Value := encL avC l
theorem avs_len {l : List AdvV} (h : ∀ x ∈ l, IsAv x) : ∀ x ∈ l, (avC x).length = 37 := fun x hx => av_len (h x hx)
theorem avs_one {l : List AdvV} : (avsC l).all (·.oneCell') = true := encL_all fun x _ => av_one x
structure InsV where
 to : DstV
 nb : Int
 own : DisV
 btn : Int
 til : Int
 deriving DecidableEq
def inC (o : InsV) : List Value := dvC o.to ++ ([.int .u64 o.nb] ++ (diC o.own ++ ([.int .i64 o.btn, .int .i64 o.til])))
def IsIn (o : InsV) : Prop := IsDv o.to ∧ IsDi o.own
theorem in_len {o : InsV} (h : IsIn o) : (inC o).length = 40 := by
 obtain ⟨⟨f_to_dip, f_to_dbits, f_to_sip, f_to_sbits, f_to_rt⟩, f_nb, ⟨f_own_seq, f_own_met⟩, f_btn, f_til⟩ := o
 obtain ⟨x0_0, x0_1, x0_2, x0_3, x0_4, x0_5, x0_6, x0_7, x0_8, x0_9, x0_10, x0_11, x0_12, x0_13, x0_14, x0_15, e0⟩ := len16 (show f_to_dip.length = 16 from (h.1.1).len)
 obtain ⟨x1_0, x1_1, x1_2, x1_3, x1_4, x1_5, x1_6, x1_7, x1_8, x1_9, x1_10, x1_11, x1_12, x1_13, x1_14, x1_15, e1⟩ := len16 (show f_to_sip.length = 16 from (h.1.2).len)
 subst e0
 subst e1
 rfl
theorem in_all {o : InsV} (h : IsIn o) : seg (inC o) 0 40 = some (inC o) := sg_all (in_len h)
theorem in_to {o : InsV} (h : IsIn o) : seg (inC o) 0 35 = some (dvC o.to) := by
 obtain ⟨⟨f_to_dip, f_to_dbits, f_to_sip, f_to_sbits, f_to_rt⟩, f_nb, ⟨f_own_seq, f_own_met⟩, f_btn, f_til⟩ := o
 obtain ⟨x0_0, x0_1, x0_2, x0_3, x0_4, x0_5, x0_6, x0_7, x0_8, x0_9, x0_10, x0_11, x0_12, x0_13, x0_14, x0_15, e0⟩ := len16 (show f_to_dip.length = 16 from (h.1.1).len)
 obtain ⟨x1_0, x1_1, x1_2, x1_3, x1_4, x1_5, x1_6, x1_7, x1_8, x1_9, x1_10, x1_11, x1_12, x1_13, x1_14, x1_15, e1⟩ := len16 (show f_to_sip.length = 16 from (h.1.2).len)
 subst e0
 subst e1
 rfl
theorem in_to_rt {o : InsV} (h : IsIn o) : nth (inC o) 34 = some (.int .u64 o.to.rt) := by
 obtain ⟨⟨f_to_dip, f_to_dbits, f_to_sip, f_to_sbits, f_to_rt⟩, f_nb, ⟨f_own_seq, f_own_met⟩, f_btn, f_til⟩ := o
 obtain ⟨x0_0, x0_1, x0_2, x0_3, x0_4, x0_5, x0_6, x0_7, x0_8, x0_9, x0_10, x0_11, x0_12, x0_13, x0_14, x0_15, e0⟩ := len16 (show f_to_dip.length = 16 from (h.1.1).len)
 obtain ⟨x1_0, x1_1, x1_2, x1_3, x1_4, x1_5, x1_6, x1_7, x1_8, x1_9, x1_10, x1_11, x1_12, x1_13, x1_14, x1_15, e1⟩ := len16 (show f_to_sip.length = 16 from (h.1.2).len)
 subst e0
 subst e1
 rfl
theorem in_put_to {o : InsV} (h : IsIn o) {z : DstV} (hz : IsDv z) : put (inC o) 0 (dvC z) = some (inC { o with to := z }) := by
 obtain ⟨⟨f_to_dip, f_to_dbits, f_to_sip, f_to_sbits, f_to_rt⟩, f_nb, ⟨f_own_seq, f_own_met⟩, f_btn, f_til⟩ := o
 obtain ⟨x0_0, x0_1, x0_2, x0_3, x0_4, x0_5, x0_6, x0_7, x0_8, x0_9, x0_10, x0_11, x0_12, x0_13, x0_14, x0_15, e0⟩ := len16 (show f_to_dip.length = 16 from (h.1.1).len)
 obtain ⟨x1_0, x1_1, x1_2, x1_3, x1_4, x1_5, x1_6, x1_7, x1_8, x1_9, x1_10, x1_11, x1_12, x1_13, x1_14, x1_15, e1⟩ := len16 (show f_to_sip.length = 16 from (h.1.2).len)
 subst e0
 subst e1
 obtain ⟨z_dip, z_dbits, z_sip, z_sbits, z_rt⟩ := z
 obtain ⟨y0_0, y0_1, y0_2, y0_3, y0_4, y0_5, y0_6, y0_7, y0_8, y0_9, y0_10, y0_11, y0_12, y0_13, y0_14, y0_15, g0⟩ := len16 (show z_dip.length = 16 from (hz.1).len)
 obtain ⟨y1_0, y1_1, y1_2, y1_3, y1_4, y1_5, y1_6, y1_7, y1_8, y1_9, y1_10, y1_11, y1_12, y1_13, y1_14, y1_15, g1⟩ := len16 (show z_sip.length = 16 from (hz.2).len)
 subst g0
 subst g1
 rfl
theorem in_nb {o : InsV} (h : IsIn o) : nth (inC o) 35 = some (.int .u64 o.nb) := by
 obtain ⟨⟨f_to_dip, f_to_dbits, f_to_sip, f_to_sbits, f_to_rt⟩, f_nb, ⟨f_own_seq, f_own_met⟩, f_btn, f_til⟩ := o
 obtain ⟨x0_0, x0_1, x0_2, x0_3, x0_4, x0_5, x0_6, x0_7, x0_8, x0_9, x0_10, x0_11, x0_12, x0_13, x0_14, x0_15, e0⟩ := len16 (show f_to_dip.length = 16 from (h.1.1).len)
 obtain ⟨x1_0, x1_1, x1_2, x1_3, x1_4, x1_5, x1_6, x1_7, x1_8, x1_9, x1_10, x1_11, x1_12, x1_13, x1_14, x1_15, e1⟩ := len16 (show f_to_sip.length = 16 from (h.1.2).len)
 subst e0
 subst e1
 rfl
theorem in_put_nb {o : InsV} (h : IsIn o) (z : Int) : put (inC o) 35 [.int .u64 z] = some (inC { o with nb := z }) := by
 obtain ⟨⟨f_to_dip, f_to_dbits, f_to_sip, f_to_sbits, f_to_rt⟩, f_nb, ⟨f_own_seq, f_own_met⟩, f_btn, f_til⟩ := o
 obtain ⟨x0_0, x0_1, x0_2, x0_3, x0_4, x0_5, x0_6, x0_7, x0_8, x0_9, x0_10, x0_11, x0_12, x0_13, x0_14, x0_15, e0⟩ := len16 (show f_to_dip.length = 16 from (h.1.1).len)
 obtain ⟨x1_0, x1_1, x1_2, x1_3, x1_4, x1_5, x1_6, x1_7, x1_8, x1_9, x1_10, x1_11, x1_12, x1_13, x1_14, x1_15, e1⟩ := len16 (show f_to_sip.length = 16 from (h.1.2).len)
 subst e0
 subst e1
 rfl
theorem in_own {o : InsV} (h : IsIn o) : seg (inC o) 36 2 = some (diC o.own) := by
 obtain ⟨⟨f_to_dip, f_to_dbits, f_to_sip, f_to_sbits, f_to_rt⟩, f_nb, ⟨f_own_seq, f_own_met⟩, f_btn, f_til⟩ := o
 obtain ⟨x0_0, x0_1, x0_2, x0_3, x0_4, x0_5, x0_6, x0_7, x0_8, x0_9, x0_10, x0_11, x0_12, x0_13, x0_14, x0_15, e0⟩ := len16 (show f_to_dip.length = 16 from (h.1.1).len)
 obtain ⟨x1_0, x1_1, x1_2, x1_3, x1_4, x1_5, x1_6, x1_7, x1_8, x1_9, x1_10, x1_11, x1_12, x1_13, x1_14, x1_15, e1⟩ := len16 (show f_to_sip.length = 16 from (h.1.2).len)
 subst e0
 subst e1
 rfl
theorem in_own_met {o : InsV} (h : IsIn o) : nth (inC o) 37 = some (.int .i64 o.own.met) := by
 obtain ⟨⟨f_to_dip, f_to_dbits, f_to_sip, f_to_sbits, f_to_rt⟩, f_nb, ⟨f_own_seq, f_own_met⟩, f_btn, f_til⟩ := o
 obtain ⟨x0_0, x0_1, x0_2, x0_3, x0_4, x0_5, x0_6, x0_7, x0_8, x0_9, x0_10, x0_11, x0_12, x0_13, x0_14, x0_15, e0⟩ := len16 (show f_to_dip.length = 16 from (h.1.1).len)
 obtain ⟨x1_0, x1_1, x1_2, x1_3, x1_4, x1_5, x1_6, x1_7, x1_8, x1_9, x1_10, x1_11, x1_12, x1_13, x1_14, x1_15, e1⟩ := len16 (show f_to_sip.length = 16 from (h.1.2).len)
 subst e0
 subst e1
 rfl
theorem in_put_own_met {o : InsV} (h : IsIn o) (z : Int) : put (inC o) 37 [.int .i64 z] = some (inC { o with own := { o.own with met := z } }) := by
 obtain ⟨⟨f_to_dip, f_to_dbits, f_to_sip, f_to_sbits, f_to_rt⟩, f_nb, ⟨f_own_seq, f_own_met⟩, f_btn, f_til⟩ := o
 obtain ⟨x0_0, x0_1, x0_2, x0_3, x0_4, x0_5, x0_6, x0_7, x0_8, x0_9, x0_10, x0_11, x0_12, x0_13, x0_14, x0_15, e0⟩ := len16 (show f_to_dip.length = 16 from (h.1.1).len)
 obtain ⟨x1_0, x1_1, x1_2, x1_3, x1_4, x1_5, x1_6, x1_7, x1_8, x1_9, x1_10, x1_11, x1_12, x1_13, x1_14, x1_15, e1⟩ := len16 (show f_to_sip.length = 16 from (h.1.2).len)
 subst e0
 subst e1
 rfl
theorem in_btn {o : InsV} (h : IsIn o) : nth (inC o) 38 = some (.int .i64 o.btn) := by
 obtain ⟨⟨f_to_dip, f_to_dbits, f_to_sip, f_to_sbits, f_to_rt⟩, f_nb, ⟨f_own_seq, f_own_met⟩, f_btn, f_til⟩ := o
 obtain ⟨x0_0, x0_1, x0_2, x0_3, x0_4, x0_5, x0_6, x0_7, x0_8, x0_9, x0_10, x0_11, x0_12, x0_13, x0_14, x0_15, e0⟩ := len16 (show f_to_dip.length = 16 from (h.1.1).len)
 obtain ⟨x1_0, x1_1, x1_2, x1_3, x1_4, x1_5, x1_6, x1_7, x1_8, x1_9, x1_10, x1_11, x1_12, x1_13, x1_14, x1_15, e1⟩ := len16 (show f_to_sip.length = 16 from (h.1.2).len)
 subst e0
 subst e1
 rfl
theorem in_put_btn {o : InsV} (h : IsIn o) (z : Int) : put (inC o) 38 [.int .i64 z] = some (inC { o with btn := z }) := by
 obtain ⟨⟨f_to_dip, f_to_dbits, f_to_sip, f_to_sbits, f_to_rt⟩, f_nb, ⟨f_own_seq, f_own_met⟩, f_btn, f_til⟩ := o
 obtain ⟨x0_0, x0_1, x0_2, x0_3, x0_4, x0_5, x0_6, x0_7, x0_8, x0_9, x0_10, x0_11, x0_12, x0_13, x0_14, x0_15, e0⟩ := len16 (show f_to_dip.length = 16 from (h.1.1).len)
 obtain ⟨x1_0, x1_1, x1_2, x1_3, x1_4, x1_5, x1_6, x1_7, x1_8, x1_9, x1_10, x1_11, x1_12, x1_13, x1_14, x1_15, e1⟩ := len16 (show f_to_sip.length = 16 from (h.1.2).len)
 subst e0
 subst e1
 rfl
theorem in_til {o : InsV} (h : IsIn o) : nth (inC o) 39 = some (.int .i64 o.til) := by
 obtain ⟨⟨f_to_dip, f_to_dbits, f_to_sip, f_to_sbits, f_to_rt⟩, f_nb, ⟨f_own_seq, f_own_met⟩, f_btn, f_til⟩ := o
 obtain ⟨x0_0, x0_1, x0_2, x0_3, x0_4, x0_5, x0_6, x0_7, x0_8, x0_9, x0_10, x0_11, x0_12, x0_13, x0_14, x0_15, e0⟩ := len16 (show f_to_dip.length = 16 from (h.1.1).len)
 obtain ⟨x1_0, x1_1, x1_2, x1_3, x1_4, x1_5, x1_6, x1_7, x1_8, x1_9, x1_10, x1_11, x1_12, x1_13, x1_14, x1_15, e1⟩ := len16 (show f_to_sip.length = 16 from (h.1.2).len)
 subst e0
 subst e1
 rfl
theorem in_put_til {o : InsV} (h : IsIn o) (z : Int) : put (inC o) 39 [.int .i64 z] = some (inC { o with til := z }) := by
 obtain ⟨⟨f_to_dip, f_to_dbits, f_to_sip, f_to_sbits, f_to_rt⟩, f_nb, ⟨f_own_seq, f_own_met⟩, f_btn, f_til⟩ := o
 obtain ⟨x0_0, x0_1, x0_2, x0_3, x0_4, x0_5, x0_6, x0_7, x0_8, x0_9, x0_10, x0_11, x0_12, x0_13, x0_14, x0_15, e0⟩ := len16 (show f_to_dip.length = 16 from (h.1.1).len)
 obtain ⟨x1_0, x1_1, x1_2, x1_3, x1_4, x1_5, x1_6, x1_7, x1_8, x1_9, x1_10, x1_11, x1_12, x1_13, x1_14, x1_15, e1⟩ := len16 (show f_to_sip.length = 16 from (h.1.2).len)
 subst e0
 subst e1
 rfl
theorem in_one (o : InsV) : (inC o).all (·.oneCell') = true := by
 simp [pfC, ipC, inC, dvC, diC, Value.oneCell']
def inZ : List Value := [.int .u8 0, .int .u8 0, .int .u8 0, .int .u8 0, .int .u8 0, .int .u8 0, .int .u8 0, .int .u8 0, .int .u8 0, .int .u8 0, .int .u8 0, .int .u8 0, .int .u8 0, .int .u8 0, .int .u8 0, .int .u8 0, .int .i64 0, .int .u8 0, .int .u8 0, .int .u8 0, .int .u8 0, .int .u8 0, .int .u8 0, .int .u8 0, .int .u8 0, .int .u8 0, .int .u8 0, .int .u8 0, .int .u8 0, .int .u8 0, .int .u8 0, .int .u8 0, .int .u8 0, .int .i64 0, .int .u64 0, .int .u64 0, .int .u16 0, .int .i64 0, .int .i64 0, .int .i64 0]
theorem in_build {o : InsV} (h : IsIn o) : putAll [(0, 35), (35, 1), (36, 2), (38, 1), (39, 1)] inZ [(0, dvC o.to), (1, [.int .u64 o.nb]), (2, diC o.own), (3, [.int .i64 o.btn]), (4, [.int .i64 o.til])] = some (inC o) := by
 obtain ⟨⟨f_to_dip, f_to_dbits, f_to_sip, f_to_sbits, f_to_rt⟩, f_nb, ⟨f_own_seq, f_own_met⟩, f_btn, f_til⟩ := o
 obtain ⟨x0_0, x0_1, x0_2, x0_3, x0_4, x0_5, x0_6, x0_7, x0_8, x0_9, x0_10, x0_11, x0_12, x0_13, x0_14, x0_15, e0⟩ := len16 (show f_to_dip.length = 16 from (h.1.1).len)
 obtain ⟨x1_0, x1_1, x1_2, x1_3, x1_4, x1_5, x1_6, x1_7, x1_8, x1_9, x1_10, x1_11, x1_12, x1_13, x1_14, x1_15, e1⟩ := len16 (show f_to_sip.length = 16 from (h.1.2).len)
 subst e0
 subst e1
 rfl
theorem in_build1 {o : InsV} (h : IsIn o) : putAll (placesL 1 40) (zerosL inZ (1 * 40)) [(0, inC o)] = some (inC o) := by
 obtain ⟨⟨f_to_dip, f_to_dbits, f_to_sip, f_to_sbits, f_to_rt⟩, f_nb, ⟨f_own_seq, f_own_met⟩, f_btn, f_til⟩ := o
 obtain ⟨x0_0, x0_1, x0_2, x0_3, x0_4, x0_5, x0_6, x0_7, x0_8, x0_9, x0_10, x0_11, x0_12, x0_13, x0_14, x0_15, e0⟩ := len16 (show f_to_dip.length = 16 from (h.1.1).len)
 obtain ⟨x1_0, x1_1, x1_2, x1_3, x1_4, x1_5, x1_6, x1_7, x1_8, x1_9, x1_10, x1_11, x1_12, x1_13, x1_14, x1_15, e1⟩ := len16 (show f_to_sip.length = 16 from (h.1.2).len)
 subst e0
 subst e1
 rfl
abbrev insC (l : List InsV) : List Value := encL inC l
theorem ins_len {l : List InsV} (h : ∀ x ∈ l, IsIn x) : ∀ x ∈ l, (inC x).length = 40 := fun x hx => in_len (h x hx)
theorem ins_one {l : List InsV} : (insC l).all (·.oneCell') = true := encL_all fun x _ => in_one x
end Go.Proofs.YtfhkmgcalcfibaaGreat
namespace Go.Proofs.YtfhkmgcalcfibaaGreat
def keyD (d : DstV) : List Int := d.dip ++ (d.dbits :: (d.sip ++ [d.sbits, d.rt]))
def cmpD (a b : DstV) : Int := cmpL (keyD a) (keyD b)
theorem cmpD_self (a : DstV) : cmpD a a = 0 := cmpL_self _
theorem cmpD_anti (a b : DstV) : cmpD b a = - cmpD a b := cmpL_anti _ _
theorem cmpD_trans {a b c : DstV} (h : cmpD a b < 0) (k : cmpD b c < 0) : cmpD a c < 0 := cmpL_lt_trans h k
theorem cmpD_zero {a b : DstV} (ha : IsDv a) (hb : IsDv b) (h : cmpD a b = 0) : a = b := by
 have h1 := cmpL_zero h
 obtain ⟨d1, d2, s1, s2, r⟩ := a
 obtain ⟨e1, e2, t1, t2, q⟩ := b
 simp only [keyD] at h1
 obtain ⟨h2, h3⟩ := List.append_inj h1 (by rw [(show IsIP d1 from ha.1).len, (show IsIP e1 from hb.1).len])
 simp only [List.cons.injEq] at h3
 obtain ⟨h4, h5⟩ := List.append_inj h3.2 (by rw [(show IsIP s1 from ha.2).len, (show IsIP t1 from hb.2).len])
 simp only [List.cons.injEq, and_true] at h5
 rw [h2, h3.1, h4, h5.1, h5.2]
def cmpI (a b : Int) : Int := if a < b then -1 else if b < a then 1 else 0
def orI (a b : Int) : Int := if a = 0 then b else a
theorem cmpL_cons (x y : Int) (xs ys : List Int) : cmpL (x :: xs) (y :: ys) = orI (cmpI x y) (cmpL xs ys) := by
 simp only [cmpL, orI, cmpI]
 split
 ·rfl
 ·split <;> rfl
theorem cmpL_two : ∀ (xs ys us vs : List Int), xs.length = ys.length → cmpL (xs ++ us) (ys ++ vs) = orI (cmpL xs ys) (cmpL us vs)
 | [], [], _, _, _ => rfl
 | x :: xs, y :: ys, us, vs, h => by
  rw [List.cons_append, List.cons_append, cmpL_cons, cmpL_cons, cmpL_two xs ys us vs (by simpa using h)]
  simp only [orI]
  split <;> simp_all
 | [], _ :: _, _, _, h => by cases h
 | _ :: _, [], _, _, h => by cases h
theorem cmpD_or {a b : DstV} (ha : IsDv a) (hb : IsDv b) : cmpD a b = orI (cmpL a.dip b.dip) (orI (cmpI a.dbits b.dbits) (orI (cmpL a.sip b.sip) (orI (cmpI a.sbits b.sbits) (cmpI a.rt b.rt)))) := by
 unfold cmpD keyD
 rw [cmpL_two _ _ _ _ (by rw [ha.1.len, hb.1.len]), cmpL_cons, cmpL_two _ _ _ _ (by rw [ha.2.len, hb.2.len]), cmpL_cons, cmpL_cons]
 congr 4
 simp only [cmpL, orI, cmpI]
 split <;> simp_all
section asc
variable {α : Type} (key : α → DstV)
def AscK (l : List α) : Prop := l.Pairwise fun a b => cmpD (key a) (key b) < 0
theorem ascK_unique : ∀ (az bs : List α), AscK key az → AscK key bs → (∀ x, x ∈ az ↔ x ∈ bs) → az = bs
 | [], bs, _, _, h => by
  cases bs with
  | nil => rfl
  | cons b bs => have := (h b).2 (by simp);cases this
 | a :: az, [], _, _, h => by have := (h a).1 (by simp);cases this
 | a :: az, b :: bs, ha, hb, h => by
  obtain ⟨ha1, ha2⟩ := List.pairwise_cons.1 ha
  obtain ⟨hb1, hb2⟩ := List.pairwise_cons.1 hb
  have hab : a = b := by
   rcases List.mem_cons.1 ((h a).1 (by simp)) with h1 | h1
   ·exact h1
   ·rcases List.mem_cons.1 ((h b).2 (by simp)) with h2 | h2
    ·exact h2.symm
    ·have h3 := hb1 a h1
     have h4 := ha1 b h2
     have := cmpD_anti (key a) (key b)
     omega
  subst hab
  have hne : ∀ x, cmpD (key a) (key x) < 0 → x ≠ a := fun x hx e => by rw [e, cmpD_self] at hx;omega
  rw [ascK_unique az bs ha2 hb2 fun x => ⟨fun hx => by
   rcases List.mem_cons.1 ((h x).1 (by simp [hx])) with h1 | h1
   ·exact absurd h1 (hne x (ha1 x hx))
   ·exact h1, fun hx => by
   rcases List.mem_cons.1 ((h x).2 (by simp [hx])) with h1 | h1
   ·exact absurd h1 (hne x (hb1 x hx))
   ·exact h1⟩]
variable {key}
theorem AscK.sub {l m : List α} (h : AscK key l) (hs : m.Sublist l) : AscK key m := List.Pairwise.sublist hs h
theorem AscK.filter {l : List α} (h : AscK key l) (f : α → Bool) : AscK key (l.filter f) := h.sub List.filter_sublist
end asc
def inf : Int := 65535
abbrev AscA (l : List AdvV) : Prop := AscK AdvV.to l
def Lo (d : DstV) (l : List AdvV) : Prop := ∀ x ∈ l, cmpD d x.to < 0
theorem Lo.trans {d e : DstV} {l : List AdvV} (h : Lo e l) (k : cmpD d e < 0) : Lo d l := fun x hx => cmpD_trans k (h x hx)
def validT (d : DstV) : Bool := validP d.dip d.dbits && validP d.sip d.sbits && !decide (d.rt = 0)
def validM (m : Int) : Bool := decide (0 ≤ m) && decide (m ≤ 65535)
def adv1 (l : List AdvV) (i : Nat) : Bool := match l[i]? with
 | none => true
 | some a => validT a.to && validM a.own.met && (decide (i = 0) || match l[i - 1]? with
  | none => true
  | some b => decide (cmpD b.to a.to < 0))
def validAs (l : List AdvV) : Bool := decide (l.length ≤ 520) && (List.range l.length).all (adv1 l)
theorem validAs_iff {l : List AdvV} : validAs l = true ↔ l.length ≤ 520 ∧ (∀ a ∈ l, validT a.to = true ∧ validM a.own.met = true) ∧ AscA l := by
 unfold validAs
 rw [Bool.and_eq_true, decide_eq_true_eq, List.all_eq_true]
 constructor
 ·rintro ⟨h1, h2⟩
  have hat : ∀ i (hi : i < l.length), (validT l[i].to = true ∧ validM l[i].own.met = true) ∧ (0 < i → ∀ h : i - 1 < l.length, cmpD l[i - 1].to l[i].to < 0) := by
   intro i hi
   have := h2 i (List.mem_range.2 hi)
   simp only [adv1, List.getElem?_eq_getElem hi, Bool.and_eq_true, Bool.or_eq_true, decide_eq_true_eq] at this
   refine ⟨this.1, fun h0 h => ?_⟩
   rcases this.2 with h3 | h3
   ·omega
   ·rw [List.getElem?_eq_getElem h] at h3
    simpa using h3
  refine ⟨h1, fun a ha => ?_, ?_⟩
  ·obtain ⟨i, hi, rfl⟩ := List.mem_iff_getElem.1 ha
   exact (hat i hi).1
  ·refine List.pairwise_iff_getElem.2 ?_
   intro i j hi hj hij
   have key : ∀ n, ∀ (hn : i + 1 + n < l.length), cmpD l[i].to (l[i + 1 + n]'hn).to < 0 := by
    intro n
    induction n with
    | zero => intro hn;exact (hat (i + 1) hn).2 (by omega) (by omega)
    | succ n ih =>
     intro hn
     have h3 := (hat (i + 1 + (n + 1)) hn).2 (by omega) (by omega)
     exact cmpD_trans (ih (by omega)) h3
   have := key (j - i - 1) (by omega)
   simpa [show i + 1 + (j - i - 1) = j by omega] using this
 ·rintro ⟨h1, h2, h3⟩
  refine ⟨h1, fun i hi => ?_⟩
  have hi' := List.mem_range.1 hi
  replace h3 := List.pairwise_iff_getElem.1 h3
  have h4 := h2 l[i] (List.getElem_mem hi')
  simp only [adv1, List.getElem?_eq_getElem hi', h4.1, h4.2, Bool.and_self, Bool.true_and, Bool.or_eq_true, decide_eq_true_eq]
  by_cases h0 : i = 0
  ·exact .inl h0
  ·right
   rw [List.getElem?_eq_getElem (show i - 1 < l.length by omega)]
   simpa using h3 (i - 1) i (by omega) hi' (by omega)
end Go.Proofs.YtfhkmgcalcfibaaGreat
namespace Go.Proofs.YtfhkmgcalcfibaaGreat
open Go.RowKit
attribute [local irreducible] OpTo wpListIn Code.wpIn MW Cal
theorem uisTime_c (t : Int) (W : World) : Cal Tryz.prog 196 [.int .i64 t].toArray W fun v w' => v = .bool (isTime t) ∧ Ext [] W w' := by
 unfold isTime
 by_cases h : 0 ≤ t
 ·rw [dqT h, Bool.true_and]
  exact g_start (n := 9) (S := []) fldT_ok slcT_ok Tryz.func196 rfl rfl rfl (gR 10 rfl (g_know 5 rfl (dqT (by omega)) (gR 7 rfl (g_ret1 rfl rfl rfl fun w M => ⟨rfl, M.ext⟩))))
 ·rw [dqF h, Bool.false_and]
  exact g_start (n := 9) (S := []) fldT_ok slcT_ok Tryz.func196 rfl rfl rfl (gR 10 rfl (g_know 5 rfl (dqF (by omega)) (gR 7 rfl (g_ret1 rfl rfl rfl fun w M => ⟨rfl, M.ext⟩))))
theorem mvalid_c (t : Int) (W : World) : Cal Tryz.prog 170 [.int .i64 t].toArray W fun v w' => v = .bool (validM t) ∧ Ext [] W w' := by
 unfold validM
 by_cases h : 0 ≤ t
 ·rw [dqT h, Bool.true_and]
  exact g_start (n := 9) (S := []) fldT_ok slcT_ok Tryz.func170 rfl rfl rfl (gR 10 rfl (g_know 5 rfl (dqT (by omega)) (gR 7 rfl (g_ret1 rfl rfl rfl fun w M => ⟨rfl, M.ext⟩))))
 ·rw [dqF h, Bool.false_and]
  exact g_start (n := 9) (S := []) fldT_ok slcT_ok Tryz.func170 rfl rfl rfl (gR 10 rfl (g_know 5 rfl (dqF (by omega)) (gR 7 rfl (g_ret1 rfl rfl rfl fun w M => ⟨rfl, M.ext⟩))))
theorem rmvalid_c (t : Int) (W : World) : Cal Tryz.prog 225 [.int .i64 t].toArray W fun v w' => v = .bool (validM t) ∧ Ext [] W w' := by
 unfold validM
 by_cases h : 0 ≤ t
 ·rw [dqT h, Bool.true_and]
  exact g_start (n := 9) (S := []) fldT_ok slcT_ok Tryz.func225 rfl rfl rfl (gR 10 rfl (g_know 5 rfl (dqT (by omega)) (gR 7 rfl (g_ret1 rfl rfl rfl fun w M => ⟨rfl, M.ext⟩))))
 ·rw [dqF h, Bool.false_and]
  exact g_start (n := 9) (S := []) fldT_ok slcT_ok Tryz.func225 rfl rfl rfl (gR 10 rfl (g_know 5 rfl (dqF (by omega)) (gR 7 rfl (g_ret1 rfl rfl rfl fun w M => ⟨rfl, M.ext⟩))))
theorem rdvalid_c (d : DisV) (W : World) : Cal Tryz.prog 167 [.agg (diC d).toArray].toArray W fun v w' => v = .bool (validM d.met) ∧ Ext [] W w' := by
 have e1 := di_met (o := d) trivial
 exact g_start (n := 6) (S := []) fldT_ok slcT_ok Tryz.func167 rfl rfl rfl (gR 2 rfl (g_box rfl rfl fun b1 => gR 6 rfl (g_ld1 0 rfl rfl (di_met trivial) (g_call rfl rfl (fun w M => rmvalid_c _ _) (gR 4 rfl (g_ret1 rfl rfl rfl fun w M => ⟨rfl, M.ext⟩))))))
theorem validTo_c (d : DstV) (hd : IsDv d) (W : World) : Cal Tryz.prog 125 [.agg (dvC d).toArray].toArray W fun v w' => v = .bool (validT d) ∧ Ext [] W w' := by
 have l1 := hd.1.len
 have l2 := hd.2.len
 have i1 : IsIP d.dip := hd.1
 have i2 : IsIP d.sip := hd.2
 unfold validT
 refine g_start (n := 16) (S := []) fldT_ok slcT_ok Tryz.func125 rfl rfl rfl ?_
 cases h1 : validP d.dip d.dbits
 ·refine gR 2 rfl ?_
  refine g_box rfl rfl fun b1 => gR 6 rfl (g_ldA 0 rfl rfl (dv_dst ‹_›) ?_)
  refine g_call rfl rfl (fun w M => validPrefix_c _ _ ‹_› _) ?_
  refine gR 1 rfl (g_know 6 rfl ‹_› ?_)
  exact gR 13 rfl (g_ret1 rfl rfl rfl fun w M => ⟨rfl, M.ext⟩)
 ·cases h2 : validP d.sip d.sbits
  ·refine gR 2 rfl ?_
   refine g_box rfl rfl fun b1 => gR 6 rfl (g_ldA 0 rfl rfl (dv_dst ‹_›) ?_)
   refine g_call rfl rfl (fun w M => validPrefix_c _ _ ‹_› _) ?_
   refine gR 1 rfl (g_know 6 rfl ‹_› ?_)
   refine gR 1 rfl (g_ldA 0 rfl rfl (dv_src ‹_›) ?_)
   refine g_call rfl rfl (fun w M => validPrefix_c _ _ ‹_› _) ?_
   refine gR 2 rfl (g_know 11 rfl ‹_› ?_)
   exact gR 8 rfl (g_ret1 rfl rfl rfl fun w M => ⟨rfl, M.ext⟩)
  ·refine gR 2 rfl ?_
   refine g_box rfl rfl fun b1 => gR 6 rfl (g_ldA 0 rfl rfl (dv_dst ‹_›) ?_)
   refine g_call rfl rfl (fun w M => validPrefix_c _ _ ‹_› _) ?_
   refine gR 1 rfl (g_know 6 rfl ‹_› ?_)
   refine gR 1 rfl (g_ldA 0 rfl rfl (dv_src ‹_›) ?_)
   refine g_call rfl rfl (fun w M => validPrefix_c _ _ ‹_› _) ?_
   refine gR 2 rfl (g_know 11 rfl ‹_› ?_)
   refine gR 1 rfl (g_ld1 0 rfl rfl (dv_rt ‹_›) ?_)
   exact gR 6 rfl (g_ret1 rfl rfl rfl fun w M => ⟨rfl, M.ext⟩)
theorem rvalidTo_c (d : DstV) (hd : IsDv d) (W : World) : Cal Tryz.prog 73 [.agg (dvC d).toArray].toArray W fun v w' => v = .bool (validT d) ∧ Ext [] W w' := by
 have l1 := hd.1.len
 have l2 := hd.2.len
 have i1 : IsIP d.dip := hd.1
 have i2 : IsIP d.sip := hd.2
 unfold validT
 refine g_start (n := 16) (S := []) fldT_ok slcT_ok Tryz.func73 rfl rfl rfl ?_
 cases h1 : validP d.dip d.dbits
 ·refine gR 2 rfl ?_
  refine g_box rfl rfl fun b1 => gR 6 rfl (g_ldA 0 rfl rfl (dv_dst ‹_›) ?_)
  refine g_call rfl rfl (fun w M => rvalidPrefix_c _ _ ‹_› _) ?_
  refine gR 1 rfl (g_know 6 rfl ‹_› ?_)
  exact gR 13 rfl (g_ret1 rfl rfl rfl fun w M => ⟨rfl, M.ext⟩)
 ·cases h2 : validP d.sip d.sbits
  ·refine gR 2 rfl ?_
   refine g_box rfl rfl fun b1 => gR 6 rfl (g_ldA 0 rfl rfl (dv_dst ‹_›) ?_)
   refine g_call rfl rfl (fun w M => rvalidPrefix_c _ _ ‹_› _) ?_
   refine gR 1 rfl (g_know 6 rfl ‹_› ?_)
   refine gR 1 rfl (g_ldA 0 rfl rfl (dv_src ‹_›) ?_)
   refine g_call rfl rfl (fun w M => rvalidPrefix_c _ _ ‹_› _) ?_
   refine gR 2 rfl (g_know 11 rfl ‹_› ?_)
   exact gR 8 rfl (g_ret1 rfl rfl rfl fun w M => ⟨rfl, M.ext⟩)
  ·refine gR 2 rfl ?_
   refine g_box rfl rfl fun b1 => gR 6 rfl (g_ldA 0 rfl rfl (dv_dst ‹_›) ?_)
   refine g_call rfl rfl (fun w M => rvalidPrefix_c _ _ ‹_› _) ?_
   refine gR 1 rfl (g_know 6 rfl ‹_› ?_)
   refine gR 1 rfl (g_ldA 0 rfl rfl (dv_src ‹_›) ?_)
   refine g_call rfl rfl (fun w M => rvalidPrefix_c _ _ ‹_› _) ?_
   refine gR 2 rfl (g_know 11 rfl ‹_› ?_)
   refine gR 1 rfl (g_ld1 0 rfl rfl (dv_rt ‹_›) ?_)
   exact gR 6 rfl (g_ret1 rfl rfl rfl fun w M => ⟨rfl, M.ext⟩)
theorem scompare_c (x y : DstV) (ha : IsDv x) (hb : IsDv y) (W : World) : Cal Tryz.prog 87 [.agg (dvC x).toArray, .agg (dvC y).toArray].toArray W fun v w' => v = .int .i64 (cmpD x y) ∧ Ext [] W w' := by
 have a1 := dv_dip ha
 have a2 := dv_dbits ha
 have a3 := dv_sip ha
 have a4 := dv_sbits ha
 have a5 := dv_rt ha
 have c1 := dv_dip hb
 have c2 := dv_dbits hb
 have c3 := dv_sip hb
 have c4 := dv_sbits hb
 have c5 := dv_rt hb
 have hr : cmpD x y = orV [cmpL x.dip y.dip, cmpV x.dbits y.dbits, cmpL x.sip y.sip, cmpV x.sbits y.sbits, cmpV x.rt y.rt] := by
  rw [cmpD_or ha hb]
  simp only [orV, orI]
  repeat' split
  all_goals first | rfl | (rename_i h;exact h) | (rename_i h;exact h.symm) | simp_all [cmpI, cmpV]
 rw [hr]
 refine fn_ofM (n := 40) [] Tryz.func87 rfl rfl rfl ?_
 intro a w F M hwW
 refine c_seq (c_region ?_)
 (refine sD F (o_box M (F.e rfl) rfl ?_);clear F M;intro b2 w M a F)
 (refine sD F (o_box M (F.e rfl) rfl ?_);clear F M;intro b3 w M a F)
 refine sD F (o_assign (F.e rfl) ?_);clear F a;intro a F
 with_reducible refine l_nil (q_then (c_seq ?_))
 replace F := F.only [2, 3] rfl
 refine c_draw 33 F (by kernel_rfl) ?_
 intro w1 hE hok
 have M1 := M.later hE
 refine mK hok rfl rfl (fun a' w' F' E' => o_fieldAddr (F'.e rfl) ⟨Ext.refl _ _, rfl⟩) (mK hok rfl rfl (fun a' w' F' E' => o_fieldAddr (F'.e rfl) ⟨Ext.refl _ _, rfl⟩) ?_)
 (refine mK hok rfl rfl (fun a' w' F' E' => o_arrAll (F'.e rfl) ⟨Ext.refl _ _, rfl⟩) ?_)
 refine mK hok rfl rfl (fun a' w' F' E' => o_fieldAddr (F'.e rfl) ⟨Ext.refl _ _, rfl⟩) (mK hok rfl rfl (fun a' w' F' E' => o_fieldAddr (F'.e rfl) ⟨Ext.refl _ _, rfl⟩) ?_)
 (refine mK hok rfl rfl (fun a' w' F' E' => o_arrAll (F'.e rfl) ⟨Ext.refl _ _, rfl⟩) ?_)
 skip
 (refine mK hok rfl rfl (fun a' w' F' E' => o_call (F'.e rfl) (F'.evs rfl) (Cal.mono (bytesCompare_c _ (n := 16) (m := 16) ⟨_, _, rfl, by omega, by simp, (ipC_len ha.1.len), fun _ => ⟨b2, 0, dvC x, _, _, rfl, (M1.later E').heap (.there .here), a1⟩⟩ ⟨_, _, rfl, by omega, by simp, (ipC_len hb.1.len), fun _ => ⟨b3, 0, dvC y, _, _, rfl, (M1.later E').heap .here, c1⟩⟩ ha.1.bd hb.1.bd) fun _ _ hh => ⟨hh.2, hh.1⟩)) ?_)
 refine mK hok rfl rfl (fun a' w' F' E' => o_fieldAddr (F'.e rfl) ⟨Ext.refl _ _, rfl⟩) (mK hok rfl rfl (fun a' w' F' E' => o_fieldAddr (F'.e rfl) ⟨Ext.refl _ _, rfl⟩) (mK hok rfl rfl (fun a' w' F' E' => o_load1 (M1.later E') (F'.e rfl) (by repeat constructor) (by first | assumption | rfl) ⟨Ext.refl _ _, rfl⟩) ?_))
 refine mK hok rfl rfl (fun a' w' F' E' => o_fieldAddr (F'.e rfl) ⟨Ext.refl _ _, rfl⟩) (mK hok rfl rfl (fun a' w' F' E' => o_fieldAddr (F'.e rfl) ⟨Ext.refl _ _, rfl⟩) (mK hok rfl rfl (fun a' w' F' E' => o_load1 (M1.later E') (F'.e rfl) (by repeat constructor) (by first | assumption | rfl) ⟨Ext.refl _ _, rfl⟩) ?_))
 (refine mK hok rfl rfl (fun a' w' F' E' => o_call (F'.e rfl) (F'.evs rfl) (Cal.mono (cmp_int x.dbits y.dbits _) fun _ _ hh => ⟨hh.2, hh.1⟩)) ?_)
 refine mK hok rfl rfl (fun a' w' F' E' => o_fieldAddr (F'.e rfl) ⟨Ext.refl _ _, rfl⟩) (mK hok rfl rfl (fun a' w' F' E' => o_fieldAddr (F'.e rfl) ⟨Ext.refl _ _, rfl⟩) ?_)
 (refine mK hok rfl rfl (fun a' w' F' E' => o_arrAll (F'.e rfl) ⟨Ext.refl _ _, rfl⟩) ?_)
 refine mK hok rfl rfl (fun a' w' F' E' => o_fieldAddr (F'.e rfl) ⟨Ext.refl _ _, rfl⟩) (mK hok rfl rfl (fun a' w' F' E' => o_fieldAddr (F'.e rfl) ⟨Ext.refl _ _, rfl⟩) ?_)
 (refine mK hok rfl rfl (fun a' w' F' E' => o_arrAll (F'.e rfl) ⟨Ext.refl _ _, rfl⟩) ?_)
 skip
 (refine mK hok rfl rfl (fun a' w' F' E' => o_call (F'.e rfl) (F'.evs rfl) (Cal.mono (bytesCompare_c _ (n := 16) (m := 16) ⟨_, _, rfl, by omega, by simp, (ipC_len ha.2.len), fun _ => ⟨b2, 17, dvC x, _, _, rfl, (M1.later E').heap (.there .here), a3⟩⟩ ⟨_, _, rfl, by omega, by simp, (ipC_len hb.2.len), fun _ => ⟨b3, 17, dvC y, _, _, rfl, (M1.later E').heap .here, c3⟩⟩ ha.2.bd hb.2.bd) fun _ _ hh => ⟨hh.2, hh.1⟩)) ?_)
 refine mK hok rfl rfl (fun a' w' F' E' => o_fieldAddr (F'.e rfl) ⟨Ext.refl _ _, rfl⟩) (mK hok rfl rfl (fun a' w' F' E' => o_fieldAddr (F'.e rfl) ⟨Ext.refl _ _, rfl⟩) (mK hok rfl rfl (fun a' w' F' E' => o_load1 (M1.later E') (F'.e rfl) (by repeat constructor) (by first | assumption | rfl) ⟨Ext.refl _ _, rfl⟩) ?_))
 refine mK hok rfl rfl (fun a' w' F' E' => o_fieldAddr (F'.e rfl) ⟨Ext.refl _ _, rfl⟩) (mK hok rfl rfl (fun a' w' F' E' => o_fieldAddr (F'.e rfl) ⟨Ext.refl _ _, rfl⟩) (mK hok rfl rfl (fun a' w' F' E' => o_load1 (M1.later E') (F'.e rfl) (by repeat constructor) (by first | assumption | rfl) ⟨Ext.refl _ _, rfl⟩) ?_))
 (refine mK hok rfl rfl (fun a' w' F' E' => o_call (F'.e rfl) (F'.evs rfl) (Cal.mono (cmp_int x.sbits y.sbits _) fun _ _ hh => ⟨hh.2, hh.1⟩)) ?_)
 refine mK hok rfl rfl (fun a' w' F' E' => o_fieldAddr (F'.e rfl) ⟨Ext.refl _ _, rfl⟩) (mK hok rfl rfl (fun a' w' F' E' => o_load1 (M1.later E') (F'.e rfl) (by repeat constructor) (by first | assumption | rfl) ⟨Ext.refl _ _, rfl⟩) ?_)
 refine mK hok rfl rfl (fun a' w' F' E' => o_fieldAddr (F'.e rfl) ⟨Ext.refl _ _, rfl⟩) (mK hok rfl rfl (fun a' w' F' E' => o_load1 (M1.later E') (F'.e rfl) (by repeat constructor) (by first | assumption | rfl) ⟨Ext.refl _ _, rfl⟩) ?_)
 (refine mK hok rfl rfl (fun a' w' F' E' => o_call (F'.e rfl) (F'.evs rfl) (Cal.mono (cmp_eui x.rt y.rt _) fun _ _ hh => ⟨hh.2, hh.1⟩)) ?_)
 skip
 (refine mDone rfl rfl ?_;clear F M;intro a w F hE2 hX hTT hDD hPP;have M := M1.later hE2;clear M1;clear hX;clear hE2;clear hok;clear hE;clear hTT;clear hDD;clear hPP;(try dsimp only at F))
 (refine sD F (o_buildSlice F M rfl rfl rfl rfl ?_);clear F M;intro b38 w M a F)
 (refine sD F (o_call (F.e rfl) (F.evs rfl) (Cal.mono (or_c (b := b38) [cmpL x.dip y.dip, cmpV x.dbits y.dbits, cmpL x.sip y.sip, cmpV x.sbits y.sbits, cmpV x.rt y.rt] 5 rfl (by omega) _ (M.heap .here)) ?_));clear F;clear a;rintro _ w ⟨rfl, hE⟩ a F;replace M := M.later hE;clear hE)
 refine sD F (o_assign (F.e rfl) ?_);clear F a;intro a F
 with_reducible refine l_nil (q_then (c_ret ?_))
 exact p_ret F rfl (.cons (.tmp (F.e rfl)) .nil) (⟨rfl, M.ext⟩)
theorem rcmpPf_c (p : List Int) (n : Int) (q : List Int) (m : Int) (hp : IsIP p) (hq : IsIP q) (W : World) : Cal Tryz.prog 186 [.agg (pfC p n).toArray, .agg (pfC q m).toArray].toArray W fun v w' => v = .int .i64 (orI (cmpL p q) (cmpI n m)) ∧ Ext [] W w' := by
 have e1 : seg (pfC p n) 0 16 = some (ipC p) := seg_pf0 hp.len n
 have e2 : seg (pfC q m) 0 16 = some (ipC q) := seg_pf0 hq.len m
 have e3 : nth (pfC p n) 16 = some (.int .i64 n) := nth_pf hp.len n
 have e4 : nth (pfC q m) 16 = some (.int .i64 m) := nth_pf hq.len m
 unfold orI cmpI
 refine g_start (n := 24) (S := []) fldT_ok slcT_ok Tryz.func186 rfl rfl rfl ?_
 by_cases h0 : cmpL p q = 0
 ·rw [if_pos h0]
  by_cases h1 : n < m
  ·rw [if_pos h1]
   refine gR 2 rfl (g_box rfl rfl fun b2 => g_box rfl rfl fun b3 => gR 7 rfl (g_ldA 1 rfl rfl (by with_reducible assumption) ?_))
   refine gR 1 rfl (g_ldA 0 rfl rfl (by with_reducible assumption) ?_)
   refine g_call rfl rfl (fun w M => rcompareIP_c _ _ ‹_› ‹_› _) ?_
   refine gR 9 rfl (g_ifF rfl (bneF (by omega)) (gR 6 rfl (g_ld1 1 rfl rfl (by with_reducible assumption) ?_)))
   refine gR 1 rfl (g_ld1 0 rfl rfl (by with_reducible assumption) ?_)
   exact gR 3 rfl (g_ifT rfl (dqT (by omega)) (gR 7 rfl (g_ret1 rfl rfl rfl fun w M => ⟨rfl, M.ext⟩)))
  ·rw [if_neg h1]
   by_cases h2 : m < n
   ·rw [if_pos h2]
    refine gR 2 rfl (g_box rfl rfl fun b2 => g_box rfl rfl fun b3 => gR 7 rfl (g_ldA 1 rfl rfl (by with_reducible assumption) ?_))
    refine gR 1 rfl (g_ldA 0 rfl rfl (by with_reducible assumption) ?_)
    refine g_call rfl rfl (fun w M => rcompareIP_c _ _ ‹_› ‹_› _) ?_
    refine gR 9 rfl (g_ifF rfl (bneF (by omega)) (gR 6 rfl (g_ld1 1 rfl rfl (by with_reducible assumption) ?_)))
    refine gR 1 rfl (g_ld1 0 rfl rfl (by with_reducible assumption) ?_)
    refine gR 3 rfl (g_ifF rfl (dqF (by omega)) (gR 6 rfl (g_ld1 1 rfl rfl (by with_reducible assumption) ?_)))
    refine gR 1 rfl (g_ld1 0 rfl rfl (by with_reducible assumption) ?_)
    exact gR 3 rfl (g_ifT rfl (dqT (by omega)) (gR 7 rfl (g_ret1 rfl rfl rfl fun w M => ⟨rfl, M.ext⟩)))
   ·rw [if_neg h2]
    refine gR 2 rfl (g_box rfl rfl fun b2 => g_box rfl rfl fun b3 => gR 7 rfl (g_ldA 1 rfl rfl (by with_reducible assumption) ?_))
    refine gR 1 rfl (g_ldA 0 rfl rfl (by with_reducible assumption) ?_)
    refine g_call rfl rfl (fun w M => rcompareIP_c _ _ ‹_› ‹_› _) ?_
    refine gR 9 rfl (g_ifF rfl (bneF (by omega)) (gR 6 rfl (g_ld1 1 rfl rfl (by with_reducible assumption) ?_)))
    refine gR 1 rfl (g_ld1 0 rfl rfl (by with_reducible assumption) ?_)
    refine gR 3 rfl (g_ifF rfl (dqF (by omega)) (gR 6 rfl (g_ld1 1 rfl rfl (by with_reducible assumption) ?_)))
    refine gR 1 rfl (g_ld1 0 rfl rfl (by with_reducible assumption) ?_)
    exact gR 3 rfl (g_ifF rfl (dqF (by omega)) (gR 8 rfl (g_ret1 rfl rfl rfl fun w M => ⟨rfl, M.ext⟩)))
 ·rw [if_neg h0]
  refine gR 2 rfl (g_box rfl rfl fun b2 => g_box rfl rfl fun b3 => gR 7 rfl (g_ldA 1 rfl rfl (by with_reducible assumption) ?_))
  refine gR 1 rfl (g_ldA 0 rfl rfl (by with_reducible assumption) ?_)
  refine g_call rfl rfl (fun w M => rcompareIP_c _ _ ‹_› ‹_› _) ?_
  exact gR 9 rfl (g_ifT rfl (bne_iff_ne.2 (by omega)) (gR 8 rfl (g_ret1 rfl rfl rfl fun w M => ⟨rfl, M.ext⟩)))
theorem orI_assoc (a b c : Int) : orI (orI a b) c = orI a (orI b c) := by
 unfold orI
 repeat' split
 all_goals simp_all
theorem rcompare_c (x y : DstV) (ha : IsDv x) (hb : IsDv y) (W : World) : Cal Tryz.prog 92 [.agg (dvC x).toArray, .agg (dvC y).toArray].toArray W fun v w' => v = .int .i64 (cmpD x y) ∧ Ext [] W w' := by
 have a1 := dv_dst ha
 have a3 := dv_src ha
 have a5 := dv_rt ha
 have c1 := dv_dst hb
 have c3 := dv_src hb
 have c5 := dv_rt hb
 have hr : cmpD x y = orI (orI (cmpL x.dip y.dip) (cmpI x.dbits y.dbits)) (orI (orI (cmpL x.sip y.sip) (cmpI x.sbits y.sbits)) (cmpI x.rt y.rt)) := by
  rw [cmpD_or ha hb, orI_assoc, orI_assoc]
 rw [hr]
 obtain ⟨p, hp⟩ : ∃ p, p = orI (cmpL x.dip y.dip) (cmpI x.dbits y.dbits) := ⟨_, rfl⟩
 obtain ⟨q, hq⟩ : ∃ q, q = orI (cmpL x.sip y.sip) (cmpI x.sbits y.sbits) := ⟨_, rfl⟩
 rw [← hp, ← hq]
 have k1 := rcmpPf_c x.dip x.dbits y.dip y.dbits ha.1 hb.1
 have k2 := rcmpPf_c x.sip x.sbits y.sip y.sbits ha.2 hb.2
 rw [← hp] at k1
 rw [← hq] at k2
 unfold orI cmpI
 refine g_start (n := 33) (S := []) fldT_ok slcT_ok Tryz.func92 rfl rfl rfl (gR 2 rfl (g_box rfl rfl fun b2 => g_box rfl rfl fun b3 => gR 7 rfl (g_ldA 1 rfl rfl (dv_dst ‹_›) ?_)))
 refine gR 1 rfl (g_ldA 0 rfl rfl (dv_dst ‹_›) ?_)
 refine g_call rfl rfl (fun w M => k1 _) ?_
 by_cases h0 : p = 0
 ·rw [if_pos h0]
  refine gR 9 rfl (g_ifF rfl (bneF (by omega)) (gR 6 rfl (g_ldA 1 rfl rfl (dv_src ‹_›) ?_)))
  refine gR 1 rfl (g_ldA 0 rfl rfl (dv_src ‹_›) ?_)
  refine g_call rfl rfl (fun w M => k2 _) ?_
  by_cases h1 : q = 0
  ·rw [if_pos h1]
   by_cases h2 : x.rt < y.rt
   ·rw [if_pos h2]
    refine gR 9 rfl (g_ifF rfl (bneF (by omega)) (gR 6 rfl (g_ld1 1 rfl rfl (dv_rt ‹_›) ?_)))
    refine gR 1 rfl (g_ld1 0 rfl rfl (dv_rt ‹_›) ?_)
    exact gR 3 rfl (g_ifT rfl (dqT (by omega)) (gR 7 rfl (g_ret1 rfl rfl rfl fun w M => ⟨rfl, M.ext⟩)))
   ·rw [if_neg h2]
    by_cases h3 : y.rt < x.rt
    ·rw [if_pos h3]
     refine gR 9 rfl (g_ifF rfl (bneF (by omega)) (gR 6 rfl (g_ld1 1 rfl rfl (dv_rt ‹_›) ?_)))
     refine gR 1 rfl (g_ld1 0 rfl rfl (dv_rt ‹_›) ?_)
     refine gR 3 rfl (g_ifF rfl (dqF (by omega)) (gR 6 rfl (g_ld1 1 rfl rfl (dv_rt ‹_›) ?_)))
     refine gR 1 rfl (g_ld1 0 rfl rfl (dv_rt ‹_›) ?_)
     exact gR 3 rfl (g_ifT rfl (dqT (by omega)) (gR 7 rfl (g_ret1 rfl rfl rfl fun w M => ⟨rfl, M.ext⟩)))
    ·rw [if_neg h3]
     refine gR 9 rfl (g_ifF rfl (bneF (by omega)) (gR 6 rfl (g_ld1 1 rfl rfl (dv_rt ‹_›) ?_)))
     refine gR 1 rfl (g_ld1 0 rfl rfl (dv_rt ‹_›) ?_)
     refine gR 3 rfl (g_ifF rfl (dqF (by omega)) (gR 6 rfl (g_ld1 1 rfl rfl (dv_rt ‹_›) ?_)))
     refine gR 1 rfl (g_ld1 0 rfl rfl (dv_rt ‹_›) ?_)
     exact gR 3 rfl (g_ifF rfl (dqF (by omega)) (gR 8 rfl (g_ret1 rfl rfl rfl fun w M => ⟨rfl, M.ext⟩)))
  ·rw [if_neg h1]
   exact gR 9 rfl (g_ifT rfl (bne_iff_ne.2 (by omega)) (gR 8 rfl (g_ret1 rfl rfl rfl fun w M => ⟨rfl, M.ext⟩)))
 ·rw [if_neg h0]
  exact gR 9 rfl (g_ifT rfl (bne_iff_ne.2 (by omega)) (gR 8 rfl (g_ret1 rfl rfl rfl fun w M => ⟨rfl, M.ext⟩)))
end Go.Proofs.YtfhkmgcalcfibaaGreat
namespace Go.Proofs.YtfhkmgcalcfibaaGreat
open Go.RowKit
structure RouV where
 to : DstV
 nb : Int
 said : DisV
 til : Int
 deriving DecidableEq
def roC (o : RouV) : List Value := dvC o.to ++ ([.int .u64 o.nb] ++ (diC o.said ++ ([.int .i64 o.til])))
def IsRo (o : RouV) : Prop := IsDv o.to ∧ IsDi o.said
theorem ro_len {o : RouV} (h : IsRo o) : (roC o).length = 39 := by
 obtain ⟨⟨f_to_dip, f_to_dbits, f_to_sip, f_to_sbits, f_to_rt⟩, f_nb, ⟨f_said_seq, f_said_met⟩, f_til⟩ := o
 obtain ⟨x0_0, x0_1, x0_2, x0_3, x0_4, x0_5, x0_6, x0_7, x0_8, x0_9, x0_10, x0_11, x0_12, x0_13, x0_14, x0_15, e0⟩ := len16 (show f_to_dip.length = 16 from (h.1.1).len)
 obtain ⟨x1_0, x1_1, x1_2, x1_3, x1_4, x1_5, x1_6, x1_7, x1_8, x1_9, x1_10, x1_11, x1_12, x1_13, x1_14, x1_15, e1⟩ := len16 (show f_to_sip.length = 16 from (h.1.2).len)
 subst e0
 subst e1
 rfl
theorem ro_all {o : RouV} (h : IsRo o) : seg (roC o) 0 39 = some (roC o) := sg_all (ro_len h)
theorem ro_to {o : RouV} (h : IsRo o) : seg (roC o) 0 35 = some (dvC o.to) := by
 obtain ⟨⟨f_to_dip, f_to_dbits, f_to_sip, f_to_sbits, f_to_rt⟩, f_nb, ⟨f_said_seq, f_said_met⟩, f_til⟩ := o
 obtain ⟨x0_0, x0_1, x0_2, x0_3, x0_4, x0_5, x0_6, x0_7, x0_8, x0_9, x0_10, x0_11, x0_12, x0_13, x0_14, x0_15, e0⟩ := len16 (show f_to_dip.length = 16 from (h.1.1).len)
 obtain ⟨x1_0, x1_1, x1_2, x1_3, x1_4, x1_5, x1_6, x1_7, x1_8, x1_9, x1_10, x1_11, x1_12, x1_13, x1_14, x1_15, e1⟩ := len16 (show f_to_sip.length = 16 from (h.1.2).len)
 subst e0
 subst e1
 rfl
theorem ro_to_rt {o : RouV} (h : IsRo o) : nth (roC o) 34 = some (.int .u64 o.to.rt) := by
 obtain ⟨⟨f_to_dip, f_to_dbits, f_to_sip, f_to_sbits, f_to_rt⟩, f_nb, ⟨f_said_seq, f_said_met⟩, f_til⟩ := o
 obtain ⟨x0_0, x0_1, x0_2, x0_3, x0_4, x0_5, x0_6, x0_7, x0_8, x0_9, x0_10, x0_11, x0_12, x0_13, x0_14, x0_15, e0⟩ := len16 (show f_to_dip.length = 16 from (h.1.1).len)
 obtain ⟨x1_0, x1_1, x1_2, x1_3, x1_4, x1_5, x1_6, x1_7, x1_8, x1_9, x1_10, x1_11, x1_12, x1_13, x1_14, x1_15, e1⟩ := len16 (show f_to_sip.length = 16 from (h.1.2).len)
 subst e0
 subst e1
 rfl
theorem ro_nb {o : RouV} (h : IsRo o) : nth (roC o) 35 = some (.int .u64 o.nb) := by
 obtain ⟨⟨f_to_dip, f_to_dbits, f_to_sip, f_to_sbits, f_to_rt⟩, f_nb, ⟨f_said_seq, f_said_met⟩, f_til⟩ := o
 obtain ⟨x0_0, x0_1, x0_2, x0_3, x0_4, x0_5, x0_6, x0_7, x0_8, x0_9, x0_10, x0_11, x0_12, x0_13, x0_14, x0_15, e0⟩ := len16 (show f_to_dip.length = 16 from (h.1.1).len)
 obtain ⟨x1_0, x1_1, x1_2, x1_3, x1_4, x1_5, x1_6, x1_7, x1_8, x1_9, x1_10, x1_11, x1_12, x1_13, x1_14, x1_15, e1⟩ := len16 (show f_to_sip.length = 16 from (h.1.2).len)
 subst e0
 subst e1
 rfl
theorem ro_said {o : RouV} (h : IsRo o) : seg (roC o) 36 2 = some (diC o.said) := by
 obtain ⟨⟨f_to_dip, f_to_dbits, f_to_sip, f_to_sbits, f_to_rt⟩, f_nb, ⟨f_said_seq, f_said_met⟩, f_til⟩ := o
 obtain ⟨x0_0, x0_1, x0_2, x0_3, x0_4, x0_5, x0_6, x0_7, x0_8, x0_9, x0_10, x0_11, x0_12, x0_13, x0_14, x0_15, e0⟩ := len16 (show f_to_dip.length = 16 from (h.1.1).len)
 obtain ⟨x1_0, x1_1, x1_2, x1_3, x1_4, x1_5, x1_6, x1_7, x1_8, x1_9, x1_10, x1_11, x1_12, x1_13, x1_14, x1_15, e1⟩ := len16 (show f_to_sip.length = 16 from (h.1.2).len)
 subst e0
 subst e1
 rfl
theorem ro_said_met {o : RouV} (h : IsRo o) : nth (roC o) 37 = some (.int .i64 o.said.met) := by
 obtain ⟨⟨f_to_dip, f_to_dbits, f_to_sip, f_to_sbits, f_to_rt⟩, f_nb, ⟨f_said_seq, f_said_met⟩, f_til⟩ := o
 obtain ⟨x0_0, x0_1, x0_2, x0_3, x0_4, x0_5, x0_6, x0_7, x0_8, x0_9, x0_10, x0_11, x0_12, x0_13, x0_14, x0_15, e0⟩ := len16 (show f_to_dip.length = 16 from (h.1.1).len)
 obtain ⟨x1_0, x1_1, x1_2, x1_3, x1_4, x1_5, x1_6, x1_7, x1_8, x1_9, x1_10, x1_11, x1_12, x1_13, x1_14, x1_15, e1⟩ := len16 (show f_to_sip.length = 16 from (h.1.2).len)
 subst e0
 subst e1
 rfl
theorem ro_til {o : RouV} (h : IsRo o) : nth (roC o) 38 = some (.int .i64 o.til) := by
 obtain ⟨⟨f_to_dip, f_to_dbits, f_to_sip, f_to_sbits, f_to_rt⟩, f_nb, ⟨f_said_seq, f_said_met⟩, f_til⟩ := o
 obtain ⟨x0_0, x0_1, x0_2, x0_3, x0_4, x0_5, x0_6, x0_7, x0_8, x0_9, x0_10, x0_11, x0_12, x0_13, x0_14, x0_15, e0⟩ := len16 (show f_to_dip.length = 16 from (h.1.1).len)
 obtain ⟨x1_0, x1_1, x1_2, x1_3, x1_4, x1_5, x1_6, x1_7, x1_8, x1_9, x1_10, x1_11, x1_12, x1_13, x1_14, x1_15, e1⟩ := len16 (show f_to_sip.length = 16 from (h.1.2).len)
 subst e0
 subst e1
 rfl
theorem ro_one (o : RouV) : (roC o).all (·.oneCell') = true := by
 simp [pfC, ipC, roC, dvC, diC, Value.oneCell']
def roZ : List Value := [.int .u8 0, .int .u8 0, .int .u8 0, .int .u8 0, .int .u8 0, .int .u8 0, .int .u8 0, .int .u8 0, .int .u8 0, .int .u8 0, .int .u8 0, .int .u8 0, .int .u8 0, .int .u8 0, .int .u8 0, .int .u8 0, .int .i64 0, .int .u8 0, .int .u8 0, .int .u8 0, .int .u8 0, .int .u8 0, .int .u8 0, .int .u8 0, .int .u8 0, .int .u8 0, .int .u8 0, .int .u8 0, .int .u8 0, .int .u8 0, .int .u8 0, .int .u8 0, .int .u8 0, .int .i64 0, .int .u64 0, .int .u64 0, .int .u16 0, .int .i64 0, .int .i64 0]
theorem ro_build {o : RouV} (h : IsRo o) : putAll [(0, 35), (35, 1), (36, 2), (38, 1)] roZ [(0, dvC o.to), (1, [.int .u64 o.nb]), (2, diC o.said), (3, [.int .i64 o.til])] = some (roC o) := by
 obtain ⟨⟨f_to_dip, f_to_dbits, f_to_sip, f_to_sbits, f_to_rt⟩, f_nb, ⟨f_said_seq, f_said_met⟩, f_til⟩ := o
 obtain ⟨x0_0, x0_1, x0_2, x0_3, x0_4, x0_5, x0_6, x0_7, x0_8, x0_9, x0_10, x0_11, x0_12, x0_13, x0_14, x0_15, e0⟩ := len16 (show f_to_dip.length = 16 from (h.1.1).len)
 obtain ⟨x1_0, x1_1, x1_2, x1_3, x1_4, x1_5, x1_6, x1_7, x1_8, x1_9, x1_10, x1_11, x1_12, x1_13, x1_14, x1_15, e1⟩ := len16 (show f_to_sip.length = 16 from (h.1.2).len)
 subst e0
 subst e1
 rfl
theorem ro_build1 {o : RouV} (h : IsRo o) : putAll (placesL 1 39) (zerosL roZ (1 * 39)) [(0, roC o)] = some (roC o) := by
 obtain ⟨⟨f_to_dip, f_to_dbits, f_to_sip, f_to_sbits, f_to_rt⟩, f_nb, ⟨f_said_seq, f_said_met⟩, f_til⟩ := o
 obtain ⟨x0_0, x0_1, x0_2, x0_3, x0_4, x0_5, x0_6, x0_7, x0_8, x0_9, x0_10, x0_11, x0_12, x0_13, x0_14, x0_15, e0⟩ := len16 (show f_to_dip.length = 16 from (h.1.1).len)
 obtain ⟨x1_0, x1_1, x1_2, x1_3, x1_4, x1_5, x1_6, x1_7, x1_8, x1_9, x1_10, x1_11, x1_12, x1_13, x1_14, x1_15, e1⟩ := len16 (show f_to_sip.length = 16 from (h.1.2).len)
 subst e0
 subst e1
 rfl
abbrev rosC (l : List RouV) : List Value := encL roC l
theorem ros_len {l : List RouV} (h : ∀ x ∈ l, IsRo x) : ∀ x ∈ l, (roC x).length = 39 := fun x hx => ro_len (h x hx)
theorem ros_one {l : List RouV} : (rosC l).all (·.oneCell') = true := encL_all fun x _ => ro_one x
structure SrcV where
 to : DstV
 bst : DisV
 til : Int
 deriving DecidableEq
def srC (o : SrcV) : List Value := dvC o.to ++ (diC o.bst ++ ([.int .i64 o.til]))
def IsSr (o : SrcV) : Prop := IsDv o.to ∧ IsDi o.bst
theorem sr_len {o : SrcV} (h : IsSr o) : (srC o).length = 38 := by
 obtain ⟨⟨f_to_dip, f_to_dbits, f_to_sip, f_to_sbits, f_to_rt⟩, ⟨f_bst_seq, f_bst_met⟩, f_til⟩ := o
 obtain ⟨x0_0, x0_1, x0_2, x0_3, x0_4, x0_5, x0_6, x0_7, x0_8, x0_9, x0_10, x0_11, x0_12, x0_13, x0_14, x0_15, e0⟩ := len16 (show f_to_dip.length = 16 from (h.1.1).len)
 obtain ⟨x1_0, x1_1, x1_2, x1_3, x1_4, x1_5, x1_6, x1_7, x1_8, x1_9, x1_10, x1_11, x1_12, x1_13, x1_14, x1_15, e1⟩ := len16 (show f_to_sip.length = 16 from (h.1.2).len)
 subst e0
 subst e1
 rfl
theorem sr_all {o : SrcV} (h : IsSr o) : seg (srC o) 0 38 = some (srC o) := sg_all (sr_len h)
theorem sr_to {o : SrcV} (h : IsSr o) : seg (srC o) 0 35 = some (dvC o.to) := by
 obtain ⟨⟨f_to_dip, f_to_dbits, f_to_sip, f_to_sbits, f_to_rt⟩, ⟨f_bst_seq, f_bst_met⟩, f_til⟩ := o
 obtain ⟨x0_0, x0_1, x0_2, x0_3, x0_4, x0_5, x0_6, x0_7, x0_8, x0_9, x0_10, x0_11, x0_12, x0_13, x0_14, x0_15, e0⟩ := len16 (show f_to_dip.length = 16 from (h.1.1).len)
 obtain ⟨x1_0, x1_1, x1_2, x1_3, x1_4, x1_5, x1_6, x1_7, x1_8, x1_9, x1_10, x1_11, x1_12, x1_13, x1_14, x1_15, e1⟩ := len16 (show f_to_sip.length = 16 from (h.1.2).len)
 subst e0
 subst e1
 rfl
theorem sr_bst {o : SrcV} (h : IsSr o) : seg (srC o) 35 2 = some (diC o.bst) := by
 obtain ⟨⟨f_to_dip, f_to_dbits, f_to_sip, f_to_sbits, f_to_rt⟩, ⟨f_bst_seq, f_bst_met⟩, f_til⟩ := o
 obtain ⟨x0_0, x0_1, x0_2, x0_3, x0_4, x0_5, x0_6, x0_7, x0_8, x0_9, x0_10, x0_11, x0_12, x0_13, x0_14, x0_15, e0⟩ := len16 (show f_to_dip.length = 16 from (h.1.1).len)
 obtain ⟨x1_0, x1_1, x1_2, x1_3, x1_4, x1_5, x1_6, x1_7, x1_8, x1_9, x1_10, x1_11, x1_12, x1_13, x1_14, x1_15, e1⟩ := len16 (show f_to_sip.length = 16 from (h.1.2).len)
 subst e0
 subst e1
 rfl
theorem sr_bst_met {o : SrcV} (h : IsSr o) : nth (srC o) 36 = some (.int .i64 o.bst.met) := by
 obtain ⟨⟨f_to_dip, f_to_dbits, f_to_sip, f_to_sbits, f_to_rt⟩, ⟨f_bst_seq, f_bst_met⟩, f_til⟩ := o
 obtain ⟨x0_0, x0_1, x0_2, x0_3, x0_4, x0_5, x0_6, x0_7, x0_8, x0_9, x0_10, x0_11, x0_12, x0_13, x0_14, x0_15, e0⟩ := len16 (show f_to_dip.length = 16 from (h.1.1).len)
 obtain ⟨x1_0, x1_1, x1_2, x1_3, x1_4, x1_5, x1_6, x1_7, x1_8, x1_9, x1_10, x1_11, x1_12, x1_13, x1_14, x1_15, e1⟩ := len16 (show f_to_sip.length = 16 from (h.1.2).len)
 subst e0
 subst e1
 rfl
theorem sr_til {o : SrcV} (h : IsSr o) : nth (srC o) 37 = some (.int .i64 o.til) := by
 obtain ⟨⟨f_to_dip, f_to_dbits, f_to_sip, f_to_sbits, f_to_rt⟩, ⟨f_bst_seq, f_bst_met⟩, f_til⟩ := o
 obtain ⟨x0_0, x0_1, x0_2, x0_3, x0_4, x0_5, x0_6, x0_7, x0_8, x0_9, x0_10, x0_11, x0_12, x0_13, x0_14, x0_15, e0⟩ := len16 (show f_to_dip.length = 16 from (h.1.1).len)
 obtain ⟨x1_0, x1_1, x1_2, x1_3, x1_4, x1_5, x1_6, x1_7, x1_8, x1_9, x1_10, x1_11, x1_12, x1_13, x1_14, x1_15, e1⟩ := len16 (show f_to_sip.length = 16 from (h.1.2).len)
 subst e0
 subst e1
 rfl
theorem sr_one (o : SrcV) : (srC o).all (·.oneCell') = true := by
 simp [pfC, ipC, srC, dvC, diC, Value.oneCell']
def srZ : List Value := [.int .u8 0, .int .u8 0, .int .u8 0, .int .u8 0, .int .u8 0, .int .u8 0, .int .u8 0, .int .u8 0, .int .u8 0, .int .u8 0, .int .u8 0, .int .u8 0, .int .u8 0, .int .u8 0, .int .u8 0, .int .u8 0, .int .i64 0, .int .u8 0, .int .u8 0, .int .u8 0, .int .u8 0, .int .u8 0, .int .u8 0, .int .u8 0, .int .u8 0, .int .u8 0, .int .u8 0, .int .u8 0, .int .u8 0, .int .u8 0, .int .u8 0, .int .u8 0, .int .u8 0, .int .i64 0, .int .u64 0, .int .u16 0, .int .i64 0, .int .i64 0]
theorem sr_build {o : SrcV} (h : IsSr o) : putAll [(0, 35), (35, 2), (37, 1)] srZ [(0, dvC o.to), (1, diC o.bst), (2, [.int .i64 o.til])] = some (srC o) := by
 obtain ⟨⟨f_to_dip, f_to_dbits, f_to_sip, f_to_sbits, f_to_rt⟩, ⟨f_bst_seq, f_bst_met⟩, f_til⟩ := o
 obtain ⟨x0_0, x0_1, x0_2, x0_3, x0_4, x0_5, x0_6, x0_7, x0_8, x0_9, x0_10, x0_11, x0_12, x0_13, x0_14, x0_15, e0⟩ := len16 (show f_to_dip.length = 16 from (h.1.1).len)
 obtain ⟨x1_0, x1_1, x1_2, x1_3, x1_4, x1_5, x1_6, x1_7, x1_8, x1_9, x1_10, x1_11, x1_12, x1_13, x1_14, x1_15, e1⟩ := len16 (show f_to_sip.length = 16 from (h.1.2).len)
 subst e0
 subst e1
 rfl
theorem sr_build1 {o : SrcV} (h : IsSr o) : putAll (placesL 1 38) (zerosL srZ (1 * 38)) [(0, srC o)] = some (srC o) := by
 obtain ⟨⟨f_to_dip, f_to_dbits, f_to_sip, f_to_sbits, f_to_rt⟩, ⟨f_bst_seq, f_bst_met⟩, f_til⟩ := o
 obtain ⟨x0_0, x0_1, x0_2, x0_3, x0_4, x0_5, x0_6, x0_7, x0_8, x0_9, x0_10, x0_11, x0_12, x0_13, x0_14, x0_15, e0⟩ := len16 (show f_to_dip.length = 16 from (h.1.1).len)
 obtain ⟨x1_0, x1_1, x1_2, x1_3, x1_4, x1_5, x1_6, x1_7, x1_8, x1_9, x1_10, x1_11, x1_12, x1_13, x1_14, x1_15, e1⟩ := len16 (show f_to_sip.length = 16 from (h.1.2).len)
 subst e0
 subst e1
 rfl
abbrev srsC (l : List SrcV) : List Value := encL srC l
theorem srs_len {l : List SrcV} (h : ∀ x ∈ l, IsSr x) : ∀ x ∈ l, (srC x).length = 38 := fun x hx => sr_len (h x hx)
theorem srs_one {l : List SrcV} : (srsC l).all (·.oneCell') = true := encL_all fun x _ => sr_one x
structure OptV where
 nb : Int
 cost : Int
 deriving DecidableEq
def opC (o : OptV) : List Value := [.int .u64 o.nb, .int .i64 o.cost]
abbrev opsC (l : List OptV) : List Value := encL opC l
section
variable {α : Type}
def vld1 (e1 : α → Bool) (cm : α → α → Int) (l : List α) (i : Nat) : Bool := match l[i]? with
 | none => true
 | some a => e1 a && (decide (i = 0) || match l[i - 1]? with
  | none => true
  | some b => decide (cm b a < 0))
def vldL (n : Nat) (e1 : α → Bool) (cm : α → α → Int) (l : List α) : Bool := decide (l.length ≤ n) && (List.range l.length).all (vld1 e1 cm l)
variable {n : Nat} {e1 : α → Bool} {cm : α → α → Int} {l : List α}
theorem vld1_0 {i : Nat} (h : i < l.length) (h0 : i = 0) : vld1 e1 cm l i = e1 l[i] := by
 subst h0
 simp [vld1, List.getElem?_eq_getElem h]
theorem vld1_s {i : Nat} (h : i < l.length) (h0 : 0 < i) : vld1 e1 cm l i = (e1 l[i] && decide (cm (l[i - 1]'(by omega)) l[i] < 0)) := by
 have : ¬ i = 0 := by omega
 simp [vld1, List.getElem?_eq_getElem h, List.getElem?_eq_getElem (show i - 1 < l.length by omega), this]
theorem vld1_f {i : Nat} (h : i < l.length) (hv : e1 l[i] = false) : vld1 e1 cm l i = false := by
 simp [vld1, List.getElem?_eq_getElem h, hv]
abbrev AscC (cm : α → α → Int) (l : List α) : Prop := l.Pairwise fun a b => cm a b < 0
theorem vldL_iff (tr : ∀ a b c, cm a b < 0 → cm b c < 0 → cm a c < 0) : vldL n e1 cm l = true ↔ l.length ≤ n ∧ (∀ a ∈ l, e1 a = true) ∧ AscC cm l := by
 unfold vldL
 rw [Bool.and_eq_true, decide_eq_true_eq, List.all_eq_true]
 constructor
 ·rintro ⟨h1, h2⟩
  have hat : ∀ i (hi : i < l.length), e1 l[i] = true ∧ (0 < i → ∀ h : i - 1 < l.length, cm l[i - 1] l[i] < 0) := by
   intro i hi
   have := h2 i (List.mem_range.2 hi)
   simp only [vld1, List.getElem?_eq_getElem hi, Bool.and_eq_true, Bool.or_eq_true, decide_eq_true_eq] at this
   refine ⟨this.1, fun h0 h => ?_⟩
   rcases this.2 with h3 | h3
   ·omega
   ·rw [List.getElem?_eq_getElem h] at h3
    simpa using h3
  refine ⟨h1, fun a ha => ?_, ?_⟩
  ·obtain ⟨i, hi, rfl⟩ := List.mem_iff_getElem.1 ha
   exact (hat i hi).1
  ·refine List.pairwise_iff_getElem.2 ?_
   intro i j hi hj hij
   have key : ∀ n, ∀ (hn : i + 1 + n < l.length), cm l[i] (l[i + 1 + n]'hn) < 0 := by
    intro n
    induction n with
    | zero => intro hn;exact (hat (i + 1) hn).2 (by omega) (by omega)
    | succ n ih =>
     intro hn
     have h3 := (hat (i + 1 + (n + 1)) hn).2 (by omega) (by omega)
     exact tr _ _ _ (ih (by omega)) h3
   have := key (j - i - 1) (by omega)
   simpa [show i + 1 + (j - i - 1) = j by omega] using this
 ·rintro ⟨h1, h2, h3⟩
  refine ⟨h1, fun i hi => ?_⟩
  have hi' := List.mem_range.1 hi
  replace h3 := List.pairwise_iff_getElem.1 h3
  have h4 := h2 l[i] (List.getElem_mem hi')
  simp only [vld1, List.getElem?_eq_getElem hi', h4, Bool.true_and, Bool.or_eq_true, decide_eq_true_eq]
  by_cases h0 : i = 0
  ·exact .inl h0
  ·right
   rw [List.getElem?_eq_getElem (show i - 1 < l.length by omega)]
   simpa using h3 (i - 1) i (by omega) hi' (by omega)
end
theorem cmpI_lt {a b : Int} : cmpI a b < 0 ↔ a < b := by
 unfold cmpI
 repeat' split
 all_goals omega
def keyR (r : RouV) : List Int := keyD r.to ++ [r.nb]
def cmpR (a b : RouV) : Int := cmpL (keyR a) (keyR b)
theorem keyD_len {d : DstV} (h : IsDv d) : (keyD d).length = 35 := by
 simp [keyD, h.1.len, h.2.len]
theorem cmpR_or {a b : RouV} (ha : IsDv a.to) (hb : IsDv b.to) : cmpR a b = orI (cmpD a.to b.to) (cmpI a.nb b.nb) := by
 unfold cmpR keyR
 rw [cmpL_two _ _ _ _ (by rw [keyD_len ha, keyD_len hb]), cmpL_cons]
 have : cmpL ([] : List Int) [] = 0 := cmpL_self _
 rw [this]
 show orI (cmpD a.to b.to) (orI (cmpI a.nb b.nb) 0) = _
 congr 1
 unfold orI
 split <;> simp_all
theorem cmpR_trans {a b c : RouV} (h : cmpR a b < 0) (k : cmpR b c < 0) : cmpR a c < 0 := cmpL_lt_trans h k
def finD (d : DisV) : Bool := validM d.met && !decide (d.met = inf)
def rou1 (r : RouV) : Bool := validT r.to && !decide (r.nb = 0) && finD r.said && isTime r.til
def validRs (l : List RouV) : Bool := vldL 512 rou1 cmpR l
theorem validRs_iff {l : List RouV} : validRs l = true ↔ l.length ≤ 512 ∧ (∀ a ∈ l, rou1 a = true) ∧ AscC cmpR l := vldL_iff (fun _ _ _ h k => cmpR_trans h k)
structure PlR (ys : List RouV) (x : RouV) (i : Nat) : Prop where
 le : i ≤ ys.length
 lo : ∀ j (hj : j < i) (hl : j < ys.length), cmpR ys[j] x < 0
 hi : ∀ j (hj : i ≤ j) (hl : j < ys.length), 0 ≤ cmpR ys[j] x
section
variable {ys : List RouV} {x : RouV} {i : Nat} (hP : PlR ys x i)
include hP
end
section
variable {α : Type} {n : Nat} {e1 : α → Bool} {cm : α → α → Int} {l : List α} {i : Nat}
theorem vl_at {b : Bool} (h : i < l.length) (hv : vld1 e1 cm l i = false) (hb : vldL n e1 cm l = b) : b = false := by
 rw [← hb]
 unfold vldL
 rw [List.all_eq_false.2 ⟨i, List.mem_range.2 h, by rw [hv];simp⟩, Bool.and_false]
theorem vl_F {x : α} {b : Bool} {W w : World} (hb : vldL n e1 cm l = b) (h : i < l.length) (hx : x = l[i]) (hv : e1 x = false) (E : Ext [] W w) : Value.bool false = .bool b ∧ Ext [] W w := ⟨by rw [vl_at h (vld1_f h (by rw [← hx];exact hv)) hb], E⟩
theorem vl_S {x y : α} {b : Bool} {W w : World} (hb : vldL n e1 cm l = b) (h : i < l.length) (h0 : 0 < i) (hx : x = l[i]) (hy : y = l[i - 1]'(by omega)) (hv : ¬ cm y x < 0) (E : Ext [] W w) : Value.bool false = .bool b ∧ Ext [] W w := ⟨by rw [vl_at h (by rw [vld1_s h h0, ← hx, ← hy, dqF hv, Bool.and_false]) hb], E⟩
theorem vl_N {x : α} (h : i < l.length) (hx : x = l[i]) (ha : ∀ j, j < i → vld1 e1 cm l j = true) (h1 : e1 x = true) (h2 : ∀ h0 : 0 < i, cm (l[i - 1]'(by omega)) x < 0) : ∀ j, j < i + 1 → vld1 e1 cm l j = true := fun j hj => by
 rcases Nat.lt_or_ge j i with h3 | h3
 ·exact ha j h3
 ·obtain rfl : j = i := by omega
  rcases Nat.eq_zero_or_pos j with h0 | h0
  ·rw [vld1_0 h h0, ← hx];exact h1
  ·rw [vld1_s h h0, ← hx, h1, dqT (h2 h0)];rfl
theorem vl_L {b : Bool} {W w : World} (hb : vldL n e1 cm l = b) (h : n < l.length) (E : Ext [] W w) : Value.bool false = .bool b ∧ Ext [] W w := by
 refine ⟨?_, E⟩
 rw [← hb]
 unfold vldL
 rw [dqF (by omega), Bool.false_and]
theorem vl_T {b : Bool} {W w : World} (hb : vldL n e1 cm l = b) (h : l.length ≤ n) (ha : ∀ j, j < l.length → vld1 e1 cm l j = true) (E : Ext [] W w) : Value.bool true = .bool b ∧ Ext [] W w := by
 refine ⟨?_, E⟩
 rw [← hb]
 unfold vldL
 rw [dqT h, Bool.true_and, List.all_eq_true.2 fun j hj => ha j (List.mem_range.1 hj)]
end
end Go.Proofs.YtfhkmgcalcfibaaGreat
namespace Go.Proofs.YtfhkmgcalcfibaaGreat
def ava1 (a : AdvV) : Bool := validT a.to && validM a.own.met
def cmpAv (a b : AdvV) : Int := cmpD a.to b.to
theorem validAs_vld (l : List AdvV) : validAs l = vldL 520 ava1 cmpAv l := by
 have h : adv1 l = vld1 ava1 cmpAv l := by
  funext i
  unfold adv1 vld1 ava1 cmpAv
  cases l[i]? with
  | none => rfl
  | some a => cases l[i - 1]? <;> rfl
 unfold validAs vldL
 rw [h]
end Go.Proofs.YtfhkmgcalcfibaaGreat
namespace Go.Proofs.YtfhkmgcalcfibaaGreat
open Go.RowKit
attribute [local irreducible] OpTo wpListIn Code.wpIn MW Cal
theorem SlAt.one {W : World} {sz n : Nat} {v : Value} {xs : List Value} (h : SlAt W sz v n xs) : v.oneCell' = true := by
 obtain ⟨p, cap, rfl, _⟩ := h
 rfl
theorem uvalidAs_c (l : List AdvV) (hx : ∀ x ∈ l, IsAv x) (v : Value) (W : World) (hS : SlAt W 37 v l.length (avsC l)) :
  Cal Tryz.prog 195 [v].toArray W fun r w' => r = .bool (validAs l) ∧ Ext [] W w' := by
 obtain ⟨q, cap, rfl, _⟩ := id hS
 have hm := hS.memB [] (by simp)
 rw [validAs_vld]
 generalize hV : vldL 520 ava1 cmpAv l = b0
 refine g_start (n := 41) (S := []) fldT_ok slcT_ok Tryz.func195 rfl rfl rfl ?_
 by_cases c0 : 520 < l.length
 ·refine gR 13 rfl ?_
  exact g_ifT rfl (dqT (by omega)) (gR 7 rfl (g_ret1 rfl rfl rfl fun w M => vl_L hV c0 M.ext))
 refine gR 13 rfl (g_ifF rfl (dqF (by omega)) (gR 11 rfl (g_loop (ι := Nat) ⟨fun (i : Nat) => l.length - i, fun (i : Nat) => i ≤ l.length ∧ (∀ j, j < i → vld1 ava1 cmpAv l j = true), fun (i : Nat) => [(10, .int .i64 i), (9, .int .i64 l.length), (8, .slice q l.length cap), (0, .slice q l.length cap)], fun (i : Nat) => []⟩ 0 ⟨by omega, by omega⟩ (fun a F => F.only [10, 9, 8, 0] rfl) (by repeat (first | exact .refl _ | apply sC2 | apply sC1)) ?_)))
 rintro i ⟨hi_i, hv⟩
 by_cases hlt_i : i < l.length
 ·obtain ⟨b, o, cs, t', fz, rfl, hb, hs⟩ := hm (by omega)
  obtain ⟨x, hx0⟩ : ∃ x, x = l[i] := ⟨_, rfl⟩
  have hxm : x ∈ l := by rw [hx0];exact List.getElem_mem hlt_i
  have hxi : IsAv x := hx _ hxm
  have f1 : seg cs (o + (i : Int).toNat * 37) 37 = some (avC x) := by rw [hx0];exact seg_el (avs_len hx) hs hlt_i (by omega)
  replace hx0 := hx0.symm
  have xd : IsDv x.to := hxi.1
  refine gR 6 rfl (g_ifT rfl (dqT (by omega)) (gR 7 rfl (g_ixS rfl rfl (by omega) (by omega) (g_leA rfl ‹_› (by with_reducible assumption) ?_))))
  refine g_alloc fun b4 => gR 1 rfl (g_stA 0 rfl rfl (av_len ‹_›) (av_one _) rfl (put_all (by rw [av_len ‹_›];first | rfl | rw [av_len ‹_›])) rfl ?_)
  refine gR 6 rfl (g_ldA 0 rfl rfl (av_to ‹_›) ?_)
  refine g_call rfl rfl (fun w M => validTo_c _ ‹_› _) ?_
  refine gR 2 rfl (g_split 19 rfl (fun h1 => ?_) (fun h1 => ?_))
  ·replace h1 := false_of_not h1
   exact gR 18 rfl (g_outR (gR 2 rfl (g_ret1 rfl rfl rfl fun w M => vl_F hV hlt_i hx0.symm (by first | assumption | (unfold ava1;simp [*];done) | (unfold ava1 finD inf;simp [*])) M.ext)))
  replace h1 := true_of_not h1
  refine gR 2 rfl (g_ld1 0 rfl rfl (av_own_met ‹_›) ?_)
  refine g_call rfl rfl (fun w M => mvalid_c _ _) (gR 4 rfl (g_if rfl (fun h2 => ?_) (fun h2 => ?_)))
  ·replace h2 := false_of_not h2
   exact gR 9 rfl (g_outR (gR 2 rfl (g_ret1 rfl rfl rfl fun w M => vl_F hV hlt_i hx0.symm (by first | assumption | (unfold ava1;simp [*];done) | (unfold ava1 finD inf;simp [*])) M.ext)))
  replace h2 := true_of_not h2
  refine gR 2 rfl ?_
  by_cases hi0 : 0 < i
  ·obtain ⟨y, hy0⟩ : ∃ y, y = l[i - 1]'(by omega) := ⟨_, rfl⟩
   have yI : IsAv y := by rw [hy0];exact hx _ (List.getElem_mem _)
   have f2 : seg cs (o + ((i : Int) - 1).toNat * 37) 37 = some (avC y) := by rw [hy0];exact seg_el (avs_len hx) hs (show i - 1 < l.length by omega) (by omega)
   replace hy0 := hy0.symm
   have yd : IsDv y.to := yI.1
   refine gR 1 rfl (g_draw 14 41 rfl (by kernel_rfl) (fR 3 rfl (fd_know 28 rfl (dqT (by omega)) (fR 2 rfl (fd_sub rfl rfl (w_i64 (by omega) (by omega)) (fd_ixS rfl rfl (by omega) (by omega) (fR 1 rfl (fd_leA rfl ‹_› (sg_seg f2 (av_to ‹_›) (by omega)) ?_))))))))
   refine fR 1 rfl (fd_ldA 0 rfl rfl (av_to ‹_›) ?_)
   refine fd_call rfl rfl (fun w M => scompare_c _ _ ‹_› ‹_› _) ?_
   refine fR 2 rfl (fd_done rfl rfl (gR 2 rfl (g_if rfl (fun h1 => ?_) (fun h1 => ?_))))
   ·replace h1 := dqU h1
    exact gR 8 rfl (g_outR (gR 2 rfl (g_ret1 rfl rfl rfl fun w M => vl_S hV hlt_i hi0 hx0.symm hy0.symm (by unfold cmpAv;omega) M.ext)))
   ·replace h1 := dqV h1
    refine gR 4 rfl (g_add rfl rfl (w_i64 (by omega) (by omega)) (gR 2 rfl ?_))
    exact g_next (i + 1) ⟨by omega, vl_N hlt_i hx0.symm hv (by first | assumption | (unfold ava1;simp [*];done) | (unfold ava1 finD inf;simp [*])) fun _ => by rw [hy0];exact (by unfold cmpAv;omega)⟩ (by dsimp only;omega) (fun a F => F.only [10, 9, 8, 0] rfl) (by (try dsimp only);repeat (first | exact .refl _ | with_reducible exact sC0 _ | with_reducible apply sC2 | apply sC1))
  ·refine gR 1 rfl ?_
   exact g_draw 14 41 rfl (by kernel_rfl) (fR 3 rfl (fd_know 28 rfl (dqF (by omega)) (fR 11 rfl (fd_done rfl rfl (gR 7 rfl (g_add rfl rfl (w_i64 (by omega) (by omega)) (gR 2 rfl (g_next (i + 1) ⟨by omega, vl_N hlt_i hx0.symm hv (by first | assumption | (unfold ava1;simp [*];done) | (unfold ava1 finD inf;simp [*])) fun h => absurd h hi0⟩ (by dsimp only;omega) (fun a F => F.only [10, 9, 8, 0] rfl) (by (try dsimp only);repeat (first | exact .refl _ | with_reducible exact sC0 _ | with_reducible apply sC2 | apply sC1))))))))))
 ·have hil : i = l.length := by omega
  rw [hil] at hv
  exact gR 6 rfl (g_ifF rfl (dqF (by omega)) (gR 2 rfl (g_outX (gR 8 rfl (g_ret1 rfl rfl rfl fun w M => vl_T hV (by omega) hv M.ext)))))
theorem rvalidAs_c (l : List AdvV) (hx : ∀ x ∈ l, IsAv x) (v : Value) (W : World) (hS : SlAt W 37 v l.length (avsC l)) :
  Cal Tryz.prog 201 [v].toArray W fun r w' => r = .bool (validAs l) ∧ Ext [] W w' := by
 obtain ⟨q, cap, rfl, _⟩ := id hS
 have hm := hS.memB [] (by simp)
 rw [validAs_vld]
 generalize hV : vldL 520 ava1 cmpAv l = b0
 refine g_start (n := 48) (S := []) fldT_ok slcT_ok Tryz.func201 rfl rfl rfl ?_
 by_cases c0 : 520 < l.length
 ·refine gR 13 rfl ?_
  exact g_ifT rfl (dqT (by omega)) (gR 7 rfl (g_ret1 rfl rfl rfl fun w M => vl_L hV c0 M.ext))
 refine gR 13 rfl (g_ifF rfl (dqF (by omega)) (gR 11 rfl (g_loop (ι := Nat) ⟨fun (i : Nat) => l.length - i, fun (i : Nat) => i ≤ l.length ∧ (∀ j, j < i → vld1 ava1 cmpAv l j = true), fun (i : Nat) => [(9, .int .i64 i), (8, .int .i64 l.length), (7, .slice q l.length cap), (0, .slice q l.length cap)], fun (i : Nat) => []⟩ 0 ⟨by omega, by omega⟩ (fun a F => F.only [9, 8, 7, 0] rfl) (by repeat (first | exact .refl _ | apply sC2 | apply sC1)) ?_)))
 rintro i ⟨hi_i, hv⟩
 by_cases hlt_i : i < l.length
 ·obtain ⟨b, o, cs, t', fz, rfl, hb, hs⟩ := hm (by omega)
  obtain ⟨x, hx0⟩ : ∃ x, x = l[i] := ⟨_, rfl⟩
  have hxm : x ∈ l := by rw [hx0];exact List.getElem_mem hlt_i
  have hxi : IsAv x := hx _ hxm
  have f1 : seg cs (o + (i : Int).toNat * 37) 37 = some (avC x) := by rw [hx0];exact seg_el (avs_len hx) hs hlt_i (by omega)
  replace hx0 := hx0.symm
  have xd : IsDv x.to := hxi.1
  by_cases hi0 : 0 < i
  ·obtain ⟨y, hy0⟩ : ∃ y, y = l[i - 1]'(by omega) := ⟨_, rfl⟩
   have yI : IsAv y := by rw [hy0];exact hx _ (List.getElem_mem _)
   have f2 : seg cs (o + ((i : Int) - 1).toNat * 37) 37 = some (avC y) := by rw [hy0];exact seg_el (avs_len hx) hs (show i - 1 < l.length by omega) (by omega)
   replace hy0 := hy0.symm
   have yd : IsDv y.to := yI.1
   refine gR 6 rfl (g_ifT rfl (dqT (by omega)) (gR 11 rfl (g_draw 35 48 rfl (by kernel_rfl) (fR 2 rfl (fd_ixS rfl rfl (by omega) (by omega) (fR 1 rfl (fd_leA rfl ‹_› (sg_seg f1 (av_to ‹_›) (by omega)) ?_)))))))
   refine fd_call rfl rfl (fun w M => rvalidTo_c _ ‹_› _) ?_
   refine fR 2 rfl (fd_split 19 rfl (fun h1 => ?_) (fun h1 => ?_))
   ·replace h1 := false_of_not h1
    exact fR 27 rfl (fd_done rfl rfl (gR 11 rfl (g_outR (gR 2 rfl (g_ret1 rfl rfl rfl fun w M => vl_F hV hlt_i hx0.symm (by first | assumption | (unfold ava1;simp [*];done) | (unfold ava1 finD inf;simp [*])) M.ext)))))
   ·replace h1 := true_of_not h1
    refine fR 2 rfl (fd_ixS rfl rfl (by omega) (by omega) (fR 1 rfl (fd_leA rfl ‹_› (sg_seg f1 (av_own ‹_›) (by omega)) ?_)))
    refine fd_call rfl rfl (fun w M => rdvalid_c _ _) (fR 3 rfl (fd_split 28 rfl (fun h2 => ?_) (fun h2 => ?_)))
    ·replace h2 := false_of_not h2
     exact fR 18 rfl (fd_done rfl rfl (gR 11 rfl (g_outR (gR 2 rfl (g_ret1 rfl rfl rfl fun w M => vl_F hV hlt_i hx0.symm (by first | assumption | (unfold ava1;simp [*];done) | (unfold ava1 finD inf;simp [*])) M.ext)))))
    ·replace h2 := true_of_not h2
     refine fR 3 rfl (fd_know 31 rfl (dqT (by omega)) (fR 2 rfl (fd_sub rfl rfl (w_i64 (by omega) (by omega)) (fd_ixS rfl rfl (by omega) (by omega) (fR 1 rfl (fd_leA rfl ‹_› (sg_seg f2 (av_to ‹_›) (by omega)) ?_))))))
     refine fR 2 rfl (fd_ixS rfl rfl (by omega) (by omega) (fR 1 rfl (fd_leA rfl ‹_› (sg_seg f1 (av_to ‹_›) (by omega)) ?_)))
     refine fd_call rfl rfl (fun w M => rcompare_c _ _ ‹_› ‹_› _) ?_
     refine fR 3 rfl (fd_done rfl rfl (gR 2 rfl (g_if rfl (fun h3 => ?_) (fun h3 => ?_))))
     ·replace h3 := dqU h3
      exact gR 8 rfl (g_outR (gR 2 rfl (g_ret1 rfl rfl rfl fun w M => vl_S hV hlt_i hi0 hx0.symm hy0.symm (by unfold cmpAv;omega) M.ext)))
     ·replace h3 := dqV h3
      refine gR 4 rfl (g_add rfl rfl (w_i64 (by omega) (by omega)) (gR 2 rfl ?_))
      exact g_next (i + 1) ⟨by omega, vl_N hlt_i hx0.symm hv (by first | assumption | (unfold ava1;simp [*];done) | (unfold ava1 finD inf;simp [*])) fun _ => by rw [hy0];exact (by unfold cmpAv;omega)⟩ (by dsimp only;omega) (fun a F => F.only [9, 8, 7, 0] rfl) (by (try dsimp only);repeat (first | exact .refl _ | with_reducible exact sC0 _ | with_reducible apply sC2 | apply sC1))
  ·refine gR 6 rfl ?_
   refine g_ifT rfl (dqT (by omega)) (gR 11 rfl (g_draw 35 48 rfl (by kernel_rfl) (fR 2 rfl (fd_ixS rfl rfl (by omega) (by omega) (fR 1 rfl (fd_leA rfl ‹_› (sg_seg ‹_› (av_to ‹_›) (by omega)) ?_))))))
   refine fd_call rfl rfl (fun w M => rvalidTo_c _ ‹_› _) ?_
   refine fR 2 rfl (fd_split 19 rfl (fun h1 => ?_) (fun h1 => ?_))
   ·replace h1 := false_of_not h1
    exact fR 27 rfl (fd_done rfl rfl (gR 11 rfl (g_outR (gR 2 rfl (g_ret1 rfl rfl rfl fun w M => vl_F hV hlt_i hx0.symm (by first | assumption | (unfold ava1;simp [*];done) | (unfold ava1 finD inf;simp [*])) M.ext)))))
   ·replace h1 := true_of_not h1
    refine fR 2 rfl (fd_ixS rfl rfl (by omega) (by omega) (fR 1 rfl (fd_leA rfl ‹_› (sg_seg ‹_› (av_own ‹_›) (by omega)) ?_)))
    refine fd_call rfl rfl (fun w M => rdvalid_c _ _) (fR 3 rfl (fd_split 28 rfl (fun h2 => ?_) (fun h2 => ?_)))
    ·replace h2 := false_of_not h2
     exact fR 18 rfl (fd_done rfl rfl (gR 11 rfl (g_outR (gR 2 rfl (g_ret1 rfl rfl rfl fun w M => vl_F hV hlt_i hx0.symm (by first | assumption | (unfold ava1;simp [*];done) | (unfold ava1 finD inf;simp [*])) M.ext)))))
    ·replace h2 := true_of_not h2
     exact fR 3 rfl (fd_know 31 rfl (dqF (by omega)) (fR 15 rfl (fd_done rfl rfl (gR 7 rfl (g_add rfl rfl (w_i64 (by omega) (by omega)) (gR 2 rfl (g_next (i + 1) ⟨by omega, vl_N hlt_i hx0.symm hv (by first | assumption | (unfold ava1;simp [*];done) | (unfold ava1 finD inf;simp [*])) fun h => absurd h hi0⟩ (by dsimp only;omega) (fun a F => F.only [9, 8, 7, 0] rfl) (by (try dsimp only);repeat (first | exact .refl _ | with_reducible exact sC0 _ | with_reducible apply sC2 | apply sC1)))))))))
 ·have hil : i = l.length := by omega
  rw [hil] at hv
  exact gR 6 rfl (g_ifF rfl (dqF (by omega)) (gR 2 rfl (g_outX (gR 8 rfl (g_ret1 rfl rfl rfl fun w M => vl_T hV (by omega) hv M.ext)))))
def plC (v : Value) (full : Int) : List Value := [v, .int .i64 full]
theorem uvalid_c (l : List AdvV) (hx : ∀ x ∈ l, IsAv x) (v : Value) (full : Int) (W : World) (hS : SlAt W 37 v l.length (avsC l)) :
  Cal Tryz.prog 107 [.agg (plC v full).toArray].toArray W fun r w' => r = .bool (validAs l && isTime full) ∧ Ext [] W w' := by
 have k := uvalidAs_c l hx v
 have h1 := hS.one
 unfold plC
 refine g_start (n := 11) (S := []) fldT_ok slcT_ok Tryz.func107 rfl rfl rfl (gR 2 rfl (g_box rfl rfl fun b1 => gR 6 rfl (g_ld1 0 rfl rfl rfl (g_call rfl rfl (fun w M => uvalidAs_c _ ‹_› _ _ ((by assumption : SlAt _ _ _ _ _).later M.ext)) ?_))))
 refine gR 1 rfl (g_split 6 rfl (fun h1 => ?_) (fun h1 => ?_))
 ·exact gR 1 rfl (g_ld1 0 rfl rfl rfl (g_call rfl rfl (fun w M => uisTime_c _ _) (gR 5 rfl (g_ret1 rfl rfl rfl fun w M => ⟨by simp [*], M.ext⟩))))
 ·exact gR 8 rfl (g_ret1 rfl rfl rfl fun w M => ⟨by simp [*], M.ext⟩)
theorem rvalid_c (l : List AdvV) (hx : ∀ x ∈ l, IsAv x) (v : Value) (full : Int) (W : World) (hS : SlAt W 37 v l.length (avsC l)) :
  Cal Tryz.prog 117 [.agg (plC v full).toArray].toArray W fun r w' => r = .bool (validAs l && isTime full) ∧ Ext [] W w' := by
 have k := rvalidAs_c l hx v
 have h1 := hS.one
 unfold plC
 refine g_start (n := 11) (S := []) fldT_ok slcT_ok Tryz.func117 rfl rfl rfl (gR 2 rfl (g_box rfl rfl fun b1 => gR 6 rfl (g_ld1 0 rfl rfl rfl (g_call rfl rfl (fun w M => rvalidAs_c _ ‹_› _ _ ((by assumption : SlAt _ _ _ _ _).later M.ext)) ?_))))
 refine gR 1 rfl (g_split 6 rfl (fun h1 => ?_) (fun h1 => ?_))
 ·exact gR 1 rfl (g_ld1 0 rfl rfl rfl (g_call rfl rfl (fun w M => risTime_c _ _) (gR 5 rfl (g_ret1 rfl rfl rfl fun w M => ⟨by simp [*], M.ext⟩))))
 ·exact gR 8 rfl (g_ret1 rfl rfl rfl fun w M => ⟨by simp [*], M.ext⟩)
end Go.Proofs.YtfhkmgcalcfibaaGreat
namespace Go.Proofs.YtfhkmgcalcfibaaGreat
open Go.ChangeShapes Go.WideShapes Go.ChangeAt Go.RowKit
section
variable {H : Type} {enc : TypeId × Value → H} {w : World} {base : Nat} {sp : Nat → Bool} {held : Bool}
set_option maxRecDepth 100000 in
theorem dec_av (n : Nat) (cs : List Value) (y : DataW H × List MemPlace) (h : DataW.trod enc Tryz.prog w base sp held n 100 cs = some y) : ∃ x : AdvV, IsAv x ∧ cs = avC x := by
 have hw := open_leaf 8 100 (List.replicate 16 (.i .u8) ++ (.i .i64 :: (List.replicate 16 (.i .u8) ++ [.i .i64, .i .u64, .i .u16, .i .i64]))) (by kernel_rfl) n cs y h (.inl (by kernel_rfl))
 obtain ⟨c0, c1, rfl, h1, h2⟩ := wfK_split hw
 obtain ⟨a1, rfl, hl1, hb1⟩ := ip_wf c0 16 h1
 obtain ⟨x1, c2, rfl, g1, h3⟩ := wfK_cons h2
 obtain ⟨c3, c4, rfl, h4, h5⟩ := wfK_split (ks := List.replicate 16 (LK.i .u8)) (ks' := [LK.i .i64, LK.i .u64, LK.i .u16, LK.i .i64]) h3
 obtain ⟨a2, rfl, hl2, hb2⟩ := ip_wf c3 16 h4
 obtain ⟨x2, c5, rfl, g2, h6⟩ := wfK_cons h5
 obtain ⟨x3, c6, rfl, g3, h7⟩ := wfK_cons h6
 obtain ⟨x4, c7, rfl, g4, h8⟩ := wfK_cons h7
 obtain ⟨x5, c8, rfl, g5, h9⟩ := wfK_cons h8
 obtain rfl := wfK_nil h9
 obtain ⟨n1, rfl, _, _⟩ := wfV_int g1
 obtain ⟨n2, rfl, _, _⟩ := wfV_int g2
 obtain ⟨n3, rfl, _, _⟩ := wfV_int g3
 obtain ⟨n4, rfl, _, _⟩ := wfV_int g4
 obtain ⟨n5, rfl, _, _⟩ := wfV_int g5
 exact ⟨⟨⟨a1, n1, a2, n2, n3⟩, ⟨n4, n5⟩⟩, ⟨⟨⟨hl1, hb1⟩, ⟨hl2, hb2⟩⟩, trivial⟩, by simp [avC, dvC, diC, pfC]⟩
set_option maxRecDepth 100000 in
theorem dec_plan (n : Nat) (cs : List Value) (y : DataW H × List MemPlace) (h : DataW.trod enc Tryz.prog w base sp held n 51 cs = some y) : ∃ (u : Value) (l : List AdvV) (fl : Int), (∀ x ∈ l, IsAv x) ∧ SlAt w 37 u l.length (avsC l) ∧ cs = plC u fl := by
 obtain ⟨xs, m, rfl, _, hl, hn, hat⟩ := DataW.trod_struct Tryz.underlying51 h
 have hc : Tryz.prog.cellsOf 51 = 2 := by kernel_rfl
 have hi : Tryz.prog.cellsOf 3 = 1 := by kernel_rfl
 have hp : Tryz.prog.cellsOf 49 = 1 := by kernel_rfl
 rw [hc] at hl
 have hxl : xs.length = 2 := hn
 have a0 : DataW.trod enc Tryz.prog w base sp held m 49 ((cs.drop 0).take (Tryz.prog.cellsOf 49)) = xs[0]? := hat 0 _ rfl
 have a1 : DataW.trod enc Tryz.prog w base sp held m 3 ((cs.drop 1).take (Tryz.prog.cellsOf 3)) = xs[1]? := hat 1 _ rfl
 rw [List.getElem?_eq_getElem (by omega)] at a0 a1
 rw [hp] at a0
 rw [hi] at a1
 obtain ⟨u, l, e0, hl0, hS, _⟩ := open_slG (sz := 37) Tryz.underlying49 (by kernel_rfl) (by omega) dec_av a0
 obtain ⟨fl, e1, _, _⟩ := DataW.trod_int Tryz.underlying3 a1
 refine ⟨u, l, fl, hl0, hS, ?_⟩
 match cs, hl, e0, e1 with
 | [c0, c1], _, e0, e1 =>
  simp only [List.drop_zero, List.take_succ_cons, List.take_zero, List.drop_succ_cons, List.cons.injEq, and_true] at e0 e1
  rw [e0, e1]
  rfl
end
section
variable {H : Type} {enc : TypeId × Value → H} {w : World} {r : Reach} {b0 base : Nat} {sp : Nat → Bool} {held : Bool} {v : Value} {d : DataW H} {p : List MemPlace}
theorem agg_of {P : Program} {t : TypeId} (ht : isAggT P t = true) (hval : Value.okWide P w r b0 t v) : ∃ cs : List Value, v = .agg cs.toArray := by
 unfold isAggT at ht
 unfold Value.okWide at hval
 split at ht
 ·rename_i hu;rw [hu] at hval;obtain ⟨cs, h, _⟩ := hval;exact ⟨cs.toList, by simpa using h⟩
 ·rename_i hu;rw [hu] at hval;obtain ⟨cs, h, _⟩ := hval;exact ⟨cs.toList, by simpa using h⟩
 ·cases ht
end
section
variable {H : Type} {enc : TypeId × Value → H} {w : World} {base : Nat} {sp : Nat → Bool} {held : Bool}
set_option maxRecDepth 100000 in
theorem dec_in (n : Nat) (cs : List Value) (y : DataW H × List MemPlace) (h : DataW.trod enc Tryz.prog w base sp held n 74 cs = some y) : ∃ x : InsV, IsIn x ∧ cs = inC x := by
 have hw := open_leaf 8 74 (List.replicate 16 (.i .u8) ++ (.i .i64 :: (List.replicate 16 (.i .u8) ++ [.i .i64, .i .u64, .i .u64, .i .u16, .i .i64, .i .i64, .i .i64]))) (by kernel_rfl) n cs y h (.inl (by kernel_rfl))
 obtain ⟨c0, c1, rfl, h1, h2⟩ := wfK_split hw
 obtain ⟨a1, rfl, hl1, hb1⟩ := ip_wf c0 16 h1
 obtain ⟨x1, c2, rfl, g1, h3⟩ := wfK_cons h2
 obtain ⟨c3, c4, rfl, h4, h5⟩ := wfK_split (ks := List.replicate 16 (LK.i .u8)) (ks' := [LK.i .i64, .i .u64, .i .u64, .i .u16, .i .i64, .i .i64, .i .i64]) h3
 obtain ⟨a2, rfl, hl2, hb2⟩ := ip_wf c3 16 h4
 obtain ⟨n1, rfl, _, _⟩ := wfV_int g1
 obtain ⟨y0, d0, rfl, k0, r0⟩ := wfK_cons h5
 obtain ⟨m0, rfl, _, _⟩ := wfV_int k0
 obtain ⟨y1, d1, rfl, k1, r1⟩ := wfK_cons r0
 obtain ⟨m1, rfl, _, _⟩ := wfV_int k1
 obtain ⟨y2, d2, rfl, k2, r2⟩ := wfK_cons r1
 obtain ⟨m2, rfl, _, _⟩ := wfV_int k2
 obtain ⟨y3, d3, rfl, k3, r3⟩ := wfK_cons r2
 obtain ⟨m3, rfl, _, _⟩ := wfV_int k3
 obtain ⟨y4, d4, rfl, k4, r4⟩ := wfK_cons r3
 obtain ⟨m4, rfl, _, _⟩ := wfV_int k4
 obtain ⟨y5, d5, rfl, k5, r5⟩ := wfK_cons r4
 obtain ⟨m5, rfl, _, _⟩ := wfV_int k5
 obtain ⟨y6, d6, rfl, k6, r6⟩ := wfK_cons r5
 obtain ⟨m6, rfl, _, _⟩ := wfV_int k6
 obtain rfl := wfK_nil r6
 exact ⟨⟨⟨a1, n1, a2, m0, m1⟩, m2, ⟨m3, m4⟩, m5, m6⟩, ⟨⟨⟨hl1, hb1⟩, ⟨hl2, hb2⟩⟩, trivial⟩, by simp [inC, dvC, diC, pfC]⟩
set_option maxRecDepth 100000 in
theorem dec_ro (n : Nat) (cs : List Value) (y : DataW H × List MemPlace) (h : DataW.trod enc Tryz.prog w base sp held n 76 cs = some y) : ∃ x : RouV, IsRo x ∧ cs = roC x := by
 have hw := open_leaf 8 76 (List.replicate 16 (.i .u8) ++ (.i .i64 :: (List.replicate 16 (.i .u8) ++ [.i .i64, .i .u64, .i .u64, .i .u16, .i .i64, .i .i64]))) (by kernel_rfl) n cs y h (.inl (by kernel_rfl))
 obtain ⟨c0, c1, rfl, h1, h2⟩ := wfK_split hw
 obtain ⟨a1, rfl, hl1, hb1⟩ := ip_wf c0 16 h1
 obtain ⟨x1, c2, rfl, g1, h3⟩ := wfK_cons h2
 obtain ⟨c3, c4, rfl, h4, h5⟩ := wfK_split (ks := List.replicate 16 (LK.i .u8)) (ks' := [LK.i .i64, .i .u64, .i .u64, .i .u16, .i .i64, .i .i64]) h3
 obtain ⟨a2, rfl, hl2, hb2⟩ := ip_wf c3 16 h4
 obtain ⟨n1, rfl, _, _⟩ := wfV_int g1
 obtain ⟨y0, d0, rfl, k0, r0⟩ := wfK_cons h5
 obtain ⟨m0, rfl, _, _⟩ := wfV_int k0
 obtain ⟨y1, d1, rfl, k1, r1⟩ := wfK_cons r0
 obtain ⟨m1, rfl, _, _⟩ := wfV_int k1
 obtain ⟨y2, d2, rfl, k2, r2⟩ := wfK_cons r1
 obtain ⟨m2, rfl, _, _⟩ := wfV_int k2
 obtain ⟨y3, d3, rfl, k3, r3⟩ := wfK_cons r2
 obtain ⟨m3, rfl, _, _⟩ := wfV_int k3
 obtain ⟨y4, d4, rfl, k4, r4⟩ := wfK_cons r3
 obtain ⟨m4, rfl, _, _⟩ := wfV_int k4
 obtain ⟨y5, d5, rfl, k5, r5⟩ := wfK_cons r4
 obtain ⟨m5, rfl, _, _⟩ := wfV_int k5
 obtain rfl := wfK_nil r5
 exact ⟨⟨⟨a1, n1, a2, m0, m1⟩, m2, ⟨m3, m4⟩, m5⟩, ⟨⟨⟨hl1, hb1⟩, ⟨hl2, hb2⟩⟩, trivial⟩, by simp [roC, dvC, diC, pfC]⟩
set_option maxRecDepth 100000 in
theorem dec_sr (n : Nat) (cs : List Value) (y : DataW H × List MemPlace) (h : DataW.trod enc Tryz.prog w base sp held n 166 cs = some y) : ∃ x : SrcV, IsSr x ∧ cs = srC x := by
 have hw := open_leaf 8 166 (List.replicate 16 (.i .u8) ++ (.i .i64 :: (List.replicate 16 (.i .u8) ++ [.i .i64, .i .u64, .i .u16, .i .i64, .i .i64]))) (by kernel_rfl) n cs y h (.inl (by kernel_rfl))
 obtain ⟨c0, c1, rfl, h1, h2⟩ := wfK_split hw
 obtain ⟨a1, rfl, hl1, hb1⟩ := ip_wf c0 16 h1
 obtain ⟨x1, c2, rfl, g1, h3⟩ := wfK_cons h2
 obtain ⟨c3, c4, rfl, h4, h5⟩ := wfK_split (ks := List.replicate 16 (LK.i .u8)) (ks' := [LK.i .i64, .i .u64, .i .u16, .i .i64, .i .i64]) h3
 obtain ⟨a2, rfl, hl2, hb2⟩ := ip_wf c3 16 h4
 obtain ⟨n1, rfl, _, _⟩ := wfV_int g1
 obtain ⟨y0, d0, rfl, k0, r0⟩ := wfK_cons h5
 obtain ⟨m0, rfl, _, _⟩ := wfV_int k0
 obtain ⟨y1, d1, rfl, k1, r1⟩ := wfK_cons r0
 obtain ⟨m1, rfl, _, _⟩ := wfV_int k1
 obtain ⟨y2, d2, rfl, k2, r2⟩ := wfK_cons r1
 obtain ⟨m2, rfl, _, _⟩ := wfV_int k2
 obtain ⟨y3, d3, rfl, k3, r3⟩ := wfK_cons r2
 obtain ⟨m3, rfl, _, _⟩ := wfV_int k3
 obtain ⟨y4, d4, rfl, k4, r4⟩ := wfK_cons r3
 obtain ⟨m4, rfl, _, _⟩ := wfV_int k4
 obtain rfl := wfK_nil r4
 exact ⟨⟨⟨a1, n1, a2, m0, m1⟩, ⟨m2, m3⟩, m4⟩, ⟨⟨⟨hl1, hb1⟩, ⟨hl2, hb2⟩⟩, trivial⟩, by simp [srC, dvC, diC, pfC]⟩
end
section
variable {H : Type} {enc : TypeId × Value → H} {w : World} {r : Reach} {b0 base : Nat} {sp : Nat → Bool} {held : Bool} {v : Value} {d : DataW H} {p : List MemPlace}
end
end Go.Proofs.YtfhkmgcalcfibaaGreat
namespace Go.Proofs.YtfhkmgcalcfibaaGreat
open Go.RowKit
structure OrgV where
 dip : List Int
 dbits : Int
 sip : List Int
 sbits : Int
 deriving DecidableEq
def ogC (o : OrgV) : List Value := pfC o.dip o.dbits ++ (pfC o.sip o.sbits)
def IsOg (o : OrgV) : Prop := IsIP o.dip ∧ IsIP o.sip
theorem og_len {o : OrgV} (h : IsOg o) : (ogC o).length = 34 := by
 obtain ⟨f_dip, f_dbits, f_sip, f_sbits⟩ := o
 obtain ⟨x0_0, x0_1, x0_2, x0_3, x0_4, x0_5, x0_6, x0_7, x0_8, x0_9, x0_10, x0_11, x0_12, x0_13, x0_14, x0_15, e0⟩ := len16 (show f_dip.length = 16 from (h.1).len)
 obtain ⟨x1_0, x1_1, x1_2, x1_3, x1_4, x1_5, x1_6, x1_7, x1_8, x1_9, x1_10, x1_11, x1_12, x1_13, x1_14, x1_15, e1⟩ := len16 (show f_sip.length = 16 from (h.2).len)
 subst e0
 subst e1
 rfl
theorem og_all {o : OrgV} (h : IsOg o) : seg (ogC o) 0 34 = some (ogC o) := sg_all (og_len h)
theorem og_dst {o : OrgV} (h : IsOg o) : seg (ogC o) 0 17 = some (pfC o.dip o.dbits) := by
 obtain ⟨f_dip, f_dbits, f_sip, f_sbits⟩ := o
 obtain ⟨x0_0, x0_1, x0_2, x0_3, x0_4, x0_5, x0_6, x0_7, x0_8, x0_9, x0_10, x0_11, x0_12, x0_13, x0_14, x0_15, e0⟩ := len16 (show f_dip.length = 16 from (h.1).len)
 obtain ⟨x1_0, x1_1, x1_2, x1_3, x1_4, x1_5, x1_6, x1_7, x1_8, x1_9, x1_10, x1_11, x1_12, x1_13, x1_14, x1_15, e1⟩ := len16 (show f_sip.length = 16 from (h.2).len)
 subst e0
 subst e1
 rfl
theorem og_src {o : OrgV} (h : IsOg o) : seg (ogC o) 17 17 = some (pfC o.sip o.sbits) := by
 obtain ⟨f_dip, f_dbits, f_sip, f_sbits⟩ := o
 obtain ⟨x0_0, x0_1, x0_2, x0_3, x0_4, x0_5, x0_6, x0_7, x0_8, x0_9, x0_10, x0_11, x0_12, x0_13, x0_14, x0_15, e0⟩ := len16 (show f_dip.length = 16 from (h.1).len)
 obtain ⟨x1_0, x1_1, x1_2, x1_3, x1_4, x1_5, x1_6, x1_7, x1_8, x1_9, x1_10, x1_11, x1_12, x1_13, x1_14, x1_15, e1⟩ := len16 (show f_sip.length = 16 from (h.2).len)
 subst e0
 subst e1
 rfl
theorem og_one (o : OrgV) : (ogC o).all (·.oneCell') = true := by
 simp [pfC, ipC, ogC, Value.oneCell']
def ogZ : List Value := [.int .u8 0, .int .u8 0, .int .u8 0, .int .u8 0, .int .u8 0, .int .u8 0, .int .u8 0, .int .u8 0, .int .u8 0, .int .u8 0, .int .u8 0, .int .u8 0, .int .u8 0, .int .u8 0, .int .u8 0, .int .u8 0, .int .i64 0, .int .u8 0, .int .u8 0, .int .u8 0, .int .u8 0, .int .u8 0, .int .u8 0, .int .u8 0, .int .u8 0, .int .u8 0, .int .u8 0, .int .u8 0, .int .u8 0, .int .u8 0, .int .u8 0, .int .u8 0, .int .u8 0, .int .i64 0]
theorem og_build {o : OrgV} (h : IsOg o) : putAll [(0, 17), (17, 17)] ogZ [(0, pfC o.dip o.dbits), (1, pfC o.sip o.sbits)] = some (ogC o) := by
 obtain ⟨f_dip, f_dbits, f_sip, f_sbits⟩ := o
 obtain ⟨x0_0, x0_1, x0_2, x0_3, x0_4, x0_5, x0_6, x0_7, x0_8, x0_9, x0_10, x0_11, x0_12, x0_13, x0_14, x0_15, e0⟩ := len16 (show f_dip.length = 16 from (h.1).len)
 obtain ⟨x1_0, x1_1, x1_2, x1_3, x1_4, x1_5, x1_6, x1_7, x1_8, x1_9, x1_10, x1_11, x1_12, x1_13, x1_14, x1_15, e1⟩ := len16 (show f_sip.length = 16 from (h.2).len)
 subst e0
 subst e1
 rfl
theorem og_build1 {o : OrgV} (h : IsOg o) : putAll (placesL 1 34) (zerosL ogZ (1 * 34)) [(0, ogC o)] = some (ogC o) := by
 obtain ⟨f_dip, f_dbits, f_sip, f_sbits⟩ := o
 obtain ⟨x0_0, x0_1, x0_2, x0_3, x0_4, x0_5, x0_6, x0_7, x0_8, x0_9, x0_10, x0_11, x0_12, x0_13, x0_14, x0_15, e0⟩ := len16 (show f_dip.length = 16 from (h.1).len)
 obtain ⟨x1_0, x1_1, x1_2, x1_3, x1_4, x1_5, x1_6, x1_7, x1_8, x1_9, x1_10, x1_11, x1_12, x1_13, x1_14, x1_15, e1⟩ := len16 (show f_sip.length = 16 from (h.2).len)
 subst e0
 subst e1
 rfl
abbrev ogK : List LK := [.i .u8, .i .u8, .i .u8, .i .u8, .i .u8, .i .u8, .i .u8, .i .u8, .i .u8, .i .u8, .i .u8, .i .u8, .i .u8, .i .u8, .i .u8, .i .u8, .i .i64, .i .u8, .i .u8, .i .u8, .i .u8, .i .u8, .i .u8, .i .u8, .i .u8, .i .u8, .i .u8, .i .u8, .i .u8, .i .u8, .i .u8, .i .u8, .i .u8, .i .i64]
theorem og_fits {o : OrgV} (h : IsOg o) : fitsK ogK (ogC o) = true := by
 obtain ⟨f_dip, f_dbits, f_sip, f_sbits⟩ := o
 obtain ⟨x0_0, x0_1, x0_2, x0_3, x0_4, x0_5, x0_6, x0_7, x0_8, x0_9, x0_10, x0_11, x0_12, x0_13, x0_14, x0_15, e0⟩ := len16 (show f_dip.length = 16 from (h.1).len)
 obtain ⟨x1_0, x1_1, x1_2, x1_3, x1_4, x1_5, x1_6, x1_7, x1_8, x1_9, x1_10, x1_11, x1_12, x1_13, x1_14, x1_15, e1⟩ := len16 (show f_sip.length = 16 from (h.2).len)
 subst e0
 subst e1
 rfl
theorem og_eq {a b : OrgV} (ha : IsOg a) (hb : IsOg b) : eqVs (ogC a) (ogC b) = decide (a = b) := by
 have l0 : a.dip.length = b.dip.length := by rw [(ha.1).len, (hb.1).len]
 have l1 : a.sip.length = b.sip.length := by rw [(ha.2).len, (hb.2).len]
 rw [Bool.eq_iff_iff, decide_eq_true_eq]
 obtain ⟨a_dip, a_dbits, a_sip, a_sbits⟩ := a
 obtain ⟨b_dip, b_dbits, b_sip, b_sbits⟩ := b
 dsimp only at l0 l1
 simp only [ogC, OrgV.mk.injEq]
 rw [eqVs_append _ _ _ _ (by first | rfl | assumption | (simp [pfC, ipC];assumption))]
 rw [eqVs_pf l0]
 rw [eqVs_pf l1]
 simp [eqVs, eqV, Bool.and_eq_true, beq_iff_eq, Bool.and_true, and_assoc, decide_eq_true_eq, List.cons_append, List.nil_append]
abbrev ogsC (l : List OrgV) : List Value := encL ogC l
theorem ogs_len {l : List OrgV} (h : ∀ x ∈ l, IsOg x) : ∀ x ∈ l, (ogC x).length = 34 := fun x hx => og_len (h x hx)
theorem ogs_one {l : List OrgV} : (ogsC l).all (·.oneCell') = true := encL_all fun x _ => og_one x
structure QuaV where
 known : Bool
 heard : Int
 cnt : Int
 next : Int
 rep : Int
 deriving DecidableEq
def quC (o : QuaV) : List Value := [.bool o.known, .int .u8 o.heard, .int .i64 o.cnt, .int .u16 o.next, .int .i64 o.rep]
def IsQu (o : QuaV) : Prop := True
theorem qu_len {o : QuaV} (h : IsQu o) : (quC o).length = 5 := by
 obtain ⟨f_known, f_heard, f_cnt, f_next, f_rep⟩ := o
 rfl
theorem qu_all {o : QuaV} (h : IsQu o) : seg (quC o) 0 5 = some (quC o) := sg_all (qu_len h)
theorem qu_known {o : QuaV} (h : IsQu o) : nth (quC o) 0 = some (.bool o.known) := by
 obtain ⟨f_known, f_heard, f_cnt, f_next, f_rep⟩ := o
 rfl
theorem qu_heard {o : QuaV} (h : IsQu o) : nth (quC o) 1 = some (.int .u8 o.heard) := by
 obtain ⟨f_known, f_heard, f_cnt, f_next, f_rep⟩ := o
 rfl
theorem qu_cnt {o : QuaV} (h : IsQu o) : nth (quC o) 2 = some (.int .i64 o.cnt) := by
 obtain ⟨f_known, f_heard, f_cnt, f_next, f_rep⟩ := o
 rfl
theorem qu_next {o : QuaV} (h : IsQu o) : nth (quC o) 3 = some (.int .u16 o.next) := by
 obtain ⟨f_known, f_heard, f_cnt, f_next, f_rep⟩ := o
 rfl
theorem qu_rep {o : QuaV} (h : IsQu o) : nth (quC o) 4 = some (.int .i64 o.rep) := by
 obtain ⟨f_known, f_heard, f_cnt, f_next, f_rep⟩ := o
 rfl
theorem qu_one (o : QuaV) : (quC o).all (·.oneCell') = true := by
 simp [pfC, ipC, quC, Value.oneCell']
def quZ : List Value := [.bool false, .int .u8 0, .int .i64 0, .int .u16 0, .int .i64 0]
abbrev quK : List LK := [.b, .i .u8, .i .i64, .i .u16, .i .i64]
theorem qu_eq {a b : QuaV} (ha : IsQu a) (hb : IsQu b) : eqVs (quC a) (quC b) = decide (a = b) := by
 rw [Bool.eq_iff_iff, decide_eq_true_eq]
 obtain ⟨a_known, a_heard, a_cnt, a_next, a_rep⟩ := a
 obtain ⟨b_known, b_heard, b_cnt, b_next, b_rep⟩ := b
 simp only [quC, QuaV.mk.injEq]
 simp [eqVs, eqV, Bool.and_eq_true, beq_iff_eq, Bool.and_true, and_assoc, decide_eq_true_eq, List.cons_append, List.nil_append]
structure AdjV where
 nb : Int
 q : QuaV
 til : Int
 ans : Int
 deriving DecidableEq
def ajC (o : AdjV) : List Value := [.int .u64 o.nb] ++ (quC o.q ++ ([.int .i64 o.til, .int .i64 o.ans]))
def IsAj (o : AdjV) : Prop := IsQu o.q
theorem aj_len {o : AdjV} (h : IsAj o) : (ajC o).length = 8 := by
 obtain ⟨f_nb, ⟨f_q_known, f_q_heard, f_q_cnt, f_q_next, f_q_rep⟩, f_til, f_ans⟩ := o
 rfl
theorem aj_nb {o : AdjV} (h : IsAj o) : nth (ajC o) 0 = some (.int .u64 o.nb) := by
 obtain ⟨f_nb, ⟨f_q_known, f_q_heard, f_q_cnt, f_q_next, f_q_rep⟩, f_til, f_ans⟩ := o
 rfl
theorem aj_q {o : AdjV} (h : IsAj o) : seg (ajC o) 1 5 = some (quC o.q) := by
 obtain ⟨f_nb, ⟨f_q_known, f_q_heard, f_q_cnt, f_q_next, f_q_rep⟩, f_til, f_ans⟩ := o
 rfl
theorem aj_q_known {o : AdjV} (h : IsAj o) : nth (ajC o) 1 = some (.bool o.q.known) := by
 obtain ⟨f_nb, ⟨f_q_known, f_q_heard, f_q_cnt, f_q_next, f_q_rep⟩, f_til, f_ans⟩ := o
 rfl
theorem aj_til {o : AdjV} (h : IsAj o) : nth (ajC o) 6 = some (.int .i64 o.til) := by
 obtain ⟨f_nb, ⟨f_q_known, f_q_heard, f_q_cnt, f_q_next, f_q_rep⟩, f_til, f_ans⟩ := o
 rfl
theorem aj_ans {o : AdjV} (h : IsAj o) : nth (ajC o) 7 = some (.int .i64 o.ans) := by
 obtain ⟨f_nb, ⟨f_q_known, f_q_heard, f_q_cnt, f_q_next, f_q_rep⟩, f_til, f_ans⟩ := o
 rfl
theorem aj_one (o : AdjV) : (ajC o).all (·.oneCell') = true := by
 simp [pfC, ipC, ajC, quC, Value.oneCell']
def ajZ : List Value := [.int .u64 0, .bool false, .int .u8 0, .int .i64 0, .int .u16 0, .int .i64 0, .int .i64 0, .int .i64 0]
theorem aj_build1 {o : AdjV} (h : IsAj o) : putAll (placesL 1 8) (zerosL ajZ (1 * 8)) [(0, ajC o)] = some (ajC o) := by
 obtain ⟨f_nb, ⟨f_q_known, f_q_heard, f_q_cnt, f_q_next, f_q_rep⟩, f_til, f_ans⟩ := o
 rfl
abbrev ajsC (l : List AdjV) : List Value := encL ajC l
theorem ajs_len {l : List AdjV} (h : ∀ x ∈ l, IsAj x) : ∀ x ∈ l, (ajC x).length = 8 := fun x hx => aj_len (h x hx)
theorem ajs_one {l : List AdjV} : (ajsC l).all (·.oneCell') = true := encL_all fun x _ => aj_one x
structure ReqV where
 to : DstV
 seq : Int
 hops : Int
 frm : Int
 next : Int
 left : Int
 deriving DecidableEq
def rqC (o : ReqV) : List Value := dvC o.to ++ ([.int .u16 o.seq, .int .i64 o.hops, .int .u64 o.frm, .int .i64 o.next, .int .i64 o.left])
def IsRq (o : ReqV) : Prop := IsDv o.to
theorem rq_len {o : ReqV} (h : IsRq o) : (rqC o).length = 40 := by
 obtain ⟨⟨f_to_dip, f_to_dbits, f_to_sip, f_to_sbits, f_to_rt⟩, f_seq, f_hops, f_frm, f_next, f_left⟩ := o
 obtain ⟨x0_0, x0_1, x0_2, x0_3, x0_4, x0_5, x0_6, x0_7, x0_8, x0_9, x0_10, x0_11, x0_12, x0_13, x0_14, x0_15, e0⟩ := len16 (show f_to_dip.length = 16 from (h.1).len)
 obtain ⟨x1_0, x1_1, x1_2, x1_3, x1_4, x1_5, x1_6, x1_7, x1_8, x1_9, x1_10, x1_11, x1_12, x1_13, x1_14, x1_15, e1⟩ := len16 (show f_to_sip.length = 16 from (h.2).len)
 subst e0
 subst e1
 rfl
theorem rq_all {o : ReqV} (h : IsRq o) : seg (rqC o) 0 40 = some (rqC o) := sg_all (rq_len h)
theorem rq_to {o : ReqV} (h : IsRq o) : seg (rqC o) 0 35 = some (dvC o.to) := by
 obtain ⟨⟨f_to_dip, f_to_dbits, f_to_sip, f_to_sbits, f_to_rt⟩, f_seq, f_hops, f_frm, f_next, f_left⟩ := o
 obtain ⟨x0_0, x0_1, x0_2, x0_3, x0_4, x0_5, x0_6, x0_7, x0_8, x0_9, x0_10, x0_11, x0_12, x0_13, x0_14, x0_15, e0⟩ := len16 (show f_to_dip.length = 16 from (h.1).len)
 obtain ⟨x1_0, x1_1, x1_2, x1_3, x1_4, x1_5, x1_6, x1_7, x1_8, x1_9, x1_10, x1_11, x1_12, x1_13, x1_14, x1_15, e1⟩ := len16 (show f_to_sip.length = 16 from (h.2).len)
 subst e0
 subst e1
 rfl
theorem rq_seq {o : ReqV} (h : IsRq o) : nth (rqC o) 35 = some (.int .u16 o.seq) := by
 obtain ⟨⟨f_to_dip, f_to_dbits, f_to_sip, f_to_sbits, f_to_rt⟩, f_seq, f_hops, f_frm, f_next, f_left⟩ := o
 obtain ⟨x0_0, x0_1, x0_2, x0_3, x0_4, x0_5, x0_6, x0_7, x0_8, x0_9, x0_10, x0_11, x0_12, x0_13, x0_14, x0_15, e0⟩ := len16 (show f_to_dip.length = 16 from (h.1).len)
 obtain ⟨x1_0, x1_1, x1_2, x1_3, x1_4, x1_5, x1_6, x1_7, x1_8, x1_9, x1_10, x1_11, x1_12, x1_13, x1_14, x1_15, e1⟩ := len16 (show f_to_sip.length = 16 from (h.2).len)
 subst e0
 subst e1
 rfl
theorem rq_hops {o : ReqV} (h : IsRq o) : nth (rqC o) 36 = some (.int .i64 o.hops) := by
 obtain ⟨⟨f_to_dip, f_to_dbits, f_to_sip, f_to_sbits, f_to_rt⟩, f_seq, f_hops, f_frm, f_next, f_left⟩ := o
 obtain ⟨x0_0, x0_1, x0_2, x0_3, x0_4, x0_5, x0_6, x0_7, x0_8, x0_9, x0_10, x0_11, x0_12, x0_13, x0_14, x0_15, e0⟩ := len16 (show f_to_dip.length = 16 from (h.1).len)
 obtain ⟨x1_0, x1_1, x1_2, x1_3, x1_4, x1_5, x1_6, x1_7, x1_8, x1_9, x1_10, x1_11, x1_12, x1_13, x1_14, x1_15, e1⟩ := len16 (show f_to_sip.length = 16 from (h.2).len)
 subst e0
 subst e1
 rfl
theorem rq_next {o : ReqV} (h : IsRq o) : nth (rqC o) 38 = some (.int .i64 o.next) := by
 obtain ⟨⟨f_to_dip, f_to_dbits, f_to_sip, f_to_sbits, f_to_rt⟩, f_seq, f_hops, f_frm, f_next, f_left⟩ := o
 obtain ⟨x0_0, x0_1, x0_2, x0_3, x0_4, x0_5, x0_6, x0_7, x0_8, x0_9, x0_10, x0_11, x0_12, x0_13, x0_14, x0_15, e0⟩ := len16 (show f_to_dip.length = 16 from (h.1).len)
 obtain ⟨x1_0, x1_1, x1_2, x1_3, x1_4, x1_5, x1_6, x1_7, x1_8, x1_9, x1_10, x1_11, x1_12, x1_13, x1_14, x1_15, e1⟩ := len16 (show f_to_sip.length = 16 from (h.2).len)
 subst e0
 subst e1
 rfl
theorem rq_left {o : ReqV} (h : IsRq o) : nth (rqC o) 39 = some (.int .i64 o.left) := by
 obtain ⟨⟨f_to_dip, f_to_dbits, f_to_sip, f_to_sbits, f_to_rt⟩, f_seq, f_hops, f_frm, f_next, f_left⟩ := o
 obtain ⟨x0_0, x0_1, x0_2, x0_3, x0_4, x0_5, x0_6, x0_7, x0_8, x0_9, x0_10, x0_11, x0_12, x0_13, x0_14, x0_15, e0⟩ := len16 (show f_to_dip.length = 16 from (h.1).len)
 obtain ⟨x1_0, x1_1, x1_2, x1_3, x1_4, x1_5, x1_6, x1_7, x1_8, x1_9, x1_10, x1_11, x1_12, x1_13, x1_14, x1_15, e1⟩ := len16 (show f_to_sip.length = 16 from (h.2).len)
 subst e0
 subst e1
 rfl
theorem rq_put_left {o : ReqV} (h : IsRq o) (z : Int) : put (rqC o) 39 [.int .i64 z] = some (rqC { o with left := z }) := by
 obtain ⟨⟨f_to_dip, f_to_dbits, f_to_sip, f_to_sbits, f_to_rt⟩, f_seq, f_hops, f_frm, f_next, f_left⟩ := o
 obtain ⟨x0_0, x0_1, x0_2, x0_3, x0_4, x0_5, x0_6, x0_7, x0_8, x0_9, x0_10, x0_11, x0_12, x0_13, x0_14, x0_15, e0⟩ := len16 (show f_to_dip.length = 16 from (h.1).len)
 obtain ⟨x1_0, x1_1, x1_2, x1_3, x1_4, x1_5, x1_6, x1_7, x1_8, x1_9, x1_10, x1_11, x1_12, x1_13, x1_14, x1_15, e1⟩ := len16 (show f_to_sip.length = 16 from (h.2).len)
 subst e0
 subst e1
 rfl
theorem rq_one (o : ReqV) : (rqC o).all (·.oneCell') = true := by
 simp [pfC, ipC, rqC, dvC, Value.oneCell']
def rqZ : List Value := [.int .u8 0, .int .u8 0, .int .u8 0, .int .u8 0, .int .u8 0, .int .u8 0, .int .u8 0, .int .u8 0, .int .u8 0, .int .u8 0, .int .u8 0, .int .u8 0, .int .u8 0, .int .u8 0, .int .u8 0, .int .u8 0, .int .i64 0, .int .u8 0, .int .u8 0, .int .u8 0, .int .u8 0, .int .u8 0, .int .u8 0, .int .u8 0, .int .u8 0, .int .u8 0, .int .u8 0, .int .u8 0, .int .u8 0, .int .u8 0, .int .u8 0, .int .u8 0, .int .u8 0, .int .i64 0, .int .u64 0, .int .u16 0, .int .i64 0, .int .u64 0, .int .i64 0, .int .i64 0]
theorem rq_build {o : ReqV} (h : IsRq o) : putAll [(0, 35), (35, 1), (36, 1), (37, 1), (38, 1), (39, 1)] rqZ [(0, dvC o.to), (1, [.int .u16 o.seq]), (2, [.int .i64 o.hops]), (3, [.int .u64 o.frm]), (4, [.int .i64 o.next]), (5, [.int .i64 o.left])] = some (rqC o) := by
 obtain ⟨⟨f_to_dip, f_to_dbits, f_to_sip, f_to_sbits, f_to_rt⟩, f_seq, f_hops, f_frm, f_next, f_left⟩ := o
 obtain ⟨x0_0, x0_1, x0_2, x0_3, x0_4, x0_5, x0_6, x0_7, x0_8, x0_9, x0_10, x0_11, x0_12, x0_13, x0_14, x0_15, e0⟩ := len16 (show f_to_dip.length = 16 from (h.1).len)
 obtain ⟨x1_0, x1_1, x1_2, x1_3, x1_4, x1_5, x1_6, x1_7, x1_8, x1_9, x1_10, x1_11, x1_12, x1_13, x1_14, x1_15, e1⟩ := len16 (show f_to_sip.length = 16 from (h.2).len)
 subst e0
 subst e1
 rfl
theorem rq_build1 {o : ReqV} (h : IsRq o) : putAll (placesL 1 40) (zerosL rqZ (1 * 40)) [(0, rqC o)] = some (rqC o) := by
 obtain ⟨⟨f_to_dip, f_to_dbits, f_to_sip, f_to_sbits, f_to_rt⟩, f_seq, f_hops, f_frm, f_next, f_left⟩ := o
 obtain ⟨x0_0, x0_1, x0_2, x0_3, x0_4, x0_5, x0_6, x0_7, x0_8, x0_9, x0_10, x0_11, x0_12, x0_13, x0_14, x0_15, e0⟩ := len16 (show f_to_dip.length = 16 from (h.1).len)
 obtain ⟨x1_0, x1_1, x1_2, x1_3, x1_4, x1_5, x1_6, x1_7, x1_8, x1_9, x1_10, x1_11, x1_12, x1_13, x1_14, x1_15, e1⟩ := len16 (show f_to_sip.length = 16 from (h.2).len)
 subst e0
 subst e1
 rfl
abbrev rqsC (l : List ReqV) : List Value := encL rqC l
theorem rqs_len {l : List ReqV} (h : ∀ x ∈ l, IsRq x) : ∀ x ∈ l, (rqC x).length = 40 := fun x hx => rq_len (h x hx)
theorem rqs_one {l : List ReqV} : (rqsC l).all (·.oneCell') = true := encL_all fun x _ => rq_one x
end Go.Proofs.YtfhkmgcalcfibaaGreat
namespace Go.Proofs.YtfhkmgcalcfibaaGreat
open Go.RowKit
attribute [local irreducible] OpTo wpListIn Code.wpIn MW Cal
def qu0 : QuaV := ⟨false, 0, 0, 0, 0⟩
structure BdQu (o : QuaV) : Prop where
 h : 0 ≤ o.heard ∧ o.heard < 256
 c : -9223372036854775808 ≤ o.cnt ∧ o.cnt ≤ 9223372036854775807
 r : -9223372036854775808 ≤ o.rep ∧ o.rep ≤ 9223372036854775807
theorem BdQu.zero : BdQu qu0 := ⟨by decide, by decide, by decide⟩
def shl1 (n : Int) : Int := IntKind.i64.wrap (1 * 2 ^ min n.toNat IntKind.i64.bits)
def QuP (o : QuaV) : Prop := 1 ≤ o.cnt ∧ o.cnt ≤ 8 ∧ o.heard ≠ 0 ∧ o.heard < shl1 o.cnt ∧ 0 ≤ o.rep ∧ o.rep ≤ 65535
instance (o : QuaV) : Decidable (QuP o) := by unfold QuP;infer_instance
def quIn (o : QuaV) : Bool := decide (QuP o)
theorem qiT {o : QuaV} (h1 : 1 ≤ o.cnt) (h2 : o.cnt ≤ 8) (h3 : o.heard ≠ 0) (h4 : o.heard < shl1 o.cnt) (h5 : 0 ≤ o.rep) : Value.bool (decide (o.rep ≤ 65535)) = .bool (quIn o) := by
 unfold quIn
 congr 1
 rw [decide_eq_decide]
 exact ⟨fun h => ⟨h1, h2, h3, h4, h5, h⟩, fun h => h.2.2.2.2.2⟩
theorem qiF {o : QuaV} (h : ¬ QuP o) : Value.bool false = .bool (quIn o) := by unfold quIn;rw [dqF h]
def quValid (o : QuaV) : Bool := if o.known then quIn o else decide (o = qu0)
def quClean (o : QuaV) : QuaV := if quValid o then o else qu0
theorem quV_known {o : QuaV} (h : o.known = true) : quValid o = quIn o := by unfold quValid;rw [h];rfl
theorem quV_not {o : QuaV} (h : o.known = false) : quValid o = decide (o = qu0) := by unfold quValid;rw [h];rfl
theorem qu0_known {o : QuaV} (h : o = qu0) : quValid o = true := by subst h;rfl
theorem quClean_bd {o : QuaV} (h : BdQu o) : BdQu (quClean o) := by
 unfold quClean
 split
 ·exact h
 ·exact BdQu.zero
theorem clean_in {o : QuaV} (h : (quClean o).known = true) : quIn (quClean o) = true := by
 unfold quClean at *
 split at h
 ·rename_i hv
  rw [if_pos hv]
  rw [quV_known h] at hv
  exact hv
 ·cases h
theorem clean_not {o : QuaV} (h : (quClean o).known = false) : quClean o = qu0 := by
 unfold quClean at *
 split at h
 ·rename_i hv
  rw [if_pos hv]
  rw [quV_not h] at hv
  exact dqU hv
 ·rename_i hv
  rw [if_neg hv]
theorem quIn_iff {o : QuaV} : quIn o = true ↔ 1 ≤ o.cnt ∧ o.cnt ≤ 8 ∧ o.heard ≠ 0 ∧ o.heard < shl1 o.cnt ∧ 0 ≤ o.rep ∧ o.rep ≤ 65535 := by
 unfold quIn
 rw [decide_eq_true_eq]
 exact Iff.rfl
theorem clean_cnt (o : QuaV) : 0 ≤ (quClean o).cnt ∧ (quClean o).cnt ≤ 8 ∧ 0 ≤ (quClean o).rep ∧ (quClean o).rep ≤ 65535 := by
 cases h : (quClean o).known with
 | true => have := quIn_iff.1 (clean_in h);omega
 | false => rw [clean_not h];decide
theorem qvalid_c (o : QuaV) (hb : BdQu o) (W : World) : Cal Tryz.prog 187 [.agg (quC o).toArray].toArray W fun r w' => r = .bool (quValid o) ∧ Ext [] W w' := by
 have hb1 := hb.h
 have hb2 := hb.c
 have hb3 := hb.r
 have hf2 : fitsK quK quZ = true := rfl
 by_cases h0 : o = qu0
 ·rw [qu0_known h0]
  subst h0
  have ez : eqVs (quC qu0) quZ = true := rfl
  have hf1 : fitsK quK (quC qu0) = true := rfl
  refine g_start (n := 42) (S := []) fldT_ok slcT_ok Tryz.func187 rfl rfl rfl (gR 2 rfl (g_box rfl rfl fun b1 => gR 6 rfl (g_ldA 0 rfl rfl (qu_all trivial) (g_v (fun a w F M R r => o_build F rfl rfl r) (g_eqA rfl rfl ‹_› ‹_› ‹_› ?_)))))
  exact gR 10 rfl (g_ret1 rfl rfl rfl fun w M => ⟨rfl, M.ext⟩)
 ·have e0 : decide (o = qu0) = false := dqF h0
  have ez : eqVs (quC o) quZ = false := (qu_eq (b := qu0) trivial trivial).trans e0
  have hf1 : fitsK quK (quC o) = true := rfl
  cases hk : o.known with
  | false =>
   rw [quV_not hk, e0]
   refine g_start (n := 42) (S := []) fldT_ok slcT_ok Tryz.func187 rfl rfl rfl (gR 2 rfl (g_box rfl rfl fun b1 => gR 6 rfl (g_ldA 0 rfl rfl (qu_all trivial) (g_v (fun a w F M R r => o_build F rfl rfl r) (g_eqA rfl rfl ‹_› ‹_› ‹_› ?_)))))
   refine gR 6 rfl (g_draw 37 42 rfl (by kernel_rfl) (fR 1 rfl (fd_ld1 0 rfl rfl (qu_known trivial) (fR 1 rfl (fd_know 8 rfl ‹_› ?_)))))
   exact fR 34 rfl (fd_done rfl rfl (gR 3 rfl (g_ret1 rfl rfl rfl fun w M => ⟨rfl, M.ext⟩)))
  | true =>
   rw [quV_known hk]
   refine g_start (n := 42) (S := []) fldT_ok slcT_ok Tryz.func187 rfl rfl rfl (gR 2 rfl (g_box rfl rfl fun b1 => gR 6 rfl (g_ldA 0 rfl rfl (qu_all trivial) (g_v (fun a w F M R r => o_build F rfl rfl r) (g_eqA rfl rfl ‹_› ‹_› ‹_› ?_)))))
   refine gR 6 rfl (g_draw 37 42 rfl (by kernel_rfl) (fR 1 rfl (fd_ld1 0 rfl rfl (qu_known trivial) (fR 1 rfl (fd_know 8 rfl ‹_› ?_)))))
   refine fR 1 rfl (fd_ld1 0 rfl rfl (qu_cnt trivial) (fR 3 rfl (fd_split 13 rfl (fun h1 => ?_) (fun h1 => ?_))))
   ·replace h1 := dqU h1
    refine fR 1 rfl (fd_ld1 0 rfl rfl (qu_cnt trivial) (fR 3 rfl (fd_split 18 rfl (fun h2 => ?_) (fun h2 => ?_))))
    ·replace h2 := dqU h2
     refine fR 1 rfl (fd_ld1 0 rfl rfl (qu_heard trivial) (fR 3 rfl (fd_split 23 rfl (fun h3 => ?_) (fun h3 => ?_))))
     ·replace h3 := ne_of_bne h3
      refine fR 1 rfl (fd_ld1 0 rfl rfl (qu_heard trivial) (fd_conv rfl (w_i64 (by omega) (by omega)) (fR 1 rfl (fd_ld1 0 rfl rfl (qu_cnt trivial) (fd_v (fun a w F M R r => o_shl (F.e rfl) (F.e rfl) (by omega) rfl r) (fR 3 rfl (fd_split 32 rfl (fun h4 => ?_) (fun h4 => ?_))))))))
      ·replace h4 := dqU h4
       refine fR 1 rfl (fd_ld1 0 rfl rfl (qu_rep trivial) (fR 3 rfl (fd_split 37 rfl (fun h5 => ?_) (fun h5 => ?_))))
       ·replace h5 := dqU h5
        exact fR 1 rfl (fd_ld1 0 rfl rfl (qu_rep trivial) (fR 3 rfl (fd_done rfl rfl (gR 3 rfl (g_ret1 rfl rfl rfl fun w M => ⟨qiT ‹_› ‹_› ‹_› ‹_› ‹_›, M.ext⟩)))))
       ·replace h5 := dqV h5
        refine fR 5 rfl (fd_done rfl rfl (gR 3 rfl (g_ret1 rfl rfl rfl fun w M => ?_)))
        exact ⟨qiF (fun hp => by unfold QuP shl1 at hp;omega), M.ext⟩
      ·replace h4 := dqV h4
       refine fR 10 rfl (fd_done rfl rfl (gR 3 rfl (g_ret1 rfl rfl rfl fun w M => ?_)))
       exact ⟨qiF (fun hp => by unfold QuP shl1 at hp;omega), M.ext⟩
     ·replace h3 := eq_of_bne_false h3
      refine fR 19 rfl (fd_done rfl rfl (gR 3 rfl (g_ret1 rfl rfl rfl fun w M => ?_)))
      exact ⟨qiF (fun hp => by unfold QuP shl1 at hp;omega), M.ext⟩
    ·replace h2 := dqV h2
     refine fR 24 rfl (fd_done rfl rfl (gR 3 rfl (g_ret1 rfl rfl rfl fun w M => ?_)))
     exact ⟨qiF (fun hp => by unfold QuP shl1 at hp;omega), M.ext⟩
   ·replace h1 := dqV h1
    refine fR 29 rfl (fd_done rfl rfl (gR 3 rfl (g_ret1 rfl rfl rfl fun w M => ?_)))
    exact ⟨qiF (fun hp => by unfold QuP shl1 at hp;omega), M.ext⟩
theorem rqvalid_c (o : QuaV) (hb : BdQu o) (W : World) : Cal Tryz.prog 113 [.agg (quC o).toArray].toArray W fun r w' => r = .bool (quValid o) ∧ Ext [] W w' := by
 have hb1 := hb.h
 have hb2 := hb.c
 have hb3 := hb.r
 have hf2 : fitsK quK quZ = true := rfl
 by_cases h0 : o = qu0
 ·rw [qu0_known h0]
  subst h0
  have ez : eqVs (quC qu0) quZ = true := rfl
  have hf1 : fitsK quK (quC qu0) = true := rfl
  refine g_start (n := 42) (S := []) fldT_ok slcT_ok Tryz.func113 rfl rfl rfl (gR 2 rfl (g_box rfl rfl fun b1 => gR 7 rfl (g_ld1 0 rfl rfl (qu_known trivial) (gR 6 rfl (g_ldA 0 rfl rfl (qu_all trivial) (g_v (fun a w F M R r => o_build F rfl rfl r) (g_eqA rfl rfl ‹_› ‹_› ‹_› ?_)))))))
  exact gR 5 rfl (g_ret1 rfl rfl rfl fun w M => ⟨rfl, M.ext⟩)
 ·have e0 : decide (o = qu0) = false := dqF h0
  have ez : eqVs (quC o) quZ = false := (qu_eq (b := qu0) trivial trivial).trans e0
  have hf1 : fitsK quK (quC o) = true := rfl
  cases hk : o.known with
  | false =>
   rw [quV_not hk, e0]
   refine g_start (n := 42) (S := []) fldT_ok slcT_ok Tryz.func113 rfl rfl rfl (gR 2 rfl (g_box rfl rfl fun b1 => gR 7 rfl (g_ld1 0 rfl rfl (qu_known trivial) (gR 3 rfl (g_ifT rfl (notT ‹_›) ?_)))))
   refine gR 2 rfl (g_ldA 0 rfl rfl (qu_all trivial) (g_v (fun a w F M R r => o_build F rfl rfl r) (g_eqA rfl rfl ‹_› ‹_› ‹_› ?_)))
   exact gR 5 rfl (g_ret1 rfl rfl rfl fun w M => ⟨rfl, M.ext⟩)
  | true =>
   rw [quV_known hk]
   refine g_start (n := 42) (S := []) fldT_ok slcT_ok Tryz.func113 rfl rfl rfl (gR 2 rfl (g_box rfl rfl fun b1 => gR 7 rfl (g_ld1 0 rfl rfl (qu_known trivial) (gR 3 rfl (g_ifF rfl (notF ‹_›) ?_)))))
   refine gR 5 rfl (g_ld1 0 rfl rfl (qu_cnt trivial) (gR 2 rfl (g_split 12 rfl (fun h1 => ?_) (fun h1 => ?_))))
   ·replace h1 := dqU h1
    refine gR 1 rfl (g_ld1 0 rfl rfl (qu_cnt trivial) (gR 3 rfl (g_split 17 rfl (fun h2 => ?_) (fun h2 => ?_))))
    ·replace h2 := dqU h2
     refine gR 1 rfl (g_ld1 0 rfl rfl (qu_heard trivial) (gR 3 rfl (g_split 22 rfl (fun h3 => ?_) (fun h3 => ?_))))
     ·replace h3 := ne_of_bne h3
      refine gR 1 rfl (g_ld1 0 rfl rfl (qu_heard trivial) (g_conv rfl (w_i64 (by omega) (by omega)) (gR 1 rfl (g_ld1 0 rfl rfl (qu_cnt trivial) (g_conv rfl (w_u64 (by omega) (by omega)) (g_v (fun a w F M R r => o_shl (F.e rfl) (F.e rfl) (by omega) rfl r) (gR 3 rfl (g_split 32 rfl (fun h4 => ?_) (fun h4 => ?_)))))))))
      ·replace h4 := dqU h4
       refine gR 1 rfl (g_ld1 0 rfl rfl (qu_rep trivial) (gR 3 rfl (g_split 37 rfl (fun h5 => ?_) (fun h5 => ?_))))
       ·replace h5 := dqU h5
        exact gR 1 rfl (g_ld1 0 rfl rfl (qu_rep trivial) (gR 6 rfl (g_ret1 rfl rfl rfl fun w M => ⟨qiT ‹_› ‹_› ‹_› ‹_› ‹_›, M.ext⟩)))
       ·replace h5 := dqV h5
        refine gR 8 rfl (g_ret1 rfl rfl rfl fun w M => ?_)
        exact ⟨qiF (fun hp => by unfold QuP shl1 at hp;omega), M.ext⟩
      ·replace h4 := dqV h4
       refine gR 13 rfl (g_ret1 rfl rfl rfl fun w M => ?_)
       exact ⟨qiF (fun hp => by unfold QuP shl1 at hp;omega), M.ext⟩
     ·replace h3 := eq_of_bne_false h3
      refine gR 23 rfl (g_ret1 rfl rfl rfl fun w M => ?_)
      exact ⟨qiF (fun hp => by unfold QuP shl1 at hp;omega), M.ext⟩
    ·replace h2 := dqV h2
     refine gR 28 rfl (g_ret1 rfl rfl rfl fun w M => ?_)
     exact ⟨qiF (fun hp => by unfold QuP shl1 at hp;omega), M.ext⟩
   ·replace h1 := dqV h1
    refine gR 33 rfl (g_ret1 rfl rfl rfl fun w M => ?_)
    exact ⟨qiF (fun hp => by unfold QuP shl1 at hp;omega), M.ext⟩
theorem rqclean_c (o : QuaV) (hb : BdQu o) (W : World) : Cal Tryz.prog 227 [.agg (quC o).toArray].toArray W fun r w' => r = .agg (quC (quClean o)).toArray ∧ Ext [] W w' := by
 unfold quClean
 cases hv : quValid o with
 | true =>
  rw [if_pos rfl]
  refine g_start (n := 8) (S := []) fldT_ok slcT_ok Tryz.func227 rfl rfl rfl (gR 2 rfl (g_box rfl rfl fun b1 => g_alloc fun b2 => gR 5 rfl (g_ldA 1 rfl rfl (qu_all trivial) (g_call rfl rfl (fun w M => rqvalid_c _ ‹_› _) ?_))))
  refine gR 3 rfl (g_ifF rfl (notF ‹_›) ?_)
  refine gR 4 rfl (g_ldA 1 rfl rfl (qu_all trivial) ?_)
  refine g_stA 0 rfl rfl rfl rfl rfl rfl rfl ?_
  exact gR 3 rfl (g_retC 0 rfl rfl rfl rfl rfl fun w M => ⟨rfl, M.ext⟩)
 | false =>
  rw [if_neg Bool.false_ne_true]
  refine g_start (n := 8) (S := []) fldT_ok slcT_ok Tryz.func227 rfl rfl rfl (gR 2 rfl (g_box rfl rfl fun b1 => g_alloc fun b2 => gR 5 rfl (g_ldA 1 rfl rfl (qu_all trivial) (g_call rfl rfl (fun w M => rqvalid_c _ ‹_› _) ?_))))
  refine gR 3 rfl (g_ifT rfl (notT ‹_›) ?_)
  refine gR 2 rfl (g_v (fun a w F M R r => o_build F rfl rfl r) ?_)
  refine g_stA 0 rfl rfl rfl rfl rfl rfl rfl ?_
  exact gR 4 rfl (g_retC 0 rfl rfl rfl rfl rfl fun w M => ⟨rfl, M.ext⟩)
theorem u8_bd (x : Int) : 0 ≤ IntKind.u8.wrap x ∧ IntKind.u8.wrap x < 256 := by
 simp only [IntKind.wrap, IntKind.signed, IntKind.bits, Bool.false_and, Bool.false_eq_true, if_false]
 omega
def addQ (o : QuaV) (e : Int) : QuaV := { o with heard := IntKind.u8.wrap (bitsOf .and .i64 (o.heard * 2 + e) 255), cnt := if 8 < o.cnt + 1 then 8 else o.cnt + 1 }
structure SmQu (o : QuaV) : Prop where
 b : BdQu o
 c : 0 ≤ o.cnt ∧ o.cnt ≤ 8
theorem SmQu.clean {o : QuaV} (h : BdQu o) : SmQu (quClean o) := ⟨quClean_bd h, by have := clean_cnt o;omega⟩
theorem SmQu.add {o : QuaV} (h : SmQu o) (e : Int) : SmQu (addQ o e) := ⟨⟨u8_bd _, by have := h.c;unfold addQ;dsimp only;split <;> omega, h.b.r⟩, by have := h.c;unfold addQ;dsimp only;split <;> omega⟩
theorem rqadd_c (o : QuaV) (hb : SmQu o) (e : Int) (h0 : 0 ≤ e) (h1 : e ≤ 1) (W : World) : Cal Tryz.prog 228 [.agg (quC o).toArray, .int .i64 e].toArray W fun r w' => r = .agg (quC (addQ o e)).toArray ∧ Ext [] W w' := by
 have hb1 := hb.b.h
 have hc := hb.c
 refine g_start (n := 20) (S := []) fldT_ok slcT_ok Tryz.func228 rfl rfl rfl (gR 2 rfl (g_box rfl rfl fun b2 => g_alloc fun b4 => gR 5 rfl (g_ld1 1 rfl rfl (qu_heard trivial) (g_conv rfl (w_i64 (by omega) (by omega)) (g_mul rfl rfl (w_i64 (by omega) (by omega)) (gR 1 rfl (g_add rfl rfl (w_i64 (by omega) (by omega)) (g_v (fun a w F M R r => o_and (F.e rfl) (F.e rfl) rfl r) (g_conv rfl rfl (gR 1 rfl (g_st1 1 rfl rfl rfl rfl rfl rfl (gR 5 rfl (g_ld1 1 rfl rfl rfl (g_add rfl rfl (w_i64 (by omega) (by omega)) (g_v (fun a w F M R r => o_min (F.e rfl) (F.e rfl) r) (gR 1 rfl (g_st1 1 rfl rfl rfl rfl rfl rfl (gR 4 rfl (g_ldA 1 rfl rfl rfl ?_)))))))))))))))))))
 refine g_stA 0 rfl rfl rfl rfl rfl rfl rfl ?_
 exact gR 3 rfl (g_retC 0 rfl rfl rfl rfl rfl fun w M => ⟨rfl, M.ext⟩)
def PhQ (r : Value) (W w' : World) : Prop := ∃ o, SmQu o ∧ r = .agg (quC o).toArray ∧ Ext [] W w'
theorem rqhello_c (o : QuaV) (hb : BdQu o) (s : Int) (W : World) : Cal Tryz.prog 139 [.agg (quC o).toArray, .int .u16 s].toArray W fun r w' => PhQ r W w' := by
 have hs := SmQu.clean hb
 refine g_start (n := 53) (S := []) fldT_ok slcT_ok Tryz.func139 rfl rfl rfl (gR 2 rfl (g_box rfl rfl fun b2 => g_alloc fun b4 => gR 4 rfl (g_ldA 1 rfl rfl (qu_all trivial) (g_call rfl rfl (fun w M => rqclean_c _ ‹_› _) ?_))))
 refine g_stA 1 rfl rfl (qu_len trivial) (qu_one _) rfl (put_all (by rw [qu_len trivial];first | rfl | rw [qu_len ‹_›])) rfl ?_
 refine gR 6 rfl (g_ld1 1 rfl rfl (qu_next trivial) (g_sub rfl rfl rfl (g_conv rfl rfl (g_conv rfl rfl (gR 7 rfl (g_ld1 1 rfl rfl (qu_known trivial) (gR 2 rfl (g_split 17 rfl (fun h1 => ?_) (fun h1 => ?_)))))))))
 ·replace h1 := false_of_not h1
  refine gR 13 rfl (g_add rfl rfl rfl (g_v (fun a w F M R r => o_build F rfl rfl r) ?_))
  refine g_stA 0 rfl rfl rfl rfl rfl rfl rfl ?_
  refine gR 4 rfl (g_retC 0 rfl rfl rfl rfl rfl fun w M => ?_)
  exact ⟨⟨true, 1, 1, IntKind.u16.wrap (s + 1), 0⟩, ⟨⟨by dsimp only;omega, by dsimp only;omega, by dsimp only;omega⟩, by dsimp only;omega⟩, rfl, M.ext⟩
 replace h1 := true_of_not h1
 refine gR 4 rfl (g_split 21 rfl (fun h2 => ?_) (fun h2 => ?_))
 ·replace h2 := dqU h2
  refine gR 9 rfl (g_add rfl rfl rfl (g_v (fun a w F M R r => o_build F rfl rfl r) ?_))
  refine g_stA 0 rfl rfl rfl rfl rfl rfl rfl ?_
  refine gR 4 rfl (g_retC 0 rfl rfl rfl rfl rfl fun w M => ?_)
  exact ⟨⟨true, 1, 1, IntKind.u16.wrap (s + 1), 0⟩, ⟨⟨by dsimp only;omega, by dsimp only;omega, by dsimp only;omega⟩, by dsimp only;omega⟩, rfl, M.ext⟩
 replace h2 := dqV h2
 refine gR 5 rfl (g_if rfl (fun h3 => ?_) (fun h3 => ?_))
 ·replace h3 := dqU h3
  refine gR 3 rfl (g_add rfl rfl rfl (g_v (fun a w F M R r => o_build F rfl rfl r) ?_))
  refine g_stA 0 rfl rfl rfl rfl rfl rfl rfl ?_
  refine gR 4 rfl (g_retC 0 rfl rfl rfl rfl rfl fun w M => ?_)
  exact ⟨⟨true, 1, 1, IntKind.u16.wrap (s + 1), 0⟩, ⟨⟨by dsimp only;omega, by dsimp only;omega, by dsimp only;omega⟩, by dsimp only;omega⟩, rfl, M.ext⟩
 replace h3 := dqV h3
 refine gR 4 rfl (g_loop (ι := QuaV × Int) ⟨fun (y, d) => (0 - d).toNat, fun (y, d) => SmQu y ∧ d ≤ 8 ∧ -8 ≤ d, fun (y, d) => [(5, .int .i64 d), (1, .int .u16 s), (2, .pointer (some ⟨b2, 0, none⟩)), (4, .pointer (some ⟨b4, 0, none⟩))], fun (y, d) => [[(b4, .cells [Value.bool false, Value.int .u8 0, Value.int .i64 0, Value.int .u16 0, Value.int .i64 0].toArray 122 (0, 0))], [(b2, .cells (quC y).toArray 122 (0, 0))]]⟩ (quClean o, IntKind.i64.wrap (IntKind.i16.wrap (IntKind.u16.wrap (s - (quClean o).next)))) ⟨hs, by omega, by omega⟩ (fun a F => F.only [5, 1, 2, 4] rfl) (by repeat (first | exact .refl _ | apply sC2 | apply sC1)) ?_)
 rintro ⟨y, d⟩ ⟨hy, hd⟩
 dsimp only at hy hd ⊢
 have hy1 := hy.b.h
 have hy2 := hy.c
 by_cases hlt : d < 0
 ·refine gR 7 rfl ?_
  refine g_ifT rfl (dqT (by omega)) (gR 7 rfl (g_ld1 1 rfl rfl (qu_heard trivial) (g_v (fun a w F M R r => o_quo (F.e rfl) (F.e rfl) (by omega) rfl r) (gR 1 rfl (g_st1 1 rfl rfl rfl rfl rfl rfl (gR 4 rfl (g_ld1 1 rfl rfl rfl (g_sub rfl rfl (w_i64 (by omega) (by omega)) (g_v (fun a w F M R r => o_max (F.e rfl) (F.e rfl) r) (gR 1 rfl (g_st1 1 rfl rfl rfl rfl rfl rfl (gR 5 rfl (g_add rfl rfl (w_i64 (by omega) (by omega)) (gR 2 rfl ?_))))))))))))))
  exact g_next ({ y with heard := IntKind.u8.wrap (y.heard.tdiv 2), cnt := if y.cnt - 1 < 0 then 0 else y.cnt - 1 }, d + 1) ⟨⟨⟨u8_bd _, by dsimp only;split <;> omega, hy.b.r⟩, by dsimp only;split <;> omega⟩, by omega, by omega⟩ (by dsimp only;omega) (fun a F => F.only [5, 1, 2, 4] rfl) (by (try dsimp only);repeat (first | exact .refl _ | with_reducible exact sC0 _ | with_reducible apply sC2 | apply sC1))
 refine gR 7 rfl (g_ifF rfl (dqF (by omega)) (gR 2 rfl (g_outX (gR 4 rfl (g_loop (ι := QuaV × Int) ⟨fun (y, d) => d.toNat, fun (y, d) => SmQu y ∧ d ≤ 8, fun (y, d) => [(5, .int .i64 d), (1, .int .u16 s), (2, .pointer (some ⟨b2, 0, none⟩)), (4, .pointer (some ⟨b4, 0, none⟩))], fun (y, d) => [[(b4, .cells [Value.bool false, Value.int .u8 0, Value.int .i64 0, Value.int .u16 0, Value.int .i64 0].toArray 122 (0, 0))], [(b2, .cells (quC y).toArray 122 (0, 0))]]⟩ (y, d) ⟨hy, by omega⟩ (fun a F => F.only [5, 1, 2, 4] rfl) (by repeat (first | exact .refl _ | apply sC2 | apply sC1)) ?_)))))
 rintro ⟨y, d⟩ ⟨hy, hd⟩
 dsimp only at hy hd ⊢
 have hy1 := hy.b.h
 have hy2 := hy.c
 by_cases hlt : 0 < d
 ·refine gR 7 rfl ?_
  refine g_ifT rfl (dqT (by omega)) (gR 5 rfl (g_ldA 1 rfl rfl (qu_all trivial) (g_call rfl rfl (fun w M => rqadd_c _ ‹_› _ (by omega) (by omega) _) ?_)))
  refine g_stA 1 rfl rfl (qu_len trivial) (qu_one _) rfl (put_all (by rw [qu_len trivial];first | rfl | rw [qu_len ‹_›])) rfl ?_
  exact gR 5 rfl (g_sub rfl rfl (w_i64 (by omega) (by omega)) (gR 2 rfl (g_next (addQ y 0, d - 1) ⟨hy.add 0, by omega⟩ (by dsimp only;omega) (fun a F => F.only [5, 1, 2, 4] rfl) (by (try dsimp only);repeat (first | exact .refl _ | with_reducible exact sC0 _ | with_reducible apply sC2 | apply sC1)))))
 refine gR 7 rfl (g_ifF rfl (dqF (by omega)) (gR 2 rfl (g_outX (gR 4 rfl (g_ldA 1 rfl rfl (qu_all trivial) (g_call rfl rfl (fun w M => rqadd_c _ ‹_› _ (by omega) (by omega) _) ?_))))))
 refine g_stA 1 rfl rfl (qu_len trivial) (qu_one _) rfl (put_all (by rw [qu_len trivial];first | rfl | rw [qu_len ‹_›])) rfl ?_
 refine gR 5 rfl (g_add rfl rfl rfl (gR 1 rfl (g_st1 1 rfl rfl rfl rfl rfl rfl (gR 4 rfl (g_ldA 1 rfl rfl rfl ?_)))))
 refine g_stA 0 rfl rfl rfl rfl rfl rfl rfl ?_
 refine gR 3 rfl (g_retC 0 rfl rfl rfl rfl rfl fun w M => ?_)
 have ha := hy.add 1
 exact ⟨{ addQ y 1 with next := IntKind.u16.wrap (s + 1) }, ⟨⟨ha.b.h, ha.b.c, ha.b.r⟩, ha.c⟩, rfl, M.ext⟩
theorem rqmissed_c (o : QuaV) (hb : BdQu o) (W : World) : Cal Tryz.prog 140 [.agg (quC o).toArray].toArray W fun r w' => PhQ r W w' := by
 have hs := SmQu.clean hb
 have ha := hs.add 0
 refine g_start (n := 20) (S := []) fldT_ok slcT_ok Tryz.func140 rfl rfl rfl (gR 2 rfl (g_box rfl rfl fun b1 => g_alloc fun b2 => gR 4 rfl (g_ldA 1 rfl rfl (qu_all trivial) (g_call rfl rfl (fun w M => rqclean_c _ ‹_› _) ?_))))
 refine g_stA 1 rfl rfl (qu_len trivial) (qu_one _) rfl (put_all (by rw [qu_len trivial];first | rfl | rw [qu_len ‹_›])) rfl ?_
 refine gR 6 rfl (g_ld1 1 rfl rfl (qu_known trivial) (gR 3 rfl (g_if rfl (fun h1 => ?_) (fun h1 => ?_))))
 ·replace h1 := false_of_not h1
  refine gR 2 rfl (g_ldA 1 rfl rfl (qu_all trivial) ?_)
  refine g_stA 0 rfl rfl rfl rfl rfl rfl rfl ?_
  exact gR 4 rfl (g_retC 0 rfl rfl rfl rfl rfl fun w M => ⟨quClean o, hs, rfl, M.ext⟩)
 ·replace h1 := true_of_not h1
  refine gR 4 rfl (g_ldA 1 rfl rfl (qu_all trivial) (g_call rfl rfl (fun w M => rqadd_c _ ‹_› _ (by omega) (by omega) _) ?_))
  refine g_stA 1 rfl rfl (qu_len trivial) (qu_one _) rfl (put_all (by rw [qu_len trivial];first | rfl | rw [qu_len ‹_›])) rfl ?_
  refine gR 5 rfl (g_ld1 1 rfl rfl (qu_next trivial) (g_add rfl rfl rfl (gR 1 rfl (g_st1 1 rfl rfl rfl rfl rfl rfl (gR 6 rfl (g_ld1 1 rfl rfl rfl (gR 3 rfl (g_if rfl (fun h2 => ?_) (fun h2 => ?_)))))))))
  ·replace h2 := dqU h2
   refine gR 2 rfl (g_v (fun a w F M R r => o_build F rfl rfl r) ?_)
   refine g_stA 0 rfl rfl rfl rfl rfl rfl rfl ?_
   exact gR 4 rfl (g_retC 0 rfl rfl rfl rfl rfl fun w M => ⟨qu0, ⟨BdQu.zero, by decide⟩, rfl, M.ext⟩)
  ·replace h2 := dqV h2
   refine gR 4 rfl (g_ldA 1 rfl rfl rfl ?_)
   refine g_stA 0 rfl rfl rfl rfl rfl rfl rfl ?_
   exact gR 3 rfl (g_retC 0 rfl rfl rfl rfl rfl fun w M => ⟨{ addQ (quClean o) 0 with next := IntKind.u16.wrap ((addQ (quClean o) 0).next + 1) }, ⟨⟨ha.b.h, ha.b.c, ha.b.r⟩, ha.c⟩, rfl, M.ext⟩)
theorem rqreport_c (o : QuaV) (hb : BdQu o) (c : Int) (hc : -9223372036854775808 ≤ c ∧ c ≤ 9223372036854775807) (W : World) : Cal Tryz.prog 141 [.agg (quC o).toArray, .int .i64 c].toArray W fun r w' => PhQ r W w' := by
 have hs := SmQu.clean hb
 refine g_start (n := 20) (S := []) fldT_ok slcT_ok Tryz.func141 rfl rfl rfl (gR 2 rfl (g_box rfl rfl fun b2 => g_alloc fun b4 => gR 4 rfl (g_ldA 1 rfl rfl (qu_all trivial) (g_call rfl rfl (fun w M => rqclean_c _ ‹_› _) ?_))))
 refine g_stA 1 rfl rfl (qu_len trivial) (qu_one _) rfl (put_all (by rw [qu_len trivial];first | rfl | rw [qu_len ‹_›])) rfl ?_
 refine gR 6 rfl (g_ld1 1 rfl rfl (qu_known trivial) (gR 1 rfl (g_split 9 rfl (fun h1 => ?_) (fun h1 => ?_))))
 ·refine gR 4 rfl (g_split 13 rfl (fun h2 => ?_) (fun h2 => ?_))
  ·replace h2 := dqU h2
   refine gR 5 rfl (g_if rfl (fun h3 => ?_) (fun h3 => ?_))
   ·replace h3 := dqU h3
    refine gR 3 rfl (g_st1 1 rfl rfl rfl rfl rfl rfl (gR 4 rfl (g_ldA 1 rfl rfl rfl ?_)))
    refine g_stA 0 rfl rfl rfl rfl rfl rfl rfl ?_
    exact gR 3 rfl (g_retC 0 rfl rfl rfl rfl rfl fun w M => ⟨{ quClean o with rep := c }, ⟨⟨hs.b.h, hs.b.c, hc⟩, hs.c⟩, rfl, M.ext⟩)
   ·replace h3 := dqV h3
    refine gR 4 rfl (g_ldA 1 rfl rfl (qu_all trivial) ?_)
    refine g_stA 0 rfl rfl rfl rfl rfl rfl rfl ?_
    exact gR 3 rfl (g_retC 0 rfl rfl rfl rfl rfl fun w M => ⟨quClean o, hs, rfl, M.ext⟩)
  ·replace h2 := dqV h2
   refine gR 10 rfl (g_ldA 1 rfl rfl (qu_all trivial) ?_)
   refine g_stA 0 rfl rfl rfl rfl rfl rfl rfl ?_
   exact gR 3 rfl (g_retC 0 rfl rfl rfl rfl rfl fun w M => ⟨quClean o, hs, rfl, M.ext⟩)
 ·refine gR 14 rfl (g_ldA 1 rfl rfl (qu_all trivial) ?_)
  refine g_stA 0 rfl rfl rfl rfl rfl rfl rfl ?_
  exact gR 3 rfl (g_retC 0 rfl rfl rfl rfl rfl fun w M => ⟨quClean o, hs, rfl, M.ext⟩)
def di0 : DisV := ⟨0, 0⟩
def dvV (d : DstV) : Value := .agg (dvC d).toArray
def diV (d : DisV) : Value := .agg (diC d).toArray
theorem seqE_c {bt : Nat} {p : Option Addr} {len cap k : Nat} {xs : List Int} (W : World) (hT : TapeS W bt p len xs) (hb : W.heap[bt]? = some (tobj p len cap k)) :
  Cal Tryz.prog 57 [.pointer (some ⟨bt, 0, none⟩)].toArray W fun v w' => ∃ x k', v = .int .u16 x ∧ Mem [bt] W w' [(bt, tobj p len cap k')] := by
 have n1 := nxV_bd xs k (n := 6) (by omega)
 exact g_startB (n := 7) [bt] hb (by simp) fldT_ok slcT_ok Tryz.func57 rfl rfl rfl (gR 8 rfl (g_callT1 0 rfl rfl rfl (fun w M => next_c _ (by omega) (by omega) w (hT.later M.ext) (M.at_ _ (nthO_mem (i := 0) rfl))) rfl (g_sub rfl rfl (w_i64 (by omega) (by omega)) (g_conv rfl rfl (gR 4 rfl (g_ret1 rfl rfl rfl fun w M => ⟨_, _, rfl, M⟩))))))
theorem costE_c {bt : Nat} {p : Option Addr} {len cap k : Nat} {xs : List Int} (W : World) (hT : TapeS W bt p len xs) (hb : W.heap[bt]? = some (tobj p len cap k)) :
  Cal Tryz.prog 230 [.pointer (some ⟨bt, 0, none⟩)].toArray W fun v w' => ∃ x k', v = .int .i64 x ∧ (0 ≤ x ∧ x ≤ 65534) ∧ Mem [bt] W w' [(bt, tobj p len cap k')] := by
 have n1 := nxV_bd xs k (n := 6) (by omega)
 have n2 := nxV_bd xs (nxK xs k) (n := 4) (by omega)
 have n3 := nxV_bd xs (nxK xs k) (n := 600) (by omega)
 have n4 := nxV_bd xs (nxK xs k) (n := 30) (by omega)
 refine g_startB (n := 18) [bt] hb (by simp) fldT_ok slcT_ok Tryz.func230 rfl rfl rfl (gR 9 rfl (g_callT1 0 rfl rfl rfl (fun w M => next_c _ (by omega) (by omega) w (hT.later M.ext) (M.at_ _ (nthO_mem (i := 0) rfl))) rfl (gR 9 rfl (g_if rfl (fun h1 => ?_) (fun h1 => ?_)))))
 ·replace h1 := dqU h1
  exact gR 3 rfl (g_callT1 0 rfl rfl rfl (fun w M => next_c _ (by omega) (by omega) w (hT.later M.ext) (M.at_ _ (nthO_mem (i := 0) rfl))) rfl (gR 6 rfl (g_ret1 rfl rfl rfl fun w M => ⟨_, _, rfl, by omega, M⟩)))
 ·replace h1 := dqV h1
  refine gR 6 rfl (g_if rfl (fun h2 => ?_) (fun h2 => ?_))
  ·replace h2 := dqU h2
   exact gR 3 rfl (g_callT1 0 rfl rfl rfl (fun w M => next_c _ (by omega) (by omega) w (hT.later M.ext) (M.at_ _ (nthO_mem (i := 0) rfl))) rfl (g_sub rfl rfl (w_i64 (by omega) (by omega)) (gR 6 rfl (g_ret1 rfl rfl rfl fun w M => ⟨_, _, rfl, by omega, M⟩))))
  ·replace h2 := dqV h2
   exact gR 6 rfl (g_callT1 0 rfl rfl rfl (fun w M => next_c _ (by omega) (by omega) w (hT.later M.ext) (M.at_ _ (nthO_mem (i := 0) rfl))) rfl (g_mul rfl rfl (w_i64 (by omega) (by omega)) (g_add rfl rfl (w_i64 (by omega) (by omega)) (gR 4 rfl (g_ret1 rfl rfl rfl fun w M => ⟨_, _, rfl, by omega, M⟩)))))
theorem distE_c {bt : Nat} {p : Option Addr} {len cap k : Nat} {xs : List Int} (W : World) (hT : TapeS W bt p len xs) (hb : W.heap[bt]? = some (tobj p len cap k)) :
  Cal Tryz.prog 143 [.pointer (some ⟨bt, 0, none⟩)].toArray W fun v w' => ∃ x k', v = diV x ∧ (0 ≤ x.met ∧ x.met ≤ 65534) ∧ Mem [bt] W w' [(bt, tobj p len cap k')] := by
 refine fn_ofM (n := 8) [bt] Tryz.func143 rfl rfl rfl ?_
 intro a w F M hwW
 replace M := M.came hwW hb (by simp) (by simp)
 refine c_seq (c_region ?_)
 (refine sD F (o_alloc M ?_);clear F M;intro b2 w M a F)
 with_reducible refine l_nil (q_then (c_seq (c_region ?_)))
 refine sD F (o_move (F.e rfl) ?_);clear F a;intro a F
 (refine sD F (o_call (F.e rfl) (F.evs rfl) (Cal.mono (seqE_c _ (hT.later M.ext) (M.heap (.there .here)) ) ?_));clear F;clear a;have M0 := M;clear M;rintro _ w ⟨x, k1, rfl, N⟩ a F)
 replace M := M0.turn1 N (.there .here)
 clear M0 N
 refine sD F (o_move (F.e rfl) ?_);clear F a;intro a F
 (refine sD F (o_call (F.e rfl) (F.evs rfl) (Cal.mono (costE_c _ (hT.later M.ext) (M.heap (.there .here)) ) ?_));clear F;clear a;have M0 := M;clear M;rintro _ w ⟨y, k2, rfl, hy, N⟩ a F)
 replace M := M0.turn1 N (.there .here)
 clear M0 N
 refine sD F (o_build F rfl rfl ?_);clear F a;intro a F
 (refine stepN rfl F (o_storeA M (F.e rfl) (F.e rfl) (by rfl) (by rfl) (by repeat constructor) (by rfl) (by repeat constructor) ?_);clear F M;intro w M a F)
 with_reducible refine l_nil (q_then (c_ret ?_))
 exact p_ret F rfl (.cons (.cell (F.e rfl) (run_loadVar_agg TAgg.h (M.heap (by repeat constructor)) rfl)) .nil) ⟨⟨x, y⟩, k2, rfl, hy, M.sub (.cons _ (.refl _))⟩
def tabTo : List Int := [128, 128, 64, 0]
theorem tabTo_bd (i : Nat) : 0 ≤ tabTo.getD i 0 ∧ tabTo.getD i 0 ≤ 128 := by
 rcases Nat.lt_or_ge i 4 with h | h
 ·have : ∀ i : Fin 4, 0 ≤ tabTo.getD i.val 0 ∧ tabTo.getD i.val 0 ≤ 128 := by decide
  exact this ⟨i, h⟩
 ·rw [List.getD_eq_getElem?_getD, List.getElem?_eq_none (by simpa [tabTo] using h)]
  simp
def zr16 : List Int := [0, 0, 0, 0, 0, 0, 0, 0, 0, 0, 0, 0, 0, 0, 0, 0]
theorem zr16_is : IsIP zr16 := ⟨rfl, by intro x hx;simp [zr16] at hx;omega⟩
theorem dv_buildT {z : List Int} (hz : IsIP z) (n e : Int) : putAll [(0, 17), (17, 17), (34, 1)] dvZ [(0, pfC z n), (2, [.int .u64 e])] = some (dvC ⟨z, n, zr16, 0, e⟩) := by
 obtain ⟨z0, z1, z2, z3, z4, z5, z6, z7, z8, z9, z10, z11, z12, z13, z14, z15, ez⟩ := len16 hz.len
 subst ez
 rfl
theorem zero_valid : validP zr16 0 = true := by decide
theorem toE_c {bt : Nat} {p : Option Addr} {len cap k : Nat} {xs : List Int} (W : World) (hT : TapeS W bt p len xs) (hb : W.heap[bt]? = some (tobj p len cap k)) :
  Cal Tryz.prog 29 [.pointer (some ⟨bt, 0, none⟩)].toArray W fun v w' => ∃ x k', v = dvV x ∧ IsDv x ∧ validT x = true ∧ Mem [bt] W w' [(bt, tobj p len cap k')] := by
 refine fn_ofM (n := 21) [bt] Tryz.func29 rfl rfl rfl ?_
 intro a w F M hwW
 replace M := M.came hwW hb (by simp) (by simp)
 refine c_seq (c_region ?_)
 (refine sD F (o_alloc M ?_);clear F M;intro b2 w M a F)
 with_reducible refine l_nil (q_then (c_seq (c_region ?_)))
 refine sD F (o_move (F.e rfl) ?_);clear F a;intro a F
 (refine sD F (o_call (F.e rfl) (F.evs rfl) (Cal.mono (wipD_c _ (hT.later M.ext) (M.heap (.there .here)) ) ?_));clear F;clear a;have M0 := M;clear M;rintro _ w ⟨rfl, N⟩ a F)
 replace M := M0.turn1 N (.there .here)
 clear M0 N
 have hip := wipV_is xs k
 generalize wipV xs k = ip at *
 generalize wipK xs k = k1 at *
 skip
 (refine sD F (o_buildSlice F M rfl rfl rfl rfl ?_);clear F M;intro b6 w M a F)
 refine sD F (o_move (F.e rfl) ?_);clear F a;intro a F
 (refine sD F (o_call (F.e rfl) (F.evs rfl) (Cal.mono (next_c 4 (by omega) (by omega) _ (hT.later M.ext) (M.heap (.there (.there .here))) ) ?_));clear F;clear a;have M0 := M;clear M;rintro _ w ⟨rfl, N⟩ a F)
 replace M := M0.turn1 N (.there (.there .here))
 clear M0 N
 have v1 := nxV_bd xs k1 (n := 4) (by omega)
 have n1 := nth_tab (k := .i64) (xs := tabTo) v1.1 (by simpa [tabTo] using v1.2)
 have hbd := tabTo_bd (nxV xs k1 4).toNat
 (refine sD F (o_indexSl (F.e rfl) (F.e rfl) (by omega) (by omega) ?_);clear F a;intro a F)
 (refine sD F (o_load1 M (F.e rfl) (by repeat constructor) (n1) ?_);clear F a;intro a F)
 generalize tabTo.getD (nxV xs k1 4).toNat 0 = n at *
 generalize nxV xs k1 4 = q at *
 generalize nxK xs k1 = k2 at *
 have hcl : clampB n = n := clamp_in hbd.1 hbd.2
 (refine sD F (o_call (F.e rfl) (F.evs rfl) (Cal.mono (Cal.to (rmask_c ip hip n _) (by rw [hcl])) ?_));clear F;clear a;rintro _ w ⟨rfl, hE⟩ a F;replace M := M.later hE;clear hE)
 have hmi := mask_isIP hip n
 have hvm := valid_mask hip hbd.1 hbd.2
 generalize maskI ip n = mip at *
 refine sD F (o_move (F.e rfl) ?_);clear F a;intro a F
 (refine sD F (o_call (F.e rfl) (F.evs rfl) (Cal.mono (eui_c _ (hT.later M.ext) (M.heap (.there (.there .here))) ) ?_));clear F;clear a;have M0 := M;clear M;rintro _ w ⟨e, k3, rfl, he, N⟩ a F)
 replace M := M0.turn1 N (.there (.there .here))
 clear M0 N
 have hd : IsDv ⟨mip, n, zr16, 0, e⟩ := ⟨hmi, zr16_is⟩
 (refine sD F (o_build F rfl (dv_buildT hmi n e) ?_);clear F a;intro a F)
 skip
 (refine sD F (o_alloc M ?_);clear F M;intro b3 w M a F)
 (refine stepN rfl F (o_storeA M (F.e rfl) (F.e rfl) (dv_len hd) (dv_one _)  (by repeat constructor)  (put_all (by rw [dv_len hd];rfl)) (by repeat constructor) ?_);clear F M;intro w M a F)
 with_reducible refine l_nil (q_then (c_seq (c_seq (c_region ?_))))
 refine sD F (o_move (F.e rfl) ?_);clear F a;intro a F
 (refine sD F (o_call (F.e rfl) (F.evs rfl) (Cal.mono (boolE_c 3 (by omega) (by omega) _ (hT.later M.ext) (M.heap (.there (.there (.there .here)))) ) ?_));clear F;clear a;have M0 := M;clear M;rintro _ w ⟨c, k4, rfl, N⟩ a F)
 replace M := M0.turn1 N (.there (.there (.there .here)))
 clear M0 N
 cases c
 ·have g0 := dv_all hd
  with_reducible refine l_nil (q_then ?_)
  refine c_false F rfl rfl ?_
  with_reducible refine c_skip (q_then (c_seq (c_region ?_)))
  refine sD F (o_loadA M (F.e rfl) (by repeat constructor) (by first | assumption | rfl) ?_);clear F a;intro a F
  (refine stepN rfl F (o_storeA M (F.e rfl) (F.e rfl) (dv_len hd) (dv_one _)  (by repeat constructor)  (put_all (by rw [dv_len hd];rfl)) (by repeat constructor) ?_);clear F M;intro w M a F)
  with_reducible refine l_nil (q_then (c_ret ?_))
  exact p_ret F rfl (.cons (.cell (F.e rfl) (run_loadVar_agg TAgg.h (M.heap (by repeat constructor)) g0)) .nil) ⟨_, k4, rfl, hd, by simp [validT, hvm, zero_valid];omega, M.sub (by repeat (first | exact List.Sublist.refl _ | apply sC1))⟩
 ·with_reducible refine l_nil ?_
  with_reducible refine q_then ?_
  refine c_true F rfl rfl (c_region ?_)
  refine sD F (o_move (F.e rfl) ?_);clear F a;intro a F
  (refine sD F (o_call (F.e rfl) (F.evs rfl) (Cal.mono (wprefix_c _ (hT.later M.ext) (M.heap (.there (.there (.there .here)))) ) ?_));clear F;clear a;have M0 := M;clear M;rintro _ w ⟨rfl, N⟩ a F)
  replace M := M0.turn1 N (.there (.there (.there .here)))
  clear M0 N
  have hpi : IsIP (maskI (wpA xs k4) (wpN xs k4)) := mask_isIP (wipV_is _ _) _
  have hpb := wpN_bd xs k4
  have hpv := valid_mask (wipV_is xs (wpK0 xs k4)) hpb.1 hpb.2
  change validP (maskI (wpA xs k4) (wpN xs k4)) (wpN xs k4) = true at hpv
  generalize maskI (wpA xs k4) (wpN xs k4) = sip at *
  generalize wpN xs k4 = sn at *
  generalize wpK xs k4 = k5 at *
  have hd2 : IsDv ⟨mip, n, sip, sn, e⟩ := ⟨hmi, hpi⟩
  have g0 := dv_all hd2
  refine sD F (o_fieldAddr (F.e rfl) ?_);clear F a;intro a F
  (refine stepN rfl F (o_storeA M (F.e rfl) (F.e rfl) (pfC_len hpi.len sn) (one_pf _ _)  (by repeat constructor)  (dv_put_src hd hpi sn) (by repeat constructor) ?_);clear F M;intro w M a F)
  replace M : Mem [bt] W w [(b3, .cells (dvC ⟨mip, n, sip, sn, e⟩).toArray 67 (0, 0)), (b6, _), (b2, _), (bt, _)] := M
  with_reducible refine l_nil (q_then (c_seq (c_region ?_)))
  refine sD F (o_loadA M (F.e rfl) (by repeat constructor) (by first | assumption | rfl) ?_);clear F a;intro a F
  (refine stepN rfl F (o_storeA M (F.e rfl) (F.e rfl) (dv_len hd2) (dv_one _)  (by repeat constructor)  (put_all (by rw [dv_len hd2];rfl)) (by repeat constructor) ?_);clear F M;intro w M a F)
  with_reducible refine l_nil (q_then (c_ret ?_))
  exact p_ret F rfl (.cons (.cell (F.e rfl) (run_loadVar_agg TAgg.h (M.heap (by repeat constructor)) g0)) .nil) ⟨_, k5, rfl, hd2, by simp [validT, hvm, hpv];omega, M.sub (by repeat (first | exact List.Sublist.refl _ | apply sC1))⟩
end Go.Proofs.YtfhkmgcalcfibaaGreat
namespace Go.Proofs.YtfhkmgcalcfibaaGreat
open Go.RowKit
section
variable {c : Cx} {Q : Exit → Act → World → Prop} {ks : List KF} {fr : List (Nat × Value)} {x : RX} {rest : List Oper} {k : Nat} {xs : List (Nat × XP)} {E : ESt} {d : Nat} {ty : TypeId} {pos : String} {af : Array Edge}
theorem xs_cons {p : XP} {h0 : Nat} {Vs : List Pred} (hlen : Vs.length = k) (hx : ∀ q ∈ xs, Vs[q.1]? = some (q.2.pred h0)) : ∀ q ∈ (k, p) :: xs, (Vs ++ [p.pred h0])[q.1]? = some (q.2.pred h0) := fun q hq => by
 rcases List.mem_cons.1 hq with rfl | hq
 ·rw [← hlen];simp
 ·exact xs_app hx q hq
theorem xs_slot {a : Act} {w : World} {o : Oper} {j n0 t2 : Nat} {p : XP} {Vs : List Pred} {ol : List Oper} (hx : ∀ q ∈ xs, Vs[q.1]? = some (q.2.pred n0)) (hj : (j, p) ∈ xs) (hd : (depsOf o).contains j = true) (ht : (ol.toArray[j]?).bind (·.dst) = some t2)
  (D : ∀ j' ∈ depsOf o, ∀ U, Vs[j']? = some U → U (slotV ol.toArray j' a) w) : p.pred n0 (a.eval (.tmp t2)) w := by
 have h := D j (by simpa using hd) _ (hx _ hj)
 unfold slotV at h
 rw [ht] at h
 exact h
theorem fe_ixX (j : Nat) {t e : TypeId} {len sz t2 : Nat} {y : Operand} {ik : IntKind} {n : Int} {o : Obj} [ht : TU c.P t (.slice e)] [hs : TSz c.P e sz] (hj : (j, XP.nw len o) ∈ xs) (hy : Ev fr y = some (.int ik n)) (h0 : 0 ≤ n) (h1 : n < len)
  (hk : FE c Q ks x (k + 1) rest fr ((k, .pt (0 + n.toNat * sz) o) :: xs) E) (hlt : flo x.Ef x.Rl [] x.n k (.indexAddr t (.tmp t2) y) = true := by rfl) (hnd : notIn d fr = true := by rfl)
  (hd : (depsOf ⟨some d, .indexAddr t (.tmp t2) y, ty, pos, af, none⟩).contains j = true := by rfl) (ht2 : (x.ol.toArray[j]?).bind (·.dst) = some t2 := by rfl) : FE c Q ks x k (⟨some d, .indexAddr t (.tmp t2) y, ty, pos, af, none⟩ :: rest) fr xs E := fun hE a w Vs hM hB hok hx => by
 intro hlen
 refine mX (V := (XP.pt (0 + n.toNat * sz) o).pred w.heap.size) hok hlt hnd (XP.stays hB _) (fun a' w' F' E' D' => ?_) (hk (fun sl l h q hq => Nat.lt_succ_of_lt (hE sl l h q hq)) a w _ hM hB hok (xs_cons hlen hx)) hlen
 obtain ⟨b, hv, hb, ho⟩ := xs_slot hx hj hd ht2 D'
 exact o_indexSl hv (F'.e hy) h0 h1 ⟨Ext.refl _ _, b, rfl, hb, ho⟩
theorem fe_ldX (j : Nat) {t t2 off : Nat} {cs : List Value} {t' : TypeId} {fz : Nat × Nat} {v : Value} [ht : TOne c.P t] (hj : (j, XP.pt off (.cells cs.toArray t' fz)) ∈ xs) (hv : nth cs off = some v)
  (hk : FE c Q ks x (k + 1) rest ((d, v) :: fr) xs E) (hlt : flo x.Ef x.Rl [] x.n k (.load t (.tmp t2)) = true := by rfl) (hd0 : Nat.blt d c.n = true := by rfl)
  (hd : (depsOf ⟨some d, .load t (.tmp t2), ty, pos, af, none⟩).contains j = true := by rfl) (ht2 : (x.ol.toArray[j]?).bind (·.dst) = some t2 := by rfl) : FE c Q ks x k (⟨some d, .load t (.tmp t2), ty, pos, af, none⟩ :: rest) fr xs E := fun hE a w Vs hM hB hok hx => by
 intro hlen
 refine mKX hok hlt hd0 (fun a' w' F' E' D' => ?_) (hk (fun sl l h q hq => Nat.lt_succ_of_lt (hE sl l h q hq)) a w _ hM hB hok (xs_app hx)) hlen
 obtain ⟨b, hp, hb, ho⟩ := xs_slot hx hj hd ht2 D'
 exact o_loadH1 hp ho hv ⟨Ext.refl _ _, rfl⟩
end
attribute [local irreducible] OpTo wpListIn Code.wpIn MW Cal
theorem rep_el {n : Int} (h0 : 0 ≤ n) (h1 : n < 5) : ∃ c : Int, nth [Value.int .i64 256, .int .i64 256, .int .i64 342, .int .i64 512, .int .i64 65535] (0 + n.toNat * 1) = some (.int .i64 c) ∧ 0 ≤ c ∧ c ≤ 65535 := by
 rcases (by omega : n = 0 ∨ n = 1 ∨ n = 2 ∨ n = 3 ∨ n = 4) with rfl | rfl | rfl | rfl | rfl
 ·exact ⟨256, rfl, by decide, by decide⟩
 ·exact ⟨256, rfl, by decide, by decide⟩
 ·exact ⟨342, rfl, by decide, by decide⟩
 ·exact ⟨512, rfl, by decide, by decide⟩
 ·exact ⟨65535, rfl, by decide, by decide⟩
def PhQT (p : Option Addr) (len cap bt : Nat) (r : Value) (W w' : World) : Prop := ∃ o k', SmQu o ∧ r = .agg (quC o).toArray ∧ Mem [bt] W w' [(bt, tobj p len cap k')]
theorem wquality_c {bt : Nat} {p : Option Addr} {len cap k : Nat} {xs : List Int} (W : World) (hT : TapeS W bt p len xs) (hb : W.heap[bt]? = some (tobj p len cap k)) :
  Cal Tryz.prog 59 [.pointer (some ⟨bt, 0, none⟩)].toArray W fun r w' => PhQT p len cap bt r W w' := by
 refine g_startB (n := 38) [bt] hb (by simp) fldT_ok slcT_ok Tryz.func59 rfl rfl rfl (gR 2 rfl (g_alloc fun b2 => gR 4 rfl (g_v (fun a w F M R r => o_build F rfl rfl r) (gR 1 rfl ?_))))
 refine g_callT (ι := Int × Nat) 1 (fun j => .int .u16 j.1) (fun _ => True) (fun j => tobj p len cap j.2) (fun _ => []) rfl rfl rfl (fun w M => Cal.mono (seqE_c w (hT.later M.ext) (M.at_ _ (nthO_mem (i := 1) rfl))) fun r w' h => by
  obtain ⟨x, k', q, N⟩ := h
  exact ⟨(x, k'), q, trivial, by simpa using N⟩) (fun _ => rfl) ?_
 rintro ⟨s, k1⟩ -
 dsimp only [List.nil_append]
 refine g_callN (ι := QuaV) (fun o => .agg (quC o).toArray) SmQu (fun _ => []) rfl rfl (fun w M => Cal.mono (rqhello_c qu0 BdQu.zero s w) fun r w' h => by
  obtain ⟨o, ho, q, E⟩ := h
  exact ⟨o, q, ho, Mem.nil E⟩) ?_
 intro y hy
 dsimp only [List.nil_append]
 have n9 := nxV_bd xs k1 (n := 9) (by omega)
 refine g_alloc fun b3 => g_stA 0 rfl rfl (qu_len trivial) (qu_one _) rfl (put_all (by rw [qu_len trivial];first | rfl | rw [qu_len ‹_›])) rfl ?_
 refine gR 6 rfl (g_callT1 2 rfl rfl rfl (fun w M => next_c _ (by omega) (by omega) w (hT.later M.ext) (M.at_ _ (nthO_mem (i := 2) rfl))) rfl (gR 4 rfl (g_loop (ι := QuaV × Int × Nat) ⟨fun (y, d, k2) => d.toNat, fun (y, d, k2) => SmQu y ∧ d < 9, fun (y, d, k2) => [(4, .int .i64 d), (3, .pointer (some ⟨b3, 0, none⟩)), (0, .pointer (some ⟨bt, 0, none⟩)), (2, .pointer (some ⟨b2, 0, none⟩))], fun (y, d, k2) => [[(b3, Obj.cells (quC y).toArray 122 (0, 0))], [(b2, .cells (quC qu0).toArray 122 (0, 0))], [(bt, tobj p len cap k2)]]⟩ (y, _, _) ⟨hy, by omega⟩ (fun a F => F.only [4, 3, 0, 2] rfl) (by repeat (first | exact .refl _ | apply sC2 | apply sC1)) ?_)))
 clear n9 hy
 rintro ⟨y, d, k2⟩ ⟨hy, hd⟩
 dsimp only at hy hd ⊢
 have hb1 := hy.b
 by_cases hlt : 0 < d
 ·refine gR 7 rfl ?_
  refine g_ifT rfl (dqT (by omega)) (gR 7 rfl (g_callT1 2 rfl rfl rfl (fun w M => bool_c _ (by omega) (by omega) w (hT.later M.ext) (M.at_ _ (nthO_mem (i := 2) rfl))) rfl (gR 2 rfl (g_if rfl (fun h1 => ?_) (fun h1 => ?_)))))
  focus
   replace h1 := dqU h1
   refine gR 1 rfl (g_ldA 0 rfl rfl (qu_all trivial) ?_)
  rotate_left 1
  focus
   replace h1 := dqV h1
   refine gR 1 rfl (g_ldA 0 rfl rfl (qu_all trivial) (gR 1 rfl (g_ld1 0 rfl rfl (qu_next trivial) ?_)))
  rotate_right 1
  ·refine g_callN (ι := QuaV) (fun o => .agg (quC o).toArray) SmQu (fun _ => []) rfl rfl (fun w M => Cal.mono (rqmissed_c y hb1 w) fun r w' h => by
    obtain ⟨o, ho, q, E⟩ := h
    exact ⟨o, q, ho, Mem.nil E⟩) ?_
   intro y2 hy2
   dsimp only [List.nil_append]
   refine g_stA 0 rfl rfl (qu_len trivial) (qu_one _) rfl (put_all (by rw [qu_len trivial];first | rfl | rw [qu_len ‹_›])) rfl ?_
   refine gR 5 rfl (g_sub rfl rfl (w_i64 (by omega) (by omega)) (gR 2 rfl ?_))
   exact g_next (y2, d - 1, _) ⟨hy2, by dsimp only;omega⟩ (by dsimp only;omega) (fun a F => F.only [4, 3, 0, 2] rfl) (by (try dsimp only);repeat (first | exact .refl _ | with_reducible exact sC0 _ | with_reducible apply sC2 | apply sC1))
  ·refine g_callN (ι := QuaV) (fun o => .agg (quC o).toArray) SmQu (fun _ => []) rfl rfl (fun w M => Cal.mono (rqhello_c y hb1 y.next w) fun r w' h => by
    obtain ⟨o, ho, q, E⟩ := h
    exact ⟨o, q, ho, Mem.nil E⟩) ?_
   intro y2 hy2
   dsimp only [List.nil_append]
   refine g_stA 0 rfl rfl (qu_len trivial) (qu_one _) rfl (put_all (by rw [qu_len trivial];first | rfl | rw [qu_len ‹_›])) rfl ?_
   refine gR 5 rfl (g_sub rfl rfl (w_i64 (by omega) (by omega)) (gR 2 rfl ?_))
   exact g_next (y2, d - 1, _) ⟨hy2, by dsimp only;omega⟩ (by dsimp only;omega) (fun a F => F.only [4, 3, 0, 2] rfl) (by (try dsimp only);repeat (first | exact .refl _ | with_reducible exact sC0 _ | with_reducible apply sC2 | apply sC1))
 refine gR 7 rfl (g_ifF rfl (dqF (by omega)) (gR 2 rfl (g_outX (gR 3 rfl (g_cutC (ι := QuaV) ⟨fun y => SmQu y, fun y => [(3, .pointer (some ⟨b3, 0, none⟩)), (0, .pointer (some ⟨bt, 0, none⟩)), (2, .pointer (some ⟨b2, 0, none⟩))], fun y => [[(b3, Obj.cells (quC y).toArray 122 (0, 0))], [(b2, .cells (quC qu0).toArray 122 (0, 0))], [(bt, tobj p len cap k2)]]⟩ ?_ ?_)))))
 ·cases hk : y.known
  ·refine gR 3 rfl ?_
   refine g_ld1 0 rfl rfl (qu_known trivial) (gR 3 rfl (g_ifT rfl (notT ‹_›) ?_))
   refine gR 1 rfl (g_ldA 0 rfl rfl (qu_all trivial) ?_)
   refine g_callN (ι := QuaV) (fun o => .agg (quC o).toArray) SmQu (fun _ => []) rfl rfl (fun w M => Cal.mono (rqhello_c y hb1 0 w) fun r w' h => by
    obtain ⟨o, ho, q, E⟩ := h
    exact ⟨o, q, ho, Mem.nil E⟩) ?_
   intro y2 hy2
   dsimp only [List.nil_append]
   refine g_stA 0 rfl rfl (qu_len trivial) (qu_one _) rfl (put_all (by rw [qu_len trivial];first | rfl | rw [qu_len ‹_›])) rfl ?_
   exact gR 1 rfl (g_join y2 hy2 (fun a F => F.only [3, 0, 2] rfl) (by (try dsimp only);repeat (first | exact .refl _ | with_reducible exact sC0 _ | with_reducible apply sC2 | apply sC1)))
  ·refine gR 3 rfl ?_
   refine g_ld1 0 rfl rfl (qu_known trivial) (gR 3 rfl (g_ifF rfl (notF ‹_›) ?_))
   exact gR 1 rfl (g_join y hy (fun a F => F.only [3, 0, 2] rfl) (by (try dsimp only);repeat (first | exact .refl _ | with_reducible exact sC0 _ | with_reducible apply sC2 | apply sC1)))
 clear hy hb1 hlt hd y
 intro y hy
 have hb1 := hy.b
 dsimp only
 have n5 := nxV_bd xs (nxK xs k2) (n := 5) (by omega)
 obtain ⟨cc, hcc, c0, c1⟩ := rep_el n5.1 n5.2
 refine gR 5 rfl (g_callT1 2 rfl rfl rfl (fun w M => bool_c _ (by omega) (by omega) w (hT.later M.ext) (M.at_ _ (nthO_mem (i := 2) rfl))) rfl (gR 2 rfl (g_if rfl (fun h1 => ?_) (fun h1 => ?_))))
 ·replace h1 := dqU h1
  refine gR 2 rfl (g_ldA 0 rfl rfl (qu_all trivial) (g_stA 1 rfl rfl (qu_len trivial) (qu_one _) rfl (put_all (by rw [qu_len trivial];first | rfl | rw [qu_len ‹_›])) rfl ?_))
  exact gR 4 rfl (g_retC 1 rfl rfl rfl rfl (qu_all trivial) fun w M => ⟨y, _, hy, rfl, M.sub (.cons _ (.cons _ (.refl _)))⟩)
 replace h1 := dqV h1
 refine gR 2 rfl (gR 1 rfl (g_drawE 7 38 [bt] [3, 6] [] [[(bt, tobj p len cap (nxK xs k2))]] [[(b3, Obj.cells (quC y).toArray 122 (0, 0))], [(b2, .cells (quC qu0).toArray 122 (0, 0))]] rfl (by kernel_rfl) (by simpa using List.perm_append_comm (l₁ := [(b3, Obj.cells (quC y).toArray 122 (0, 0)), (b2, .cells (quC qu0).toArray 122 (0, 0))]) (l₂ := [(bt, tobj p len cap (nxK xs k2))])) (by simp) (fe_start ?_)))
 refine fe_v (fun a2 w F M R r => o_loadHA (F.e rfl) (M.at_ _ (.head _)) (show seg (quC y) 0 5 = some (quC y) from rfl) r) (fe_bs rfl rfl rfl rfl (fe_run 60 rfl (fe_opK (v := .int .i64 (nxV xs (nxK xs k2) 5)) (fun _ => [[(b3, Obj.cells (quC y).toArray 122 (0, 0))], [(b2, .cells (quC qu0).toArray 122 (0, 0))], [(bt, tobj p len cap (nxK xs (nxK xs k2)))]]) [] (fun i hi => ?_) ?_)))
 ·exact opf_callK 2 rfl rfl rfl (.head _) (fun w M => next_c 5 (by omega) (by omega) w (hT.later M.ext) (M.at_ _ (nthO_mem (i := 2) rfl))) rfl
 refine fe_run 60 rfl (fe_ixX 1 (.head _) rfl n5.1 (by omega) (fe_ldX 4 (.head _) hcc (fe_run 60 rfl (fe_op (κ := QuaV) (fun _ o => .agg (quC o).toArray) (fun _ o => SmQu o) (fun _ _ => [[(b3, Obj.cells (quC y).toArray 122 (0, 0))], [(b2, .cells (quC qu0).toArray 122 (0, 0))], [(bt, tobj p len cap (nxK xs (nxK xs k2)))]]) [] .any (fun i hi => ?_) (fun _ _ _ _ => trivial) ?_))))
 ·exact opf_callN (fun o : QuaV => .agg (quC o).toArray) (fun o => SmQu o) (fun _ => []) rfl rfl (fun w M => Cal.mono (rqreport_c y hb1 cc (by omega) w) fun r w' h => by
   obtain ⟨o, ho, q, E⟩ := h
   exact ⟨o, q, ho, Mem.nil E⟩)
 refine fe_fin rfl (by rintro i _ q hq;simp at hq;rcases hq with rfl <;> simp) ?_
 rintro ⟨_, o⟩ ⟨_, ho⟩
 refine ⟨_, rfl, ?_⟩
 dsimp only at ho ⊢
 refine g_stA 1 rfl rfl rfl rfl rfl rfl rfl ?_
 exact gR 3 rfl (g_retC 1 rfl rfl rfl rfl rfl fun w M => ⟨o, _, ho, rfl, M.sub (.cons _ (.cons _ (.refl _)))⟩)
end Go.Proofs.YtfhkmgcalcfibaaGreat

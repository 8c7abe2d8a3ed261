/-
  Texts joined: Seat, P8, P9, Q1, Q2, Q3, LibN, Q4, A1, Open, T1, T2, Open2, M0, A2, A3, A4, A5, S0, LibO.
-/
import Derived.Test.YtadnpidadcgdcaaDoorMBack2
import Derived.Test.YtadnpidadcgdcaaDoorCards
import Derived.Test.YtadnpidadcgdcaaDoorTie
import Derived.Laws.MakeOwn
/-! Seat -/
/-
  The seat: what its rows' lists give of memory; a world for the witness.
-/
namespace Go.Proofs.YtadnpidadcgdcaaDoor
set_option linter.unusedVariables false
set_option linter.unusedSimpArgs false
open Go.ChangeShapes Go.WideShapes Go.ChangeAt Go.RowKit

theorem own : ownKnob Tryd.prog.godebug = none := by kernel_rfl
theorem laidOut : laidOutB Tryd.prog = true := by kernel_rfl
theorem seat_GM {W : World} (h : W.ShapedOpen Tryd.prog) : GM W :=
  cell_of_shapedOpen_int (zero := #[.int .i64 0]) (t := 3) h (of_decide_eq_true (by kernel_rfl)) (by kernel_rfl) rfl (by kernel_rfl) (by kernel_rfl) Tryd.underlying3

def seatLaid : List (String × DataW Unit) := [("math/bits.deBruijn32tab", Rows.laid_math_bits_deBruijn32tab), ("math/bits.deBruijn64tab", Rows.laid_math_bits_deBruijn64tab), ("internal/strconv.uint64pow10", Rows.laid_internal_strconv_uint64pow10), ("unicode/utf8.acceptRanges", Rows.laid_unicode_utf8_acceptRanges), ("unicode/utf8.first", Rows.laid_unicode_utf8_first)]
theorem laid_tail {P : Program} {x : String × DataW Unit} {r : List (String × DataW Unit)} {W : World} {ps : List MemPlace} (h : DataW.LaidVars P W (x :: r) ps) : ∃ q, DataW.LaidVars P W r q := by
  obtain ⟨g, t, cs, fuel, p, q, _, _, _, _, h, _⟩ := h
  exact ⟨q, h⟩
theorem tab_of {P : Program} {W : World} {name : String} {k : IntKind} {zs : List Int} {rest : List (String × DataW Unit)} {ps : List MemPlace} {g : Nat} {t e : TypeId} {n : Nat}
    (hg : P.globalNamed name = some g) (hty : (P.globals[g]?).map (·.type) = some t) (ht : P.underlying t = some (.array n e)) (he : P.underlying e = some (.int k)) (hce : P.cellsOf e = 1) (hct : P.cellsOf t = n)
    (h : DataW.LaidVars P W ((name, Lib.tabData k zs) :: rest) ps) : Lib.TabIs P W name k zs := by
  obtain ⟨g', t', cs, fuel, p, q, hg', ht', hvar, hd, _, _⟩ := h
  obtain rfl := Option.some.inj (hg.symm.trans hg')
  obtain rfl := Option.some.inj (hty.symm.trans ht')
  unfold Lib.TabIs
  rw [hvar, ← Lib.cells_of_tab ht he hce hct hd]
def tab64 : List Int := [0, 1, 56, 2, 57, 49, 28, 3, 61, 58, 42, 50, 38, 29, 17, 4, 62, 47, 59, 36, 45, 43, 51, 22, 53, 39, 33, 30, 24, 18, 12, 5, 63, 55, 48, 27, 60, 41, 37, 16, 46, 35, 44, 21, 52, 32, 23, 11, 54, 26, 40, 15, 34, 20, 31, 10, 25, 14, 19, 9, 13, 8, 7, 6]
theorem seat_GT {W : World} (h : laidMetH Tryd.prog seatLaid W) : GT W := by
  have h' : laidMet Tryd.prog seatLaid W := h
  obtain ⟨ps, hl, _, _⟩ := h'
  obtain ⟨q, h2⟩ := laid_tail hl
  have ht : Lib.TabIs Tryd.prog W "math/bits.deBruijn64tab" .u8 tab64 :=
    tab_of (g := 5) (t := 142) (e := 5) (n := 64) (by kernel_rfl) (by kernel_rfl) Tryd.underlying142 Tryd.underlying5 (by kernel_rfl) (by kernel_rfl) (zs := tab64) h2
  exact ht.cell (g := 5) (by kernel_rfl) 15 (by decide)

/-! a world for the witness -/
mutual
def cellsIn : DataW Unit → List Value
  | .lit (.int k n) => [.int k n]
  | .agg ps => cellsInAll ps
  | _ => []
def cellsInAll : List (DataW Unit) → List Value
  | [] => []
  | d :: r => cellsIn d ++ cellsInAll r
end
def relay (d : DataW Unit) : Obj → Obj
  | .cells _ t fz => .cells (cellsIn d).toArray t fz
  | o => o
noncomputable def laidWorld (os : Os) : World :=
  { World.holding Tryd.prog os ⟨#[], #[], []⟩ with heap := ((((((World.holding Tryd.prog os ⟨#[], #[], []⟩).heap.modify 1 (relay Rows.laid_internal_strconv_uint64pow10)).modify 2 (relay Rows.laid_unicode_utf8_first)).modify 3 (relay Rows.laid_unicode_utf8_acceptRanges)).modify 4 (relay Rows.laid_math_bits_deBruijn32tab)).modify 5 (relay Rows.laid_math_bits_deBruijn64tab)) }
theorem laid_met (os : Os) (args : Array Value) : laidMet Tryd.prog seatLaid ((laidWorld os).forCall (fun _ _ => 0) ⟨#[], args, []⟩).memory :=
  laidMet_of_run' 8 (by kernel_rfl) (by kernel_rfl)
end Go.Proofs.YtadnpidadcgdcaaDoor

/-! P8 -/
/-
  address.FormatIP.
-/
namespace Go.Proofs.YtadnpidadcgdcaaDoor
set_option linter.unusedVariables false
set_option linter.unusedSimpArgs false
open Go.RowKit
attribute [local irreducible] OpTo wpListIn Code.wpIn MW Cal

/-- the separator, where one is needed -/
def fsep (bs : List Int) : List Int := if bs ≠ [] ∧ bs.getD (bs.length - 1) 0 ≠ 58 then bs ++ [58] else bs
def inRun (st len i : Nat) : Prop := 2 ≤ len ∧ st ≤ i ∧ i < st + len
instance (st len i : Nat) : Decidable (inRun st len i) := by unfold inRun; infer_instance
def fstep (st len : Nat) (bs : List Int) (x : Nat × Int) : List Int :=
  if inRun st len x.1 then (if x.1 = st then bs ++ [58, 58] else bs) else fsep bs ++ hexI x.2
def fall (st len : Nat) (xs : List (Nat × Int)) : List Int := xs.foldl (fstep st len) []
/-- numbers as bytes -/
def txt (xs : List Int) : List UInt8 := xs.map fun n => UInt8.ofNat n.toNat
def formatI (ip : List Int) : List Int := fall (zall (grps ip)).1 (zall (grps ip)).2.1 (grps ip)
theorem fsep_len (bs : List Int) : bs.length ≤ (fsep bs).length ∧ (fsep bs).length ≤ bs.length + 1 := by
  unfold fsep; split <;> simp
theorem fstep_len (st len : Nat) (bs : List Int) (x : Nat × Int) : (fstep st len bs x).length ≤ bs.length + 5 := by
  unfold fstep
  have h1 := fsep_len bs
  have h2 := hexI_len x.2
  split
  · split <;> simp
  · rw [List.length_append]; omega
theorem fall_len (st len : Nat) : ∀ (xs : List (Nat × Int)) (b : List Int), (xs.foldl (fstep st len) b).length ≤ b.length + 5 * xs.length
  | [], b => by simp
  | x :: xs, b => by
    have h1 := fall_len st len xs (fstep st len b x)
    have h2 := fstep_len st len b x
    simp only [List.foldl_cons, List.length_cons]; omega
theorem zall_bd : ∀ (xs : List (Nat × Int)) (s : Nat × Nat × Nat) (k : Nat), s.1 ≤ k → s.2.1 ≤ k → s.2.2 ≤ k → (∀ i x, xs[i]? = some x → x.1 = k + i) → (xs.foldl zstep s).1 ≤ k + xs.length ∧ (xs.foldl zstep s).2.1 ≤ k + xs.length
  | [], s, k, h1, h2, h3, _ => by simpa using ⟨h1, h2⟩
  | x :: xs, s, k, h1, h2, h3, hx => by
    have e0 := hx 0 x rfl
    have := zall_bd xs (zstep s x) (k + 1) (by unfold zstep; split <;> (try split) <;> simp <;> omega) (by unfold zstep; split <;> (try split) <;> simp <;> omega) (by unfold zstep; split <;> (try split) <;> simp <;> omega) (fun i y hy => by have := hx (i + 1) y (by simpa using hy); omega)
    simp only [List.foldl_cons, List.length_cons]; omega
theorem zeros_bd (ip : List Int) : (zall (grps ip)).1 ≤ 8 ∧ (zall (grps ip)).2.1 ≤ 8 := by
  have := zall_bd (grps ip) (0, 0, 0) 0 (Nat.le_refl _) (Nat.le_refl _) (Nat.le_refl _) (fun i x h => by
    simp only [grps, List.getElem?_map, Option.map_eq_some_iff] at h
    obtain ⟨a, ha, rfl⟩ := h
    have := (List.getElem?_eq_some_iff.1 ha).2
    simp at this ⊢; omega)
  simpa [grps, zall] using this
theorem nth_last {bs : List Int} {junk : List Value} {off : Nat} (h : 0 < bs.length) (ho : off = bs.length - 1) : nth (bs.map (Value.int .u8) ++ junk) off = some (.int .u8 (bs.getD (bs.length - 1) 0)) := by
  subst ho
  have hl : bs.length - 1 < bs.length := by omega
  rw [nth_spec]; simp [List.getElem?_append, hl]

theorem src2 (P : Program) (w : World) : SrcOf P w (.string ⟨#[58, 58]⟩) 2 1 [.int .u8 58, .int .u8 58] := SrcOf.str P w ⟨#[58, 58]⟩

set_option maxRecDepth 10000 in
set_option maxHeartbeats 4000000 in
theorem formatIP_c (ip : List Int) (h : IsIP ip) (W : World) (hG : GT W) : Cal Tryd.prog 17 [.agg (ipC ip).toArray].toArray W fun v w' => v = mkS (txt (formatI ip)) ∧ Ext [] W w' := by
  have hl16 : (ipC ip).length = 16 := by rw [length_ipC, h.len]
  have hseg : seg (ipC ip) 0 16 = some (ipC ip) := by
    have h1 := seg_of [] (ipC ip) []
    rw [hl16] at h1
    simpa using h1
  have hzb := zeros_bd ip
  unfold formatI
  refine fn_ofM (n := 57) [] Tryd.func17 rfl rfl rfl ?_
  intro a w F M hwW
  refine c_seq ?_
  refine c_region ?_
  (refine stepD rfl F rfl (o_box M (F.ev rfl) rfl ?_); clear F; clear M; intro b1 w M a F)
  refine stepD rfl F rfl (o_assign (F.ev rfl) ?_); clear F; clear a; intro a F
  with_reducible refine l_nil ?_
  with_reducible refine q_then ?_
  with_reducible refine c_seq ?_
  with_reducible refine c_region ?_
  refine stepD rfl F rfl (o_loadA M (F.ev rfl) (by repeat (first | exact .here | apply Has.there)) (by first | assumption | rfl) ?_); clear F; clear a; intro a F
  (refine stepD rfl F rfl (o_call (F.ev rfl) (F.evs rfl) (Cal.mono (zeros_c ip h _) ?_)); clear F; clear a; rintro _ w ⟨rfl, hE⟩ a F; replace M := M.later hE; clear hE)
  generalize (zall (grps ip)).1 = st at *
  generalize (zall (grps ip)).2.1 = len at *
  refine stepD rfl F rfl (o_move (F.ev rfl) ?_); clear F; clear a; intro a F
  refine stepD rfl F rfl (o_extract (F.ev rfl) rfl ?_); clear F; clear a; intro a F
  refine stepD rfl F rfl (o_extract (F.ev rfl) rfl ?_); clear F; clear a; intro a F
  (refine stepD rfl F rfl (o_alloc M ?_); clear F; clear M; intro b3 w M a F)
  (refine stepD rfl F rfl (o_alloc M ?_); clear F; clear M; intro b4 w M a F)
  (refine stepN rfl F (o_store1 M (F.ev rfl) (F.ev rfl) rfl (by repeat (first | exact .here | apply Has.there)) (by rfl) (by repeat (first | exact .here | apply Upd.there)) ?_); clear F; clear M; intro w M a F)
  (refine stepN rfl F (o_store1 M (F.ev rfl) (F.ev rfl) rfl (by repeat (first | exact .here | apply Has.there)) (by rfl) (by repeat (first | exact .here | apply Upd.there)) ?_); clear F; clear M; intro w M a F)
  with_reducible refine l_nil ?_
  with_reducible refine q_then ?_
  with_reducible refine c_seq ?_
  with_reducible refine c_region ?_
  (refine stepD rfl F rfl (o_alloc M ?_); clear F; clear M; intro b5 w M a F)
  with_reducible refine l_nil ?_
  with_reducible refine q_then ?_
  with_reducible refine c_seq ?_
  with_reducible refine c_seq ?_
  with_reducible refine c_region ?_
  refine stepD rfl F rfl (o_loadA M (F.ev rfl) (by repeat (first | exact .here | apply Has.there)) (by first | assumption | rfl) ?_); clear F; clear a; intro a F
  (refine stepD rfl F rfl (o_call (F.ev rfl) (F.evs rfl) (Cal.mono (groups_c ip h _ ) ?_)); clear F; clear a; rintro _ w ⟨c1, rfl, N⟩ a F; replace M := M.joins N; clear N)
  with_reducible refine l_nil ?_
  with_reducible refine q_then ?_
  with_reducible refine c_block ?_
  replace F := F.only [14, 5, 4, 3] rfl
  replace M := (M.perm (l' := [(b5, .cells [.slice none 0 0].toArray 26 (0, 0)), (b4, .cells [.int .i64 len].toArray 3 (0, 0)), (b3, .cells [.int .i64 st].toArray 3 (0, 0))] ++ ([(b1, .cells (ipC ip).toArray 23 (0, 0))] ++ [(c1, .cells (ipC ip).toArray 23 (0, 0))])) (by rw [← List.append_assoc]; exact List.perm_append_comm)).sub (l' := [(b5, .cells [.slice none 0 0].toArray 26 (0, 0)), (b4, .cells [.int .i64 len].toArray 3 (0, 0)), (b3, .cells [.int .i64 st].toArray 3 (0, 0))] ++ [(c1, .cells (ipC ip).toArray 23 (0, 0))]) (List.Sublist.append_left (List.sublist_append_right _ _) _)
  refine c_range (α := Nat × Int) (ps := [15, 16]) F M rfl (groups_iter ip h c1) (fun _ => rfl) rfl
    (fun pre l => ∃ sv ent, OwnS 5 1 sv (fall st len pre).length ((fall st len pre).map (Value.int .u8)) ent ∧ l = [(b5, .cells [sv].toArray 26 (0, 0)), (b4, .cells [.int .i64 len].toArray 3 (0, 0)), (b3, .cells [.int .i64 st].toArray 3 (0, 0))] ++ ent)
    (fun _ _ _ => False) ⟨_, [], OwnS.nil _ _, rfl⟩ ?round ?done ?stop
  case round =>
    clear F M
    rintro L pre x _ w p a hok ⟨sv, ent, hO, rfl⟩ M F
    obtain ⟨hx1, hp8, hx2⟩ := pre_at hok
    with_reducible refine c_seq ?_
    with_reducible refine c_region ?_
    refine stepD rfl F rfl (o_assign (F.ev rfl) ?_); clear F; clear a; intro a F
    with_reducible refine l_nil ?_
    with_reducible refine q_then ?_
    with_reducible refine c_region ?_
    refine stepD rfl F rfl (o_assign (F.ev rfl) ?_); clear F; clear a; intro a F
    with_reducible refine l_nil ?_
    with_reducible refine q_then ?_
    refine ⟨_, M, ?_⟩
    clear M
    intro w p M
    have hstep : fall st len (pre ++ [x]) = fstep st len (fall st len pre) x := by simp [fall]
    have hbl : (fall st len pre).length ≤ 5 * pre.length := by have := fall_len st len pre []; simpa [fall] using this
    have hgb := h.grp pre.length
    rw [← hx2] at hgb
    generalize fall st len pre = bs at *
    obtain ⟨x1, x2⟩ := x
    dsimp only at *
    obtain ⟨sp, sc, rfl⟩ := hO.slice
    replace M := M.perm (l' := (b5, .cells [.slice sp bs.length sc].toArray 26 (0, 0)) :: (b4, .cells [.int .i64 len].toArray 3 (0, 0)) :: (b3, .cells [.int .i64 st].toArray 3 (0, 0)) :: (p ++ ent)) (by rw [List.append_assoc]; exact List.Perm.append_left [_, _, _] List.perm_append_comm)
    by_cases hin : inRun st len x1
    · have hin2 := hin
      obtain ⟨hi1, hi2, hi3⟩ := hin2
      by_cases hst : x1 = st
      · have hs' : fall st len (pre ++ [(x1, x2)]) = bs ++ [58, 58] := by rw [hstep]; simp only [fstep, if_pos hin, if_pos hst]
        with_reducible refine c_block ?_
        with_reducible refine c_seq ?_
        with_reducible refine c_seq ?_
        with_reducible refine c_region ?_
        refine stepD rfl F rfl (o_load1 M (F.ev rfl) (by repeat (first | exact .here | apply Has.there)) (by first | assumption | rfl) ?_); clear F; clear a; intro a F
        refine stepD rfl F rfl (o_geqT (F.ev rfl) (F.ev rfl) (by omega) ?_); clear F; clear a; intro a F
        refine stepD rfl F rfl (o_move (F.ev rfl) ?_); clear F; clear a; intro a F
        refine stepG rfl F rfl rfl rfl (o_move (F.ev rfl) ?_); clear F; clear a; intro a F
        refine stepG rfl F rfl rfl rfl (o_load1 M (F.ev rfl) (by repeat (first | exact .here | apply Has.there)) (by first | assumption | rfl) ?_); clear F; clear a; intro a F
        refine stepG rfl F rfl rfl rfl (o_geqT (F.ev rfl) (F.ev rfl) (by omega) ?_); clear F; clear a; intro a F
        refine stepD rfl F rfl (o_pickT (F.ev rfl) (F.ev rfl) ?_); clear F; clear a; intro a F
        refine stepD rfl F rfl (o_move (F.ev rfl) ?_); clear F; clear a; intro a F
        refine stepG rfl F rfl rfl rfl (o_move (F.ev rfl) ?_); clear F; clear a; intro a F
        refine stepG rfl F rfl rfl rfl (o_load1 M (F.ev rfl) (by repeat (first | exact .here | apply Has.there)) (by first | assumption | rfl) ?_); clear F; clear a; intro a F
        refine stepG rfl F rfl rfl rfl (o_load1 M (F.ev rfl) (by repeat (first | exact .here | apply Has.there)) (by first | assumption | rfl) ?_); clear F; clear a; intro a F
        refine stepG rfl F rfl rfl rfl (o_add (F.ev rfl) (F.ev rfl) (w_i64 (by omega) (by omega)) ?_); clear F; clear a; intro a F
        refine stepG rfl F rfl rfl rfl (o_lssT (F.ev rfl) (F.ev rfl) (by omega) ?_); clear F; clear a; intro a F
        refine stepD rfl F rfl (o_pickT (F.ev rfl) (F.ev rfl) ?_); clear F; clear a; intro a F
        with_reducible refine l_nil ?_
        with_reducible refine q_then ?_
        refine c_true F rfl rfl ?_
        with_reducible refine c_seq ?_
        with_reducible refine c_seq ?_
        with_reducible refine c_region ?_
        refine stepD rfl F rfl (o_move (F.ev rfl) ?_); clear F; clear a; intro a F
        refine stepD rfl F rfl (o_load1 M (F.ev rfl) (by repeat (first | exact .here | apply Has.there)) (by first | assumption | rfl) ?_); clear F; clear a; intro a F
        refine stepD rfl F rfl (o_eqlT (F.ev rfl) (F.ev rfl) (by omega) ?_); clear F; clear a; intro a F
        with_reducible refine l_nil ?_
        with_reducible refine q_then ?_
        refine c_true F rfl rfl ?_
        with_reducible refine c_region ?_
        refine stepD rfl F rfl (o_load1 M (F.ev rfl) (by repeat (first | exact .here | apply Has.there)) (by first | assumption | rfl) ?_); clear F; clear a; intro a F
        (refine stepD rfl F rfl (o_append hO M (.cons (.cons (.cons (.app .here)))) (F.ev rfl) (F.ev rfl) (src2 _ _) (by first | omega | (simp; omega)) (by first | omega | (simp; omega)) ?_); clear F; clear M; clear hO; intro v2 ent2 w hO M a F; (try dsimp only at M))
        obtain ⟨sp2, sc2, rfl⟩ := hO.slice
        (refine stepN rfl F (o_store1 M (F.ev rfl) (F.ev rfl) rfl (by repeat (first | exact .here | apply Has.there)) (by rfl) (by repeat (first | exact .here | apply Upd.there)) ?_); clear F; clear M; intro w M a F)
        with_reducible refine l_nil ?_
        with_reducible refine q_then ?_
        with_reducible refine c_exit ?_
        with_reducible refine q_thenX ?_
        with_reducible refine q_inBX ?_
        refine ⟨[_, _, _] ++ ent2, ⟨.slice sp2 _ sc2, ent2, ?_, rfl⟩, M.perm (by rw [List.append_assoc]; exact List.Perm.append_left [_, _, _] List.perm_append_comm)⟩
        rw [hs', List.map_append, List.length_append]; exact hO
      · have hs' : fall st len (pre ++ [(x1, x2)]) = bs := by rw [hstep]; simp [fstep, hin, hst]
        with_reducible refine c_block ?_
        with_reducible refine c_seq ?_
        with_reducible refine c_seq ?_
        with_reducible refine c_region ?_
        refine stepD rfl F rfl (o_load1 M (F.ev rfl) (by repeat (first | exact .here | apply Has.there)) (by first | assumption | rfl) ?_); clear F; clear a; intro a F
        refine stepD rfl F rfl (o_geqT (F.ev rfl) (F.ev rfl) (by omega) ?_); clear F; clear a; intro a F
        refine stepD rfl F rfl (o_move (F.ev rfl) ?_); clear F; clear a; intro a F
        refine stepG rfl F rfl rfl rfl (o_move (F.ev rfl) ?_); clear F; clear a; intro a F
        refine stepG rfl F rfl rfl rfl (o_load1 M (F.ev rfl) (by repeat (first | exact .here | apply Has.there)) (by first | assumption | rfl) ?_); clear F; clear a; intro a F
        refine stepG rfl F rfl rfl rfl (o_geqT (F.ev rfl) (F.ev rfl) (by omega) ?_); clear F; clear a; intro a F
        refine stepD rfl F rfl (o_pickT (F.ev rfl) (F.ev rfl) ?_); clear F; clear a; intro a F
        refine stepD rfl F rfl (o_move (F.ev rfl) ?_); clear F; clear a; intro a F
        refine stepG rfl F rfl rfl rfl (o_move (F.ev rfl) ?_); clear F; clear a; intro a F
        refine stepG rfl F rfl rfl rfl (o_load1 M (F.ev rfl) (by repeat (first | exact .here | apply Has.there)) (by first | assumption | rfl) ?_); clear F; clear a; intro a F
        refine stepG rfl F rfl rfl rfl (o_load1 M (F.ev rfl) (by repeat (first | exact .here | apply Has.there)) (by first | assumption | rfl) ?_); clear F; clear a; intro a F
        refine stepG rfl F rfl rfl rfl (o_add (F.ev rfl) (F.ev rfl) (w_i64 (by omega) (by omega)) ?_); clear F; clear a; intro a F
        refine stepG rfl F rfl rfl rfl (o_lssT (F.ev rfl) (F.ev rfl) (by omega) ?_); clear F; clear a; intro a F
        refine stepD rfl F rfl (o_pickT (F.ev rfl) (F.ev rfl) ?_); clear F; clear a; intro a F
        with_reducible refine l_nil ?_
        with_reducible refine q_then ?_
        refine c_true F rfl rfl ?_
        with_reducible refine c_seq ?_
        with_reducible refine c_seq ?_
        with_reducible refine c_region ?_
        refine stepD rfl F rfl (o_move (F.ev rfl) ?_); clear F; clear a; intro a F
        refine stepD rfl F rfl (o_load1 M (F.ev rfl) (by repeat (first | exact .here | apply Has.there)) (by first | assumption | rfl) ?_); clear F; clear a; intro a F
        refine stepD rfl F rfl (o_eqlF (F.ev rfl) (F.ev rfl) (by omega) ?_); clear F; clear a; intro a F
        with_reducible refine l_nil ?_
        with_reducible refine q_then ?_
        refine c_false F rfl rfl ?_
        with_reducible refine c_skip ?_
        with_reducible refine q_then ?_
        with_reducible refine c_exit ?_
        with_reducible refine q_thenX ?_
        with_reducible refine q_inBX ?_
        refine ⟨[_, _, _] ++ ent, ⟨.slice sp bs.length sc, ent, ?_, rfl⟩, ?_⟩
        · rw [hs']; exact hO
        · exact M.perm (by rw [List.append_assoc]; exact List.Perm.append_left [_, _, _] List.perm_append_comm)
    · have hs' : fall st len (pre ++ [(x1, x2)]) = fsep bs ++ hexI x2 := by rw [hstep]; simp [fstep, hin]
      have h3 : len < 2 ∨ (2 ≤ len ∧ x1 < st) ∨ (2 ≤ len ∧ st ≤ x1 ∧ st + len ≤ x1) := by unfold inRun at hin; omega
      rcases h3 with h3 | ⟨h3, h4⟩ | ⟨h3, h4, h5⟩
      all_goals
        by_cases hb0 : bs.length = 0
        · have hfs : fsep bs = bs := by
            obtain rfl := List.length_eq_zero_iff.1 hb0
            rfl
          repeat (first | (with_reducible refine c_seq ?_) | (with_reducible refine c_region ?_) | (with_reducible refine l_nil ?_) | (with_reducible refine q_then ?_) | (with_reducible refine c_block ?_) | (with_reducible refine c_skip ?_) | (refine c_false F rfl rfl ?_) | (refine stepD rfl F rfl (o_move (F.ev rfl) ?_); clear F; clear a; intro a F) | (refine stepD rfl F rfl (o_gtrF (F.ev rfl) (F.ev rfl) (by omega) ?_); clear F; clear a; intro a F) | (refine stepD rfl F rfl (o_geqT (F.ev rfl) (F.ev rfl) (by omega) ?_); clear F; clear a; intro a F) | (refine stepD rfl F rfl (o_geqF (F.ev rfl) (F.ev rfl) (by omega) ?_); clear F; clear a; intro a F) | (refine stepD rfl F rfl (o_conv (F.ev rfl) (w_u64 (by omega) (by omega)) ?_); clear F; clear a; intro a F) | (refine stepD rfl F rfl (o_pickT (F.ev rfl) (F.ev rfl) ?_); clear F; clear a; intro a F) | (refine stepD rfl F rfl (o_pickF (F.ev rfl) (F.ev rfl) ?_); clear F; clear a; intro a F) | (refine stepD rfl F rfl (o_lenSl (F.ev rfl) ?_); clear F; clear a; intro a F) | (refine stepD rfl F rfl (o_load1 M (F.ev rfl) (by repeat (first | exact .here | apply Has.there)) (by first | assumption | rfl) ?_); clear F; clear a; intro a F) | (refine stepOff F rfl rfl rfl rfl ?_; clear F; clear a; intro a F) | (refine stepG rfl F rfl rfl rfl (o_move (F.ev rfl) ?_); clear F; clear a; intro a F) | (refine stepG rfl F rfl rfl rfl (o_lssF (F.ev rfl) (F.ev rfl) (by omega) ?_); clear F; clear a; intro a F) | (refine stepG rfl F rfl rfl rfl (o_geqT (F.ev rfl) (F.ev rfl) (by omega) ?_); clear F; clear a; intro a F) | (refine stepG rfl F rfl rfl rfl (o_geqF (F.ev rfl) (F.ev rfl) (by omega) ?_); clear F; clear a; intro a F) | (refine stepG rfl F rfl rfl rfl (o_add (F.ev rfl) (F.ev rfl) (w_i64 (by omega) (by omega)) ?_); clear F; clear a; intro a F) | (refine stepG rfl F rfl rfl rfl (o_load1 M (F.ev rfl) (by repeat (first | exact .here | apply Has.there)) (by first | assumption | rfl) ?_); clear F; clear a; intro a F))
          (refine stepD rfl F rfl (o_call (F.ev rfl) (F.evs rfl) (Cal.mono (appendUint_c hO M (.cons (.cons (.cons (.app .here)))) hgb.1 hgb.2 (by first | omega | (simp; omega)) hG (by simp)) ?_)); clear F; clear M; clear hO; clear a; rintro v2 w ⟨ent2, hO, M⟩ a F; (try dsimp only at M))
          skip
          obtain ⟨sp2, sc2, rfl⟩ := hO.slice
          (refine stepN rfl F (o_store1 M (F.ev rfl) (F.ev rfl) rfl (by repeat (first | exact .here | apply Has.there)) (by rfl) (by repeat (first | exact .here | apply Upd.there)) ?_); clear F; clear M; intro w M a F)
          repeat (first | (with_reducible refine l_nil ?_) | (with_reducible refine q_inB ?_))
          refine ⟨[_, _, _] ++ ent2, ⟨.slice sp2 _ sc2, ent2, ?_, rfl⟩, M.perm (by rw [List.append_assoc]; exact List.Perm.append_left [_, _, _] List.perm_append_comm)⟩
          rw [hs', show (fsep bs ++ hexI x2).length = (fsep bs).length + (hexI x2).length from List.length_append, hfs]; exact hO
        · have hne : bs ≠ [] := fun e => hb0 (by rw [e]; rfl)
          have hOk := hO
          rcases hOk with ⟨_, h0, _, _⟩ | ⟨bf, capf, junkf, hv, rfl, hxl, hjl, hcc⟩
          · omega
          cases hv
          have M' := M.perm (l' := (b5, .cells [.slice (some ⟨bf, 0, none⟩) bs.length sc].toArray 26 (0, 0)) :: (b4, .cells [.int .i64 len].toArray 3 (0, 0)) :: (b3, .cells [.int .i64 st].toArray 3 (0, 0)) :: ([(bf, .cells (bs.map (Value.int .u8) ++ junkf).toArray 5 (0, 0))] ++ p)) (by exact List.Perm.append_left [_, _, _] List.perm_append_comm)
          by_cases hlast : bs.getD (bs.length - 1) 0 = 58
          · have hfs : fsep bs = bs := by unfold fsep; rw [if_neg (by simp only [hlast]; simp)]
            repeat (first | (with_reducible refine c_seq ?_) | (with_reducible refine c_region ?_) | (with_reducible refine l_nil ?_) | (with_reducible refine q_then ?_) | (with_reducible refine c_block ?_) | (with_reducible refine c_skip ?_) | (refine c_false F rfl rfl ?_) | (refine stepD rfl F rfl (o_move (F.ev rfl) ?_); clear F; clear a; intro a F) | (refine stepD rfl F rfl (o_gtrT (F.ev rfl) (F.ev rfl) (by omega) ?_); clear F; clear a; intro a F) | (refine stepD rfl F rfl (o_geqT (F.ev rfl) (F.ev rfl) (by omega) ?_); clear F; clear a; intro a F) | (refine stepD rfl F rfl (o_geqF (F.ev rfl) (F.ev rfl) (by omega) ?_); clear F; clear a; intro a F) | (refine stepD rfl F rfl (o_pickT (F.ev rfl) (F.ev rfl) ?_); clear F; clear a; intro a F) | (refine stepD rfl F rfl (o_pickF (F.ev rfl) (F.ev rfl) ?_); clear F; clear a; intro a F) | (refine stepD rfl F rfl (o_lenSl (F.ev rfl) ?_); clear F; clear a; intro a F) | (refine stepD rfl F rfl (o_load1 M (F.ev rfl) (by repeat (first | exact .here | apply Has.there)) (by first | assumption | rfl) ?_); clear F; clear a; intro a F) | (refine stepOff F rfl rfl rfl rfl ?_; clear F; clear a; intro a F) | (refine stepG rfl F rfl rfl rfl (o_move (F.ev rfl) ?_); clear F; clear a; intro a F) | (refine stepG rfl F rfl rfl rfl (o_lssF (F.ev rfl) (F.ev rfl) (by omega) ?_); clear F; clear a; intro a F) | (refine stepG rfl F rfl rfl rfl (o_geqT (F.ev rfl) (F.ev rfl) (by omega) ?_); clear F; clear a; intro a F) | (refine stepG rfl F rfl rfl rfl (o_geqF (F.ev rfl) (F.ev rfl) (by omega) ?_); clear F; clear a; intro a F) | (refine stepG rfl F rfl rfl rfl (o_add (F.ev rfl) (F.ev rfl) (w_i64 (by omega) (by omega)) ?_); clear F; clear a; intro a F) | (refine stepG rfl F rfl rfl rfl (o_sub (F.ev rfl) (F.ev rfl) (w_i64 (by omega) (by omega)) ?_); clear F; clear a; intro a F) | (refine stepG rfl F rfl rfl rfl (o_lenSl (F.ev rfl) ?_); clear F; clear a; intro a F) | (refine stepG rfl F rfl rfl rfl (o_indexSl (F.ev rfl) (F.ev rfl) (by omega) (by omega) ?_); clear F; clear a; intro a F) | (refine stepG rfl F rfl rfl rfl (o_load1 M (F.ev rfl) (by repeat (first | exact .here | apply Has.there)) (by first | assumption | rfl) ?_); clear F; clear a; intro a F))
            (refine stepG rfl F rfl rfl rfl (o_load1 M' (F.ev rfl) (.there (.there (.there .here))) (nth_last (by omega) (by omega)) ?_); clear F; clear a; intro a F)
            clear M'
            repeat (first | (with_reducible refine c_region ?_) | (with_reducible refine l_nil ?_) | (with_reducible refine q_then ?_) | (with_reducible refine c_skip ?_) | (refine c_false F rfl rfl ?_) | (refine stepD rfl F rfl (o_move (F.ev rfl) ?_); clear F; clear a; intro a F) | (refine stepD rfl F rfl (o_conv (F.ev rfl) (w_u64 (by omega) (by omega)) ?_); clear F; clear a; intro a F) | (refine stepD rfl F rfl (o_pickT (F.ev rfl) (F.ev rfl) ?_); clear F; clear a; intro a F) | (refine stepD rfl F rfl (o_load1 M (F.ev rfl) (by repeat (first | exact .here | apply Has.there)) (by first | assumption | rfl) ?_); clear F; clear a; intro a F) | (refine stepG rfl F rfl rfl rfl (o_neqF (F.ev rfl) (F.ev rfl) (by omega) ?_); clear F; clear a; intro a F))
            (refine stepD rfl F rfl (o_call (F.ev rfl) (F.evs rfl) (Cal.mono (appendUint_c hO M (.cons (.cons (.cons (.app .here)))) hgb.1 hgb.2 (by first | omega | (simp; omega)) hG (by simp)) ?_)); clear F; clear M; clear hO; clear a; rintro v2 w ⟨ent2, hO, M⟩ a F; (try dsimp only at M))
            skip
            obtain ⟨sp2, sc2, rfl⟩ := hO.slice
            (refine stepN rfl F (o_store1 M (F.ev rfl) (F.ev rfl) rfl (by repeat (first | exact .here | apply Has.there)) (by rfl) (by repeat (first | exact .here | apply Upd.there)) ?_); clear F; clear M; intro w M a F)
            repeat (first | (with_reducible refine l_nil ?_) | (with_reducible refine q_inB ?_))
            refine ⟨[_, _, _] ++ ent2, ⟨.slice sp2 _ sc2, ent2, ?_, rfl⟩, M.perm (by rw [List.append_assoc]; exact List.Perm.append_left [_, _, _] List.perm_append_comm)⟩
            rw [hs', show (fsep bs ++ hexI x2).length = (fsep bs).length + (hexI x2).length from List.length_append, hfs]; exact hO
          · have hfs : fsep bs = bs ++ [58] := by unfold fsep; rw [if_pos ⟨hne, hlast⟩]
            repeat (first | (with_reducible refine c_seq ?_) | (with_reducible refine c_region ?_) | (with_reducible refine l_nil ?_) | (with_reducible refine q_then ?_) | (with_reducible refine c_block ?_) | (with_reducible refine c_skip ?_) | (refine c_false F rfl rfl ?_) | (refine stepD rfl F rfl (o_move (F.ev rfl) ?_); clear F; clear a; intro a F) | (refine stepD rfl F rfl (o_gtrT (F.ev rfl) (F.ev rfl) (by omega) ?_); clear F; clear a; intro a F) | (refine stepD rfl F rfl (o_geqT (F.ev rfl) (F.ev rfl) (by omega) ?_); clear F; clear a; intro a F) | (refine stepD rfl F rfl (o_geqF (F.ev rfl) (F.ev rfl) (by omega) ?_); clear F; clear a; intro a F) | (refine stepD rfl F rfl (o_pickT (F.ev rfl) (F.ev rfl) ?_); clear F; clear a; intro a F) | (refine stepD rfl F rfl (o_pickF (F.ev rfl) (F.ev rfl) ?_); clear F; clear a; intro a F) | (refine stepD rfl F rfl (o_lenSl (F.ev rfl) ?_); clear F; clear a; intro a F) | (refine stepD rfl F rfl (o_load1 M (F.ev rfl) (by repeat (first | exact .here | apply Has.there)) (by first | assumption | rfl) ?_); clear F; clear a; intro a F) | (refine stepOff F rfl rfl rfl rfl ?_; clear F; clear a; intro a F) | (refine stepG rfl F rfl rfl rfl (o_move (F.ev rfl) ?_); clear F; clear a; intro a F) | (refine stepG rfl F rfl rfl rfl (o_lssF (F.ev rfl) (F.ev rfl) (by omega) ?_); clear F; clear a; intro a F) | (refine stepG rfl F rfl rfl rfl (o_geqT (F.ev rfl) (F.ev rfl) (by omega) ?_); clear F; clear a; intro a F) | (refine stepG rfl F rfl rfl rfl (o_geqF (F.ev rfl) (F.ev rfl) (by omega) ?_); clear F; clear a; intro a F) | (refine stepG rfl F rfl rfl rfl (o_add (F.ev rfl) (F.ev rfl) (w_i64 (by omega) (by omega)) ?_); clear F; clear a; intro a F) | (refine stepG rfl F rfl rfl rfl (o_sub (F.ev rfl) (F.ev rfl) (w_i64 (by omega) (by omega)) ?_); clear F; clear a; intro a F) | (refine stepG rfl F rfl rfl rfl (o_lenSl (F.ev rfl) ?_); clear F; clear a; intro a F) | (refine stepG rfl F rfl rfl rfl (o_indexSl (F.ev rfl) (F.ev rfl) (by omega) (by omega) ?_); clear F; clear a; intro a F) | (refine stepG rfl F rfl rfl rfl (o_load1 M (F.ev rfl) (by repeat (first | exact .here | apply Has.there)) (by first | assumption | rfl) ?_); clear F; clear a; intro a F))
            (refine stepG rfl F rfl rfl rfl (o_load1 M' (F.ev rfl) (.there (.there (.there .here))) (nth_last (by omega) (by omega)) ?_); clear F; clear a; intro a F)
            clear M'
            repeat (first | (with_reducible refine c_region ?_) | (with_reducible refine l_nil ?_) | (with_reducible refine q_then ?_) | (refine c_true F rfl rfl ?_) | (refine stepD rfl F rfl (o_pickT (F.ev rfl) (F.ev rfl) ?_); clear F; clear a; intro a F) | (refine stepD rfl F rfl (o_load1 M (F.ev rfl) (by repeat (first | exact .here | apply Has.there)) (by first | assumption | rfl) ?_); clear F; clear a; intro a F) | (refine stepG rfl F rfl rfl rfl (o_neqT (F.ev rfl) (F.ev rfl) (by omega) ?_); clear F; clear a; intro a F))
            (refine stepD rfl F rfl (o_buildSlice F M rfl rfl rfl rfl ?_); clear F; clear M; intro b49 w M a F)
            (refine stepD rfl F rfl (o_append hO M (.cons (.cons (.cons (.cons (.app .here))))) (F.ev rfl) (F.ev rfl) (SrcOf.cells' (M.heap .here) rfl rfl) (by first | omega | (simp; omega)) (by first | omega | (simp; omega)) ?_); clear F; clear M; clear hO; intro v3 ent3 w hO M a F; (try dsimp only at M))
            obtain ⟨sp3, sc3, rfl⟩ := hO.slice
            replace hO : OwnS 5 1 (.slice sp3 (bs.length + 1) sc3) (bs ++ [58]).length ((bs ++ [58]).map (Value.int .u8)) ent3 := by rw [List.map_append, List.length_append]; exact hO
            replace M := M.sub (List.sublist_cons_self _ _)
            (refine stepN rfl F (o_store1 M (F.ev rfl) (F.ev rfl) rfl (by repeat (first | exact .here | apply Has.there)) (by rfl) (by repeat (first | exact .here | apply Upd.there)) ?_); clear F; clear M; intro w M a F)
            repeat (first | (with_reducible refine c_region ?_) | (with_reducible refine l_nil ?_) | (with_reducible refine q_then ?_) | (refine stepD rfl F rfl (o_move (F.ev rfl) ?_); clear F; clear a; intro a F) | (refine stepD rfl F rfl (o_conv (F.ev rfl) (w_u64 (by omega) (by omega)) ?_); clear F; clear a; intro a F) | (refine stepD rfl F rfl (o_load1 M (F.ev rfl) (by repeat (first | exact .here | apply Has.there)) (by first | assumption | rfl) ?_); clear F; clear a; intro a F))
            (refine stepD rfl F rfl (o_call (F.ev rfl) (F.evs rfl) (Cal.mono (appendUint_c hO M (.cons (.cons (.cons (.app .here)))) hgb.1 hgb.2 (by first | omega | (simp; omega)) hG (by simp)) ?_)); clear F; clear M; clear hO; clear a; rintro v2 w ⟨ent2, hO, M⟩ a F; (try dsimp only at M))
            skip
            obtain ⟨sp2, sc2, rfl⟩ := hO.slice
            (refine stepN rfl F (o_store1 M (F.ev rfl) (F.ev rfl) rfl (by repeat (first | exact .here | apply Has.there)) (by rfl) (by repeat (first | exact .here | apply Upd.there)) ?_); clear F; clear M; intro w M a F)
            repeat (first | (with_reducible refine l_nil ?_) | (with_reducible refine q_inB ?_))
            refine ⟨[_, _, _] ++ ent2, ⟨.slice sp2 _ sc2, ent2, ?_, rfl⟩, M.perm (by rw [List.append_assoc]; exact List.Perm.append_left [_, _, _] List.perm_append_comm)⟩
            rw [hs', show (fsep bs ++ hexI x2).length = (fsep bs).length + (hexI x2).length from List.length_append, hfs]; exact hO
  case done =>
    clear F M
    rintro D xs _ p w a rfl ⟨sv, ent, hO, rfl⟩ M F
    obtain ⟨sp, sc, rfl⟩ := hO.slice
    replace M := M.perm (l' := (D, .deferred (some [])) :: (b5, .cells [.slice sp (fall st len (grps ip)).length sc].toArray 26 (0, 0)) :: (b4, .cells [.int .i64 len].toArray 3 (0, 0)) :: (b3, .cells [.int .i64 st].toArray 3 (0, 0)) :: (p ++ ent)) (by rw [List.append_assoc]; exact List.Perm.append_left [_, _, _, _] List.perm_append_comm)
    with_reducible refine q_inB ?_
    with_reducible refine q_then ?_
    with_reducible refine c_seq ?_
    with_reducible refine c_region ?_
    refine stepD rfl F rfl (o_load1 M (F.ev rfl) (by repeat (first | exact .here | apply Has.there)) (by first | assumption | rfl) ?_); clear F; clear a; intro a F
    (refine stepD rfl F rfl (o_convOS hO M (.cons (.cons (.cons (.cons (.app .here))))) (F.ev rfl) ?_); clear F; clear a; intro a F)
    refine stepD rfl F rfl (o_assign (F.ev rfl) ?_); clear F; clear a; intro a F
    with_reducible refine l_nil ?_
    with_reducible refine q_then ?_
    with_reducible refine c_ret ?_
    refine p_ret1 F M .here rfl fun w' M' => ⟨.cons (.tmp (F.ev rfl)) .nil, rfl, M'.ext⟩
  case stop => exact fun _ _ _ _ _ _ _ h => h.elim
end Go.Proofs.YtadnpidadcgdcaaDoor

/-! P9 -/
/-
  multihoplaw04.known.
-/
namespace Go.Proofs.YtadnpidadcgdcaaDoor
set_option linter.unusedVariables false
set_option linter.unusedSimpArgs false
open Go.RowKit
attribute [local irreducible] OpTo wpListIn Code.wpIn MW Cal

def kText : List UInt8 := [50, 48, 48, 49, 58, 68, 66, 56, 58, 48, 58, 48, 58, 49, 58, 48, 58, 48, 58, 49]
def kIP : List Int := [32, 1, 13, 184, 0, 0, 0, 0, 0, 1, 0, 0, 0, 0, 0, 1]
theorem k_parse : parseIPV kText = some kIP := by kernel_rfl
theorem k_format : txt (formatI kIP) = [50, 48, 48, 49, 58, 100, 98, 56, 58, 58, 49, 58, 48, 58, 48, 58, 49] := by kernel_rfl
theorem k_ip : IsIP kIP := ⟨rfl, by decide⟩

set_option maxHeartbeats 400000 in
theorem known_c (W : World) (hM : GM W) (hG : GT W) : Cal Tryd.prog 16 [].toArray W fun v w' => v = .bool true ∧ Ext [] W w' := by
  refine fn_ofM (n := 13) [] Tryd.func16 rfl rfl rfl ?_
  intro a w F M hwW
  with_reducible refine c_seq ?_
  with_reducible refine c_region ?_
  refine stepD rfl F rfl (o_assign (F.ev rfl) ?_); clear F; clear a; intro a F
  with_reducible refine l_nil ?_
  with_reducible refine q_then ?_
  with_reducible refine c_seq ?_
  with_reducible refine c_region ?_
  (refine stepD rfl F rfl (o_call (F.ev rfl) (F.evs rfl) (Cal.mono (parseIP_c kText (by decide) _ (hM.later M.ext)) ?_)); clear F; clear a; rintro _ w ⟨rfl, hE⟩ a F; replace M := M.later hE; clear hE)
  rw [k_parse] at F
  refine stepD rfl F rfl (o_move (F.ev rfl) ?_); clear F; clear a; intro a F
  refine stepD rfl F rfl (o_extract (F.ev rfl) rfl ?_); clear F; clear a; intro a F
  refine stepD rfl F rfl (o_extract (F.ev rfl) rfl ?_); clear F; clear a; intro a F
  (refine stepD rfl F rfl (o_alloc M ?_); clear F; clear M; intro b1 w M a F)
  (refine stepN rfl F (o_storeA M (F.ev rfl) (F.ev rfl) (by rfl) (by rfl) (by repeat (first | exact .here | apply Has.there)) (by rfl) (by repeat (first | exact .here | apply Upd.there)) ?_); clear F; clear M; intro w M a F)
  refine stepD rfl F rfl (o_assign (F.ev rfl) ?_); clear F; clear a; intro a F
  with_reducible refine l_nil ?_
  with_reducible refine q_then ?_
  with_reducible refine c_seq ?_
  with_reducible refine c_region ?_
  refine stepD rfl F rfl (o_move (F.ev rfl) ?_); clear F; clear a; intro a F
  refine stepD rfl F rfl (o_move (F.ev rfl) ?_); clear F; clear a; intro a F
  refine stepG rfl F rfl rfl rfl (o_loadA M (F.ev rfl) (by repeat (first | exact .here | apply Has.there)) (by first | assumption | rfl) ?_); clear F; clear a; intro a F
  (refine stepG rfl F rfl rfl rfl (o_call (F.ev rfl) (F.evs rfl) (Cal.mono (formatIP_c kIP k_ip _ (hG.later M.ext)) ?_)); clear F; clear a; rintro _ w ⟨rfl, hE⟩ a F; replace M := M.later hE; clear hE)
  rw [k_format] at F
  refine stepG rfl F rfl rfl rfl (s_eql (F.ev rfl) (F.ev rfl) ?_); clear F; clear a; intro a F
  refine stepD rfl F rfl (o_pickT (F.ev rfl) (F.ev rfl) ?_); clear F; clear a; intro a F
  refine stepD rfl F rfl (o_assign (F.ev rfl) ?_); clear F; clear a; intro a F
  with_reducible refine l_nil ?_
  with_reducible refine q_then ?_
  with_reducible refine c_ret ?_
  refine p_ret F rfl (.cons (.tmp (F.ev rfl)) .nil) ?_
  exact ⟨rfl, M.ext⟩
end Go.Proofs.YtadnpidadcgdcaaDoor

/-! Q1 -/
/-
  multihopmade.Mod, address.ValidPrefix, Contains, Covers, Common.
-/
namespace Go.Proofs.YtadnpidadcgdcaaDoor
set_option linter.unusedVariables false
set_option linter.unusedSimpArgs false
open Go.RowKit
attribute [local irreducible] OpTo wpListIn Code.wpIn MW Cal

theorem len16 {l : List Int} (h : l.length = 16) : ∃ x0 x1 x2 x3 x4 x5 x6 x7 x8 x9 x10 x11 x12 x13 x14 x15 : Int, l = [x0, x1, x2, x3, x4, x5, x6, x7, x8, x9, x10, x11, x12, x13, x14, x15] :=
  match l, h with
  | [x0, x1, x2, x3, x4, x5, x6, x7, x8, x9, x10, x11, x12, x13, x14, x15], _ => ⟨x0, x1, x2, x3, x4, x5, x6, x7, x8, x9, x10, x11, x12, x13, x14, x15, rfl⟩
def maskI (a : List Int) (n : Int) : List Int := (List.range 16).map (maskAt a n)
def pfC (a : List Int) (n : Int) : List Value := ipC a ++ [.int .i64 n]
def validP (a : List Int) (n : Int) : Bool := decide (0 ≤ n) && decide (n ≤ 128) && (maskI a n == a)
def containsP (p : List Int) (n : Int) (a : List Int) : Bool := validP p n && (maskI a n == p)
def coversP (p : List Int) (n : Int) (q : List Int) (m : Int) : Bool := validP q m && containsP p n q && decide (n ≤ m)
theorem maskI_len (a : List Int) (n : Int) : (maskI a n).length = 16 := by simp [maskI]
theorem mrow_pf (a : List Int) (n : Int) : mrow a n 16 = pfC (maskI a n) n := by
  unfold mrow pfC maskI ipC
  rw [List.map_map]
  congr 1
theorem eqVs_ip : ∀ a b : List Int, a.length = b.length → eqVs (ipC a) (ipC b) = (a == b)
  | [], [], _ => rfl
  | x :: a, y :: b, h => by
    have := eqVs_ip a b (by simpa using h)
    simp only [ipC] at this
    simp [ipC, eqVs, eqV, this]
theorem eqVs_pf {a b : List Int} {n m : Int} (h : a.length = b.length) : eqVs (pfC a n) (pfC b m) = (a == b && n == m) := by
  unfold pfC
  rw [eqVs_append _ _ _ _ (by simp [ipC, h]), eqVs_ip a b h]
  simp [eqVs, eqV]

/-- the remainder that is not negative -/
def modI (a n : Int) : Int := if a.tmod n < 0 then a.tmod n + n else a.tmod n
theorem mod_c (x n : Int) (hn : 0 < n) (hn2 : n ≤ 9223372036854775807) (W : World) : Cal Tryd.prog 12 [.int .i64 x, .int .i64 n].toArray W fun v w' => v = .int .i64 (modI x n) ∧ Ext [] W w' := by
  have hr := Int.tmod_lt_of_pos x hn
  have hr2 : -n < x.tmod n := by have := Int.tmod_lt_of_pos (-x) hn; rw [Int.neg_tmod] at this; omega
  unfold modI
  refine fn_ofM (n := 14) [] Tryd.func12 rfl rfl rfl ?_
  intro a w F M hwW
  with_reducible refine c_seq ?_
  with_reducible refine c_region ?_
  refine stepD rfl F rfl (o_assign (F.ev rfl) ?_); clear F; clear a; intro a F
  with_reducible refine l_nil ?_
  with_reducible refine q_then ?_
  with_reducible refine c_seq ?_
  with_reducible refine c_region ?_
  refine stepD rfl F rfl (o_move (F.ev rfl) ?_); clear F; clear a; intro a F
  refine stepD rfl F rfl (o_move (F.ev rfl) ?_); clear F; clear a; intro a F
  refine stepD rfl F rfl (o_rem (F.ev rfl) (F.ev rfl) (by omega) rfl ?_); clear F; clear a; intro a F
  refine stepD rfl F rfl (o_assign (F.ev rfl) ?_); clear F; clear a; intro a F
  with_reducible refine l_nil ?_
  with_reducible refine q_then ?_
  with_reducible refine c_seq ?_
  with_reducible refine c_seq ?_
  with_reducible refine c_region ?_
  refine stepD rfl F rfl (o_move (F.ev rfl) ?_); clear F; clear a; intro a F
  refine stepD rfl F rfl (o_lss (F.ev rfl) (F.ev rfl) ?_); clear F; clear a; intro a F
  with_reducible refine l_nil ?_
  with_reducible refine q_then ?_
  generalize x.tmod n = r at *
  refine c_if F rfl (fun hc => ?_) (fun hc => ?_)
  · replace hc := of_decide_eq_true hc
    rw [if_pos hc]
    with_reducible refine c_region ?_
    refine stepD rfl F rfl (o_move (F.ev rfl) ?_); clear F; clear a; intro a F
    refine stepD rfl F rfl (o_move (F.ev rfl) ?_); clear F; clear a; intro a F
    refine stepD rfl F rfl (o_add (F.ev rfl) (F.ev rfl) (w_i64 (by omega) (by omega)) ?_); clear F; clear a; intro a F
    refine stepD rfl F rfl (o_assign (F.ev rfl) ?_); clear F; clear a; intro a F
    with_reducible refine l_nil ?_
    with_reducible refine q_then ?_
    with_reducible refine c_seq ?_
    with_reducible refine c_region ?_
    refine stepD rfl F rfl (o_move (F.ev rfl) ?_); clear F; clear a; intro a F
    refine stepD rfl F rfl (o_assign (F.ev rfl) ?_); clear F; clear a; intro a F
    with_reducible refine l_nil ?_
    with_reducible refine q_then ?_
    with_reducible refine c_ret ?_
    refine p_ret F rfl (.cons (.tmp (F.ev rfl)) .nil) ?_
    exact ⟨rfl, M.ext⟩
  · replace hc := of_decide_eq_false hc
    rw [if_neg hc]
    with_reducible refine c_skip ?_
    with_reducible refine q_then ?_
    with_reducible refine c_seq ?_
    with_reducible refine c_region ?_
    refine stepD rfl F rfl (o_move (F.ev rfl) ?_); clear F; clear a; intro a F
    refine stepD rfl F rfl (o_assign (F.ev rfl) ?_); clear F; clear a; intro a F
    with_reducible refine l_nil ?_
    with_reducible refine q_then ?_
    with_reducible refine c_ret ?_
    refine p_ret F rfl (.cons (.tmp (F.ev rfl)) .nil) ?_
    exact ⟨rfl, M.ext⟩
theorem clamp_in {n : Int} (h0 : 0 ≤ n) (h1 : n ≤ 128) : clampB n = n := by unfold clampB; rw [if_neg (show ¬ n < 0 by omega), if_neg (by omega)]
theorem maskP_c (a : List Int) (ha : a.length = 16) (n : Int) (W : World) : Cal Tryd.prog 18 [.agg (ipC a).toArray, .int .i64 n].toArray W fun v w' => v = .agg (pfC (maskI a (clampB n)) (clampB n)).toArray ∧ Ext [] W w' :=
  (mask_c a ha n W).mono fun v w' h => ⟨by rw [h.1, mrow_pf], h.2⟩
theorem maskIn_c (a : List Int) (ha : a.length = 16) (n : Int) (h0 : 0 ≤ n) (h1 : n ≤ 128) (W : World) : Cal Tryd.prog 18 [.agg (ipC a).toArray, .int .i64 n].toArray W fun v w' => v = .agg (pfC (maskI a n) n).toArray ∧ Ext [] W w' :=
  (maskP_c a ha n W).mono fun v w' h => ⟨by rw [h.1, clamp_in h0 h1], h.2⟩

def pfK : List LK := [.i .u8, .i .u8, .i .u8, .i .u8, .i .u8, .i .u8, .i .u8, .i .u8, .i .u8, .i .u8, .i .u8, .i .u8, .i .u8, .i .u8, .i .u8, .i .u8, .i .i64]
theorem fits_pf {a : List Int} (ha : a.length = 16) (n : Int) : fitsK pfK (pfC a n) = true := by
  obtain ⟨x0, x1, x2, x3, x4, x5, x6, x7, x8, x9, x10, x11, x12, x13, x14, x15, rfl⟩ := len16 ha
  rfl
theorem seg_all {xs : List Value} {k : Nat} (h : xs.length = k) : seg xs 0 k = some xs := by
  have h1 := seg_of [] xs []
  rw [h] at h1
  simpa using h1
theorem pfC_len {a : List Int} (ha : a.length = 16) (n : Int) : (pfC a n).length = 17 := by simp [pfC, ipC, ha]
theorem ipC_len {a : List Int} (ha : a.length = 16) : (ipC a).length = 16 := by simp [ipC, ha]
theorem seg_pf {a : List Int} (ha : a.length = 16) (n : Int) : seg (pfC a n) 0 17 = some (pfC a n) := seg_all (pfC_len ha n)
theorem seg_pf0 {a : List Int} (ha : a.length = 16) (n : Int) : seg (pfC a n) 0 16 = some (ipC a) := by
  have h1 := seg_of [] (ipC a) [.int .i64 n]
  rw [ipC_len ha] at h1
  simpa [pfC] using h1
theorem nth_pf {a : List Int} (ha : a.length = 16) (n : Int) : nth (pfC a n) 16 = some (.int .i64 n) := by
  rw [nth_spec]; simp [pfC, ipC, ha]

set_option maxHeartbeats 2000000 in
theorem validPrefix_c (p : List Int) (n : Int) (hp : p.length = 16) (W : World) : Cal Tryd.prog 19 [.agg (pfC p n).toArray].toArray W fun v w' => v = .bool (validP p n) ∧ Ext [] W w' := by
  have e1 := seg_pf hp n
  have e2 := seg_pf0 hp n
  have e3 := nth_pf hp n
  have e4 := fits_pf hp n
  have e5 := fits_pf (maskI_len p n) n
  refine fn_ofM (n := 20) [] Tryd.func19 rfl rfl rfl ?_
  intro a w F M hwW
  refine c_seq ?_
  refine c_region ?_
  (refine stepD rfl F rfl (o_box M (F.ev rfl) rfl ?_); clear F; clear M; intro b1 w M a F)
  refine stepD rfl F rfl (o_assign (F.ev rfl) ?_); clear F; clear a; intro a F
  with_reducible refine l_nil ?_
  with_reducible refine q_then ?_
  with_reducible refine c_seq ?_
  replace F := F.only [1] rfl
  by_cases h0 : 0 ≤ n
  · by_cases h1 : n ≤ 128
    · refine c_draw 18 F (by kernel_rfl) ?_
      intro w1 hE hok
      have M1 := M.later hE
      refine mK hok rfl rfl (fun a' w' F' E' => o_fieldAddr (F'.ev rfl) ⟨Ext.refl _ _, rfl⟩) ?_
      refine mK hok rfl rfl (fun a' w' F' E' => o_load1 (M1.later E') (F'.ev rfl) (by repeat (first | exact .here | apply Has.there)) (by first | assumption | rfl) ⟨Ext.refl _ _, rfl⟩) ?_
      refine mK hok rfl rfl (fun a' w' F' E' => o_geqT (F'.ev rfl) (F'.ev rfl) (by omega) ⟨Ext.refl _ _, rfl⟩) ?_
      refine mK hok rfl rfl (fun a' w' F' E' => o_move (F'.ev rfl) ⟨Ext.refl _ _, rfl⟩) ?_
      refine mKG hok rfl rfl rfl rfl (fun a' w' F' E' => o_fieldAddr (F'.ev rfl) ⟨Ext.refl _ _, rfl⟩) ?_
      refine mKG hok rfl rfl rfl rfl (fun a' w' F' E' => o_load1 (M1.later E') (F'.ev rfl) (by repeat (first | exact .here | apply Has.there)) (by first | assumption | rfl) ⟨Ext.refl _ _, rfl⟩) ?_
      refine mKG hok rfl rfl rfl rfl (fun a' w' F' E' => o_leqT (F'.ev rfl) (F'.ev rfl) (by omega) ⟨Ext.refl _ _, rfl⟩) ?_
      refine mK hok rfl rfl (fun a' w' F' E' => o_pickT (F'.ev rfl) (F'.ev rfl) ⟨Ext.refl _ _, rfl⟩) ?_
      refine mK hok rfl rfl (fun a' w' F' E' => o_move (F'.ev rfl) ⟨Ext.refl _ _, rfl⟩) ?_
      refine mKG hok rfl rfl rfl rfl (fun a' w' F' E' => o_fieldAddr (F'.ev rfl) ⟨Ext.refl _ _, rfl⟩) ?_
      refine mKG hok rfl rfl rfl rfl (fun a' w' F' E' => o_loadA (M1.later E') (F'.ev rfl) (by repeat (first | exact .here | apply Has.there)) (by first | assumption | rfl) ⟨Ext.refl _ _, rfl⟩) ?_
      refine mKG hok rfl rfl rfl rfl (fun a' w' F' E' => o_fieldAddr (F'.ev rfl) ⟨Ext.refl _ _, rfl⟩) ?_
      refine mKG hok rfl rfl rfl rfl (fun a' w' F' E' => o_load1 (M1.later E') (F'.ev rfl) (by repeat (first | exact .here | apply Has.there)) (by first | assumption | rfl) ⟨Ext.refl _ _, rfl⟩) ?_
      (refine mKG hok rfl rfl rfl rfl (fun a' w' F' E' => o_call (F'.ev rfl) (F'.evs rfl) (Cal.mono (maskIn_c p hp n h0 h1 _) fun _ _ hh => ⟨hh.2, hh.1⟩)) ?_)
      refine mKG hok rfl rfl rfl rfl (fun a' w' F' E' => o_loadA (M1.later E') (F'.ev rfl) (by repeat (first | exact .here | apply Has.there)) (by first | assumption | rfl) ⟨Ext.refl _ _, rfl⟩) ?_
      refine mKG hok rfl rfl rfl rfl (fun a' w' F' E' => o_eqlA (F'.ev rfl) (F'.ev rfl) (by first | assumption | rfl) (by first | assumption | rfl) ⟨Ext.refl _ _, rfl⟩) ?_
      refine mK hok rfl rfl (fun a' w' F' E' => o_pickT (F'.ev rfl) (F'.ev rfl) ⟨Ext.refl _ _, rfl⟩) ?_
      refine mK hok rfl rfl (fun a' w' F' E' => o_assign (F'.ev rfl) ⟨Ext.refl _ _, rfl⟩) ?_
      (refine mDone rfl rfl ?_; clear F; clear M; intro a w F hE2 hX hTT hDD hPP; have M := M1.later hE2; clear M1; clear hX; clear hE2; clear hok; clear hE; clear hTT; clear hDD; clear hPP; (try dsimp only at F))
      with_reducible refine l_nil ?_
      with_reducible refine q_then ?_
      with_reducible refine c_ret ?_
      refine p_ret F rfl (.cons (.tmp (F.ev rfl)) .nil) ?_
      refine ⟨?_, M.ext⟩
      show Value.bool _ = Value.bool _
      rw [eqVs_pf (by rw [maskI_len, hp])]
      simp [validP, h0, h1]
    · refine c_draw 18 F (by kernel_rfl) ?_
      intro w1 hE hok
      have M1 := M.later hE
      refine mK hok rfl rfl (fun a' w' F' E' => o_fieldAddr (F'.ev rfl) ⟨Ext.refl _ _, rfl⟩) ?_
      refine mK hok rfl rfl (fun a' w' F' E' => o_load1 (M1.later E') (F'.ev rfl) (by repeat (first | exact .here | apply Has.there)) (by first | assumption | rfl) ⟨Ext.refl _ _, rfl⟩) ?_
      refine mK hok rfl rfl (fun a' w' F' E' => o_geqT (F'.ev rfl) (F'.ev rfl) (by omega) ⟨Ext.refl _ _, rfl⟩) ?_
      refine mK hok rfl rfl (fun a' w' F' E' => o_move (F'.ev rfl) ⟨Ext.refl _ _, rfl⟩) ?_
      refine mKG hok rfl rfl rfl rfl (fun a' w' F' E' => o_fieldAddr (F'.ev rfl) ⟨Ext.refl _ _, rfl⟩) ?_
      refine mKG hok rfl rfl rfl rfl (fun a' w' F' E' => o_load1 (M1.later E') (F'.ev rfl) (by repeat (first | exact .here | apply Has.there)) (by first | assumption | rfl) ⟨Ext.refl _ _, rfl⟩) ?_
      refine mKG hok rfl rfl rfl rfl (fun a' w' F' E' => o_leqF (F'.ev rfl) (F'.ev rfl) (by omega) ⟨Ext.refl _ _, rfl⟩) ?_
      refine mK hok rfl rfl (fun a' w' F' E' => o_pickT (F'.ev rfl) (F'.ev rfl) ⟨Ext.refl _ _, rfl⟩) ?_
      refine mK hok rfl rfl (fun a' w' F' E' => o_move (F'.ev rfl) ⟨Ext.refl _ _, rfl⟩) ?_
      refine mOff hok rfl rfl rfl rfl rfl ?_
      refine mOff hok rfl rfl rfl rfl rfl ?_
      refine mOff hok rfl rfl rfl rfl rfl ?_
      refine mOff hok rfl rfl rfl rfl rfl ?_
      refine mOff hok rfl rfl rfl rfl rfl ?_
      refine mOff hok rfl rfl rfl rfl rfl ?_
      refine mOff hok rfl rfl rfl rfl rfl ?_
      refine mK hok rfl rfl (fun a' w' F' E' => o_pickF (F'.ev rfl) (F'.ev rfl) ⟨Ext.refl _ _, rfl⟩) ?_
      refine mK hok rfl rfl (fun a' w' F' E' => o_assign (F'.ev rfl) ⟨Ext.refl _ _, rfl⟩) ?_
      (refine mDone rfl rfl ?_; clear F; clear M; intro a w F hE2 hX hTT hDD hPP; have M := M1.later hE2; clear M1; clear hX; clear hE2; clear hok; clear hE; clear hTT; clear hDD; clear hPP; (try dsimp only at F))
      with_reducible refine l_nil ?_
      with_reducible refine q_then ?_
      with_reducible refine c_ret ?_
      refine p_ret F rfl (.cons (.tmp (F.ev rfl)) .nil) ?_
      exact ⟨by show Value.bool _ = Value.bool _; simp [validP, h1], M.ext⟩
  · refine c_draw 18 F (by kernel_rfl) ?_
    intro w1 hE hok
    have M1 := M.later hE
    refine mK hok rfl rfl (fun a' w' F' E' => o_fieldAddr (F'.ev rfl) ⟨Ext.refl _ _, rfl⟩) ?_
    refine mK hok rfl rfl (fun a' w' F' E' => o_load1 (M1.later E') (F'.ev rfl) (by repeat (first | exact .here | apply Has.there)) (by first | assumption | rfl) ⟨Ext.refl _ _, rfl⟩) ?_
    refine mK hok rfl rfl (fun a' w' F' E' => o_geqF (F'.ev rfl) (F'.ev rfl) (by omega) ⟨Ext.refl _ _, rfl⟩) ?_
    refine mK hok rfl rfl (fun a' w' F' E' => o_move (F'.ev rfl) ⟨Ext.refl _ _, rfl⟩) ?_
    refine mOff hok rfl rfl rfl rfl rfl ?_
    refine mOff hok rfl rfl rfl rfl rfl ?_
    refine mOff hok rfl rfl rfl rfl rfl ?_
    refine mK hok rfl rfl (fun a' w' F' E' => o_pickF (F'.ev rfl) (F'.ev rfl) ⟨Ext.refl _ _, rfl⟩) ?_
    refine mK hok rfl rfl (fun a' w' F' E' => o_move (F'.ev rfl) ⟨Ext.refl _ _, rfl⟩) ?_
    refine mOff hok rfl rfl rfl rfl rfl ?_
    refine mOff hok rfl rfl rfl rfl rfl ?_
    refine mOff hok rfl rfl rfl rfl rfl ?_
    refine mOff hok rfl rfl rfl rfl rfl ?_
    refine mOff hok rfl rfl rfl rfl rfl ?_
    refine mOff hok rfl rfl rfl rfl rfl ?_
    refine mOff hok rfl rfl rfl rfl rfl ?_
    refine mK hok rfl rfl (fun a' w' F' E' => o_pickF (F'.ev rfl) (F'.ev rfl) ⟨Ext.refl _ _, rfl⟩) ?_
    refine mK hok rfl rfl (fun a' w' F' E' => o_assign (F'.ev rfl) ⟨Ext.refl _ _, rfl⟩) ?_
    (refine mDone rfl rfl ?_; clear F; clear M; intro a w F hE2 hX hTT hDD hPP; have M := M1.later hE2; clear M1; clear hX; clear hE2; clear hok; clear hE; clear hTT; clear hDD; clear hPP; (try dsimp only at F))
    with_reducible refine l_nil ?_
    with_reducible refine q_then ?_
    with_reducible refine c_ret ?_
    refine p_ret F rfl (.cons (.tmp (F.ev rfl)) .nil) ?_
    exact ⟨by show Value.bool _ = Value.bool _; simp [validP, h0], M.ext⟩
end Go.Proofs.YtadnpidadcgdcaaDoor

/-! Q2 -/
/-
  address.Contains, Covers.
-/
namespace Go.Proofs.YtadnpidadcgdcaaDoor
set_option linter.unusedVariables false
set_option linter.unusedSimpArgs false
open Go.RowKit
attribute [local irreducible] OpTo wpListIn Code.wpIn MW Cal

theorem validP_bd {a : List Int} {n : Int} (h : validP a n = true) : 0 ≤ n ∧ n ≤ 128 := by
  simp only [validP, Bool.and_eq_true, decide_eq_true_eq] at h
  exact h.1

set_option maxHeartbeats 2000000 in
theorem contains_c (p : List Int) (n : Int) (hp : p.length = 16) (b : List Int) (hb : b.length = 16) (W : World) : Cal Tryd.prog 20 [.agg (pfC p n).toArray, .agg (ipC b).toArray].toArray W fun v w' => v = .bool (containsP p n b) ∧ Ext [] W w' := by
  have e1 := seg_pf hp n
  have e2 := seg_pf0 hp n
  have e3 := nth_pf hp n
  have e4 := fits_pf hp n
  have e5 := fits_pf (maskI_len b n) n
  have e6 := seg_all (ipC_len hb)
  refine fn_ofM (n := 15) [] Tryd.func20 rfl rfl rfl ?_
  intro a w F M hwW
  refine c_seq ?_
  refine c_region ?_
  (refine stepD rfl F rfl (o_box M (F.ev rfl) rfl ?_); clear F; clear M; intro b1 w M a F)
  (refine stepD rfl F rfl (o_box M (F.ev rfl) rfl ?_); clear F; clear M; intro b2 w M a F)
  refine stepD rfl F rfl (o_assign (F.ev rfl) ?_); clear F; clear a; intro a F
  with_reducible refine l_nil ?_
  with_reducible refine q_then ?_
  with_reducible refine c_seq ?_
  replace F := F.only [2, 3] rfl
  by_cases hv : validP p n = true
  · obtain ⟨h0, h1⟩ := validP_bd hv
    refine c_draw 11 F (by kernel_rfl) ?_
    intro w1 hE hok
    have M1 := M.later hE
    refine mK hok rfl rfl (fun a' w' F' E' => o_loadA (M1.later E') (F'.ev rfl) (by repeat (first | exact .here | apply Has.there)) (by first | assumption | rfl) ⟨Ext.refl _ _, rfl⟩) ?_
    (refine mK hok rfl rfl (fun a' w' F' E' => o_call (F'.ev rfl) (F'.evs rfl) (Cal.mono (validPrefix_c p n hp _) fun _ _ hh => ⟨hh.2, hh.1⟩)) ?_)
    rw [hv]
    refine mK hok rfl rfl (fun a' w' F' E' => o_move (F'.ev rfl) ⟨Ext.refl _ _, rfl⟩) ?_
    refine mKG hok rfl rfl rfl rfl (fun a' w' F' E' => o_loadA (M1.later E') (F'.ev rfl) (by repeat (first | exact .here | apply Has.there)) (by first | assumption | rfl) ⟨Ext.refl _ _, rfl⟩) ?_
    refine mKG hok rfl rfl rfl rfl (fun a' w' F' E' => o_fieldAddr (F'.ev rfl) ⟨Ext.refl _ _, rfl⟩) ?_
    refine mKG hok rfl rfl rfl rfl (fun a' w' F' E' => o_load1 (M1.later E') (F'.ev rfl) (by repeat (first | exact .here | apply Has.there)) (by first | assumption | rfl) ⟨Ext.refl _ _, rfl⟩) ?_
    (refine mKG hok rfl rfl rfl rfl (fun a' w' F' E' => o_call (F'.ev rfl) (F'.evs rfl) (Cal.mono (maskIn_c b hb n h0 h1 _) fun _ _ hh => ⟨hh.2, hh.1⟩)) ?_)
    refine mKG hok rfl rfl rfl rfl (fun a' w' F' E' => o_loadA (M1.later E') (F'.ev rfl) (by repeat (first | exact .here | apply Has.there)) (by first | assumption | rfl) ⟨Ext.refl _ _, rfl⟩) ?_
    refine mKG hok rfl rfl rfl rfl (fun a' w' F' E' => o_eqlA (F'.ev rfl) (F'.ev rfl) (by first | assumption | rfl) (by first | assumption | rfl) ⟨Ext.refl _ _, rfl⟩) ?_
    refine mK hok rfl rfl (fun a' w' F' E' => o_pickT (F'.ev rfl) (F'.ev rfl) ⟨Ext.refl _ _, rfl⟩) ?_
    refine mK hok rfl rfl (fun a' w' F' E' => o_assign (F'.ev rfl) ⟨Ext.refl _ _, rfl⟩) ?_
    (refine mDone rfl rfl ?_; clear F; clear M; intro a w F hE2 hX hTT hDD hPP; have M := M1.later hE2; clear M1; clear hX; clear hE2; clear hok; clear hE; clear hTT; clear hDD; clear hPP; (try dsimp only at F))
    with_reducible refine l_nil ?_
    with_reducible refine q_then ?_
    with_reducible refine c_ret ?_
    refine p_ret F rfl (.cons (.tmp (F.ev rfl)) .nil) ?_
    refine ⟨?_, M.ext⟩
    show Value.bool _ = Value.bool _
    rw [eqVs_pf (by rw [maskI_len, hp])]
    simp [containsP, hv]
  · replace hv : validP p n = false := by simpa using hv
    refine c_draw 11 F (by kernel_rfl) ?_
    intro w1 hE hok
    have M1 := M.later hE
    refine mK hok rfl rfl (fun a' w' F' E' => o_loadA (M1.later E') (F'.ev rfl) (by repeat (first | exact .here | apply Has.there)) (by first | assumption | rfl) ⟨Ext.refl _ _, rfl⟩) ?_
    (refine mK hok rfl rfl (fun a' w' F' E' => o_call (F'.ev rfl) (F'.evs rfl) (Cal.mono (validPrefix_c p n hp _) fun _ _ hh => ⟨hh.2, hh.1⟩)) ?_)
    rw [hv]
    refine mK hok rfl rfl (fun a' w' F' E' => o_move (F'.ev rfl) ⟨Ext.refl _ _, rfl⟩) ?_
    refine mOff hok rfl rfl rfl rfl rfl ?_
    refine mOff hok rfl rfl rfl rfl rfl ?_
    refine mOff hok rfl rfl rfl rfl rfl ?_
    refine mOff hok rfl rfl rfl rfl rfl ?_
    refine mOff hok rfl rfl rfl rfl rfl ?_
    refine mOff hok rfl rfl rfl rfl rfl ?_
    refine mK hok rfl rfl (fun a' w' F' E' => o_pickF (F'.ev rfl) (F'.ev rfl) ⟨Ext.refl _ _, rfl⟩) ?_
    refine mK hok rfl rfl (fun a' w' F' E' => o_assign (F'.ev rfl) ⟨Ext.refl _ _, rfl⟩) ?_
    (refine mDone rfl rfl ?_; clear F; clear M; intro a w F hE2 hX hTT hDD hPP; have M := M1.later hE2; clear M1; clear hX; clear hE2; clear hok; clear hE; clear hTT; clear hDD; clear hPP; (try dsimp only at F))
    with_reducible refine l_nil ?_
    with_reducible refine q_then ?_
    with_reducible refine c_ret ?_
    refine p_ret F rfl (.cons (.tmp (F.ev rfl)) .nil) ?_
    exact ⟨by show Value.bool _ = Value.bool _; simp [containsP, hv], M.ext⟩

set_option maxHeartbeats 2000000 in
theorem covers_c (p : List Int) (n : Int) (hp : p.length = 16) (b : List Int) (m : Int) (hb : b.length = 16) (W : World) : Cal Tryd.prog 21 [.agg (pfC p n).toArray, .agg (pfC b m).toArray].toArray W fun v w' => v = .bool (coversP p n b m) ∧ Ext [] W w' := by
  have e1 := seg_pf hp n
  have e3 := nth_pf hp n
  have f1 := seg_pf hb m
  have f2 := seg_pf0 hb m
  have f3 := nth_pf hb m
  refine fn_ofM (n := 20) [] Tryd.func21 rfl rfl rfl ?_
  intro a w F M hwW
  refine c_seq ?_
  refine c_region ?_
  (refine stepD rfl F rfl (o_box M (F.ev rfl) rfl ?_); clear F; clear M; intro b1 w M a F)
  (refine stepD rfl F rfl (o_box M (F.ev rfl) rfl ?_); clear F; clear M; intro b2 w M a F)
  refine stepD rfl F rfl (o_assign (F.ev rfl) ?_); clear F; clear a; intro a F
  with_reducible refine l_nil ?_
  with_reducible refine q_then ?_
  with_reducible refine c_seq ?_
  with_reducible refine c_region ?_
  refine stepD rfl F rfl (o_loadA M (F.ev rfl) (by repeat (first | exact .here | apply Has.there)) (by first | assumption | rfl) ?_); clear F; clear a; intro a F
  (refine stepD rfl F rfl (o_call (F.ev rfl) (F.evs rfl) (Cal.mono (validPrefix_c b m hb _) ?_)); clear F; clear a; rintro _ w ⟨rfl, hE⟩ a F; replace M := M.later hE; clear hE)
  unfold coversP
  cases hv : validP b m
  · rw [hv] at F
    refine stepD rfl F rfl (o_move (F.ev rfl) ?_); clear F; clear a; intro a F
    refine stepOff F rfl rfl rfl rfl ?_; clear F; clear a; intro a F
    refine stepOff F rfl rfl rfl rfl ?_; clear F; clear a; intro a F
    refine stepOff F rfl rfl rfl rfl ?_; clear F; clear a; intro a F
    refine stepOff F rfl rfl rfl rfl ?_; clear F; clear a; intro a F
    refine stepD rfl F rfl (o_pickF (F.ev rfl) (F.ev rfl) ?_); clear F; clear a; intro a F
    refine stepD rfl F rfl (o_move (F.ev rfl) ?_); clear F; clear a; intro a F
    refine stepOff F rfl rfl rfl rfl ?_; clear F; clear a; intro a F
    refine stepOff F rfl rfl rfl rfl ?_; clear F; clear a; intro a F
    refine stepOff F rfl rfl rfl rfl ?_; clear F; clear a; intro a F
    refine stepOff F rfl rfl rfl rfl ?_; clear F; clear a; intro a F
    refine stepOff F rfl rfl rfl rfl ?_; clear F; clear a; intro a F
    refine stepD rfl F rfl (o_pickF (F.ev rfl) (F.ev rfl) ?_); clear F; clear a; intro a F
    refine stepD rfl F rfl (o_assign (F.ev rfl) ?_); clear F; clear a; intro a F
    with_reducible refine l_nil ?_
    with_reducible refine q_then ?_
    with_reducible refine c_ret ?_
    refine p_ret F rfl (.cons (.tmp (F.ev rfl)) .nil) ?_
    exact ⟨rfl, M.ext⟩
  · rw [hv] at F
    refine stepD rfl F rfl (o_move (F.ev rfl) ?_); clear F; clear a; intro a F
    refine stepG rfl F rfl rfl rfl (o_loadA M (F.ev rfl) (by repeat (first | exact .here | apply Has.there)) (by first | assumption | rfl) ?_); clear F; clear a; intro a F
    refine stepG rfl F rfl rfl rfl (o_fieldAddr (F.ev rfl) ?_); clear F; clear a; intro a F
    refine stepG rfl F rfl rfl rfl (o_loadA M (F.ev rfl) (by repeat (first | exact .here | apply Has.there)) (by first | assumption | rfl) ?_); clear F; clear a; intro a F
    (refine stepG rfl F rfl rfl rfl (o_call (F.ev rfl) (F.evs rfl) (Cal.mono (contains_c p n hp b hb _) ?_)); clear F; clear a; rintro _ w ⟨rfl, hE⟩ a F; replace M := M.later hE; clear hE)
    cases hc : containsP p n b
    · rw [hc] at F
      refine stepD rfl F rfl (o_pickT (F.ev rfl) (F.ev rfl) ?_); clear F; clear a; intro a F
      refine stepD rfl F rfl (o_move (F.ev rfl) ?_); clear F; clear a; intro a F
      refine stepOff F rfl rfl rfl rfl ?_; clear F; clear a; intro a F
      refine stepOff F rfl rfl rfl rfl ?_; clear F; clear a; intro a F
      refine stepOff F rfl rfl rfl rfl ?_; clear F; clear a; intro a F
      refine stepOff F rfl rfl rfl rfl ?_; clear F; clear a; intro a F
      refine stepOff F rfl rfl rfl rfl ?_; clear F; clear a; intro a F
      refine stepD rfl F rfl (o_pickF (F.ev rfl) (F.ev rfl) ?_); clear F; clear a; intro a F
      refine stepD rfl F rfl (o_assign (F.ev rfl) ?_); clear F; clear a; intro a F
      with_reducible refine l_nil ?_
      with_reducible refine q_then ?_
      with_reducible refine c_ret ?_
      refine p_ret F rfl (.cons (.tmp (F.ev rfl)) .nil) ?_
      exact ⟨rfl, M.ext⟩
    · rw [hc] at F
      refine stepD rfl F rfl (o_pickT (F.ev rfl) (F.ev rfl) ?_); clear F; clear a; intro a F
      refine stepD rfl F rfl (o_move (F.ev rfl) ?_); clear F; clear a; intro a F
      refine stepG rfl F rfl rfl rfl (o_fieldAddr (F.ev rfl) ?_); clear F; clear a; intro a F
      refine stepG rfl F rfl rfl rfl (o_load1 M (F.ev rfl) (by repeat (first | exact .here | apply Has.there)) (by first | assumption | rfl) ?_); clear F; clear a; intro a F
      refine stepG rfl F rfl rfl rfl (o_fieldAddr (F.ev rfl) ?_); clear F; clear a; intro a F
      refine stepG rfl F rfl rfl rfl (o_load1 M (F.ev rfl) (by repeat (first | exact .here | apply Has.there)) (by first | assumption | rfl) ?_); clear F; clear a; intro a F
      refine stepG rfl F rfl rfl rfl (o_leq (F.ev rfl) (F.ev rfl) ?_); clear F; clear a; intro a F
      refine stepD rfl F rfl (o_pickT (F.ev rfl) (F.ev rfl) ?_); clear F; clear a; intro a F
      refine stepD rfl F rfl (o_assign (F.ev rfl) ?_); clear F; clear a; intro a F
      with_reducible refine l_nil ?_
      with_reducible refine q_then ?_
      with_reducible refine c_ret ?_
      refine p_ret F rfl (.cons (.tmp (F.ev rfl)) .nil) ?_
      exact ⟨rfl, M.ext⟩
end Go.Proofs.YtadnpidadcgdcaaDoor

/-! Q3 -/
/-
  address.Common.
-/
namespace Go.Proofs.YtadnpidadcgdcaaDoor
set_option linter.unusedVariables false
set_option linter.unusedSimpArgs false
open Go.RowKit
attribute [local irreducible] OpTo wpListIn Code.wpIn MW Cal

theorem lz8_c (x : Int) (W : World) (h0 : 0 ≤ x) (h1 : x ≤ 255) : Cal Tryd.prog 64 [.int .u8 x].toArray W fun v w' => v = .int .i64 (8 - (Lib.bitLen x.toNat : Int)) ∧ Ext [] W w' :=
  Cal.of_calls (Tryd.bits_LeadingZeros8 x W h0 h1) fun e w' ⟨he, hw⟩ => ⟨_, he, rfl, by rw [hw]; exact Ext.refl _ _⟩
def xorAt (a b : List Int) (i : Nat) : Int := bitsOf .xor .u8 (a.getD i 0) (b.getD i 0)
/-- the k last bytes -/
def commonFrom (a b : List Int) : Nat → Int
  | 0 => 128
  | k + 1 => if xorAt a b (15 - k) ≠ 0 then 8 * ((15 - k : Nat) : Int) + (8 - (Lib.bitLen (xorAt a b (15 - k)).toNat : Int)) else commonFrom a b k
def commonI (a b : List Int) : Int := commonFrom a b 16
theorem xor_bd {a b : List Int} (ha : IsIP a) (hb : IsIP b) (i : Nat) : 0 ≤ xorAt a b i ∧ xorAt a b i ≤ 255 := by
  have h1 := ha.at_ i
  have h2 := hb.at_ i
  unfold xorAt
  obtain ⟨m, hm⟩ := Int.eq_ofNat_of_zero_le h1.1
  obtain ⟨n, hn⟩ := Int.eq_ofNat_of_zero_le h2.1
  rw [hm, hn, bits_xor (k := .u8) rfl (show m < 256 by omega) (show n < 256 by omega)]
  have : m ^^^ n < 2 ^ 8 := Nat.xor_lt_two_pow (show m < 2 ^ 8 by omega) (show n < 2 ^ 8 by omega)
  omega
theorem bitLen_le8 {x : Int} (h0 : 0 ≤ x) (h1 : x ≤ 255) : 0 ≤ 8 - (Lib.bitLen x.toNat : Int) ∧ 8 - (Lib.bitLen x.toNat : Int) ≤ 8 := by
  have := Lib.bitLen_le8 ⟨x.toNat, by omega⟩
  dsimp only at this
  omega

set_option maxHeartbeats 2000000 in
theorem common_c (p q : List Int) (hp : IsIP p) (hq : IsIP q) (W : World) : Cal Tryd.prog 22 [.agg (ipC p).toArray, .agg (ipC q).toArray].toArray W fun v w' => v = .int .i64 (commonI p q) ∧ Ext [] W w' := by
  refine fn_ofM (n := 25) [] Tryd.func22 rfl rfl rfl ?_
  intro a w F M hwW
  refine c_seq ?_
  refine c_region ?_
  (refine stepD rfl F rfl (o_box M (F.ev rfl) rfl ?_); clear F; clear M; intro b1 w M a F)
  (refine stepD rfl F rfl (o_box M (F.ev rfl) rfl ?_); clear F; clear M; intro b2 w M a F)
  refine stepD rfl F rfl (o_assign (F.ev rfl) ?_); clear F; clear a; intro a F
  with_reducible refine l_nil ?_
  with_reducible refine q_then ?_
  with_reducible refine c_seq ?_
  with_reducible refine c_seq ?_
  with_reducible refine c_region ?_
  refine stepD rfl F rfl (o_move (F.ev rfl) ?_); clear F; clear a; intro a F
  with_reducible refine l_nil ?_
  with_reducible refine q_then ?_
  with_reducible refine c_block ?_
  refine c_loop (fun k a w => ∃ i : Nat, k = 16 - i ∧ i ≤ 16 ∧ commonI p q = commonFrom p q (16 - i) ∧ Frm a 25 [] [(7, .int .i64 i), (2, .pointer (some ⟨b1, 0, none⟩)), (3, .pointer (some ⟨b2, 0, none⟩))] ∧ Mem [] W w [(b2, .cells (ipC q).toArray 23 (0, 0)), (b1, .cells (ipC p).toArray 23 (0, 0))]) 16 ⟨0, rfl, by omega, rfl, F.only [7, 2, 3] rfl, M⟩ ?_
  clear F M
  rintro k a w ⟨i, hk, hi, hc, F, M⟩
  by_cases hlt : i < 16
  · have n1 := nth_ip (a := p) (i := i) (by rw [hp.len]; exact hlt)
    have n2 := nth_ip (a := q) (i := i) (by rw [hq.len]; exact hlt)
    have hstep : commonFrom p q (16 - i) = if xorAt p q i ≠ 0 then 8 * (i : Int) + (8 - (Lib.bitLen (xorAt p q i).toNat : Int)) else commonFrom p q (16 - (i + 1)) := by
      obtain ⟨k, hk⟩ : ∃ k, 16 - i = k + 1 := ⟨15 - i, by omega⟩
      rw [hk, commonFrom, show 15 - k = i by omega, show 16 - (i + 1) = k by omega]
    have hxb := xor_bd hp hq i
    with_reducible refine c_seq ?_
    with_reducible refine c_region ?_
    refine stepD rfl F rfl (o_lssT (F.ev rfl) (F.ev rfl) (by omega) ?_); clear F; clear a; intro a F
    with_reducible refine l_nil ?_
    with_reducible refine q_then ?_
    with_reducible refine c_seq ?_
    refine c_true F rfl rfl ?_
    with_reducible refine c_skip ?_
    with_reducible refine q_then ?_
    with_reducible refine c_seq ?_
    with_reducible refine c_block ?_
    with_reducible refine c_seq ?_
    with_reducible refine c_region ?_
    refine stepD rfl F rfl (o_move (F.ev rfl) ?_); clear F; clear a; intro a F
    refine stepD rfl F rfl (o_assign (F.ev rfl) ?_); clear F; clear a; intro a F
    with_reducible refine l_nil ?_
    with_reducible refine q_then ?_
    with_reducible refine c_seq ?_
    refine c_draw 8 F (by kernel_rfl) ?_
    intro w1 hE hok
    have M1 := M.later hE
    refine mK hok rfl rfl (fun a' w' F' E' => o_move (F'.ev rfl) ⟨Ext.refl _ _, rfl⟩) ?_
    refine mK hok rfl rfl (fun a' w' F' E' => o_indexArr (F'.ev rfl) (F'.ev rfl) (by omega) (by omega) ⟨Ext.refl _ _, rfl⟩) ?_
    refine mK hok rfl rfl (fun a' w' F' E' => o_load1 (M1.later E') (F'.ev rfl) (by repeat (first | exact .here | apply Has.there)) (by first | assumption | rfl) ⟨Ext.refl _ _, rfl⟩) ?_
    refine mK hok rfl rfl (fun a' w' F' E' => o_move (F'.ev rfl) ⟨Ext.refl _ _, rfl⟩) ?_
    refine mK hok rfl rfl (fun a' w' F' E' => o_indexArr (F'.ev rfl) (F'.ev rfl) (by omega) (by omega) ⟨Ext.refl _ _, rfl⟩) ?_
    refine mK hok rfl rfl (fun a' w' F' E' => o_load1 (M1.later E') (F'.ev rfl) (by repeat (first | exact .here | apply Has.there)) (by first | assumption | rfl) ⟨Ext.refl _ _, rfl⟩) ?_
    refine mK hok rfl rfl (fun a' w' F' E' => o_xor (F'.ev rfl) (F'.ev rfl) rfl ⟨Ext.refl _ _, rfl⟩) ?_
    refine mK hok rfl rfl (fun a' w' F' E' => o_assign (F'.ev rfl) ⟨Ext.refl _ _, rfl⟩) ?_
    (refine mDone rfl rfl ?_; clear F; clear M; intro a w F hE2 hX hTT hDD hPP; have M := M1.later hE2; clear M1; clear hX; clear hE2; clear hok; clear hE; clear hTT; clear hDD; clear hPP; (try dsimp only at F))
    rw [show bitsOf BinOp.xor IntKind.u8 (p.getD i 0) (q.getD i 0) = xorAt p q i from rfl] at F
    generalize xorAt p q i = x at *
    have hbl := bitLen_le8 hxb.1 hxb.2
    by_cases hx : x = 0
    · rw [if_neg (by simp [hx])] at hstep
      with_reducible refine l_nil ?_
      with_reducible refine q_then ?_
      with_reducible refine c_seq ?_
      with_reducible refine c_region ?_
      refine stepD rfl F rfl (o_move (F.ev rfl) ?_); clear F; clear a; intro a F
      refine stepD rfl F rfl (o_neqF (F.ev rfl) (F.ev rfl) (by omega) ?_); clear F; clear a; intro a F
      with_reducible refine l_nil ?_
      with_reducible refine q_then ?_
      refine c_false F rfl rfl ?_
      with_reducible refine c_skip ?_
      with_reducible refine q_inB ?_
      with_reducible refine q_then ?_
      with_reducible refine c_region ?_
      refine stepD rfl F rfl (o_add (F.ev rfl) (F.ev rfl) (w_i64 (by omega) (by omega)) ?_); clear F; clear a; intro a F
      refine stepD rfl F rfl (o_move (F.ev rfl) ?_); clear F; clear a; intro a F
      with_reducible refine l_nil ?_
      with_reducible refine q_then ?_
      exact ⟨_, by omega, i + 1, rfl, by omega, by rw [hc, hstep], F.only [7, 2, 3] rfl, M⟩
    · rw [if_pos hx] at hstep
      with_reducible refine l_nil ?_
      with_reducible refine q_then ?_
      with_reducible refine c_seq ?_
      with_reducible refine c_region ?_
      refine stepD rfl F rfl (o_move (F.ev rfl) ?_); clear F; clear a; intro a F
      refine stepD rfl F rfl (o_neqT (F.ev rfl) (F.ev rfl) (by omega) ?_); clear F; clear a; intro a F
      with_reducible refine l_nil ?_
      with_reducible refine q_then ?_
      refine c_true F rfl rfl ?_
      with_reducible refine c_seq ?_
      with_reducible refine c_region ?_
      refine stepD rfl F rfl (o_move (F.ev rfl) ?_); clear F; clear a; intro a F
      refine stepD rfl F rfl (o_mul (F.ev rfl) (F.ev rfl) (w_i64 (by omega) (by omega)) ?_); clear F; clear a; intro a F
      refine stepD rfl F rfl (o_move (F.ev rfl) ?_); clear F; clear a; intro a F
      (refine stepD rfl F rfl (o_call (F.ev rfl) (F.evs rfl) (Cal.mono (lz8_c x _ hxb.1 hxb.2) ?_)); clear F; clear a; rintro _ w ⟨rfl, hE⟩ a F; replace M := M.later hE; clear hE)
      refine stepD rfl F rfl (o_add (F.ev rfl) (F.ev rfl) (w_i64 (by omega) (by omega)) ?_); clear F; clear a; intro a F
      refine stepD rfl F rfl (o_assign (F.ev rfl) ?_); clear F; clear a; intro a F
      with_reducible refine l_nil ?_
      with_reducible refine q_then ?_
      with_reducible refine c_ret ?_
      with_reducible refine q_inBR ?_
      with_reducible refine q_thenR ?_
      with_reducible refine q_thenR ?_
      with_reducible refine q_inBR ?_
      with_reducible refine q_thenR ?_
      refine p_ret F rfl (.cons (.tmp (F.ev rfl)) .nil) ?_
      exact ⟨by rw [hc, hstep]; rfl, M.ext⟩
  · obtain rfl : i = 16 := by omega
    rw [hc]
    with_reducible refine c_seq ?_
    with_reducible refine c_region ?_
    refine stepD rfl F rfl (o_lssF (F.ev rfl) (F.ev rfl) (by omega) ?_); clear F; clear a; intro a F
    with_reducible refine l_nil ?_
    with_reducible refine q_then ?_
    with_reducible refine c_seq ?_
    refine c_false F rfl rfl ?_
    with_reducible refine c_exit ?_
    with_reducible refine q_thenX ?_
    with_reducible refine q_thenX ?_
    with_reducible refine q_inBX ?_
    with_reducible refine q_then ?_
    with_reducible refine c_seq ?_
    with_reducible refine c_region ?_
    refine stepD rfl F rfl (o_assign (F.ev rfl) ?_); clear F; clear a; intro a F
    with_reducible refine l_nil ?_
    with_reducible refine q_then ?_
    with_reducible refine c_ret ?_
    refine p_ret F rfl (.cons (.tmp (F.ev rfl)) .nil) ?_
    exact ⟨rfl, M.ext⟩
end Go.Proofs.YtadnpidadcgdcaaDoor

/-! LibN -/
/-
  The calculus, part N: make, copy; blocks that came in (read, not turned).
-/
namespace Go.Proofs.YtadnpidadcgdcaaDoor
set_option linter.unusedVariables false
set_option linter.unusedSimpArgs false
open Go.RowKit

theorem Cal.to {P : Program} {f : FuncId} {args : Array Value} {w : World} {v v' : Value} {E : World → Prop} (h : Cal P f args w fun x w' => x = v ∧ E w') (e : v = v') : Cal P f args w fun x w' => x = v' ∧ E w' := e ▸ h
theorem put_all {xs ys : List Value} (h : xs.length = ys.length) : put xs 0 ys = some ys := by
  rw [put_of _ _ _ (by omega)]
  simp [splice, ← h]
/-- A block that came in: it may be named, as long as it is not turned. -/
theorem Mem.came {S : List Nat} {W w : World} {l : List (Nat × Obj)} (M : Mem S W w l) (hw : w = W) {b : Nat} {o : Obj} (hb : W.heap[b]? = some o) (hS : b ∈ S) (hn : ∀ p ∈ l, p.1 ≠ b) : Mem S W w ((b, o) :: l) :=
  M.cons (by rw [hw]; exact hb) hn (.inl hS)
/-- What came in has not been turned. -/
theorem Mem.back {S : List Nat} {W w : World} {l : List (Nat × Obj)} (M : Mem S W w l) (h : ∀ k ∈ S, ∃ o, Has l k o ∧ W.heap[k]? = some o) : Ext [] W w :=
  ⟨M.ext.os, M.ext.tape, M.ext.output, M.ext.size, fun k hk _ => by
    by_cases hS : k ∈ S
    · obtain ⟨o, h1, h2⟩ := h k hS
      rw [M.heap h1, h2]
    · exact M.ext.block k hk hS⟩
/-- .. and what the call has made. -/
theorem Mem.back' {S : List Nat} {W w : World} {l new : List (Nat × Obj)} (M : Mem S W w l) (h : ∀ k ∈ S, ∃ o, Has l k o ∧ W.heap[k]? = some o) (hs : new.Sublist l) (hn : ∀ p ∈ new, p.1 ∉ S) : Mem [] W w new :=
  ⟨M.back h, fun p hp => M.at_ p (hs.subset hp), M.nd.sublist (hs.map _), fun p hp => .inr ((M.own p (hs.subset hp)).resolve_left (hn p hp))⟩
theorem Mem.back1 {b : Nat} {o : Obj} {W w : World} {l : List (Nat × Obj)} (M : Mem [b] W w l) (h : Has l b o) (hW : W.heap[b]? = some o) : Ext [] W w :=
  M.back fun k hk => by simp only [List.mem_singleton] at hk; subst hk; exact ⟨o, h, hW⟩

section
variable {P : Program} {ρ : Operand → Value} {w W0 : World} {S : List Nat} {l l' : List (Nat × Obj)} {R : Value → World → Prop} {d : Option Tmp} {ty : TypeId} {pos : String} {af : Array Edge} {g : Option (Nat × Bool)}

/-- make, of elements of one cell -/
theorem o_make1 {t e : TypeId} {x y : Operand} {k k' : IntKind} {n : Int} {by_ : Nat} {z : Value} [ht : TU P t (.slice e)] [hel : TEl P e 1 by_] [hz : TZero P e [z]] (M : Mem S W0 w l) (hx : ρ x = .int k n) (hy : ρ y = .int k' n) (h0 : 0 ≤ n) (hb : (by_ : Int) * n ≤ 281474976710656) (h63 : n ≤ 9223372036854775807)
    (h : ∀ b w', Mem S W0 w' ((b, .cells (List.replicate n.toNat z).toArray e (0, 0)) :: l) → R (.slice (some ⟨b, 0, none⟩) n.toNat n.toNat) w') : OpTo P ⟨d, .makeSlice t x y, ty, pos, af, g⟩ ρ w R := by
  obtain ⟨i, zz, hi, hs, rfl, hz0, hzs⟩ := elB_spec hel.h
  have hzc : zz.cells = #[z] := by
    have := hz.h
    unfold zeroC at this
    rw [hi] at this
    simpa [hz0] using this
  have hr := run_make (P := P) w t e i zz ht.h hi hz0 k k' n n h0 (Int.le_refl _) hb h63
  have hm : madeCells zz.cells (n.toNat * i.size) = (List.replicate n.toNat z).toArray := by
    rw [hs, hzc, Nat.mul_one]
    apply Array.ext'
    simp only [madeCells, Array.toList_map, Array.toList_range, List.size_toArray, List.length_cons, List.length_nil]
    apply List.ext_getElem (by simp)
    intro j h1 h2
    simp [Nat.mod_one]
  rw [hm] at hr
  refine OpTo.val (v := .slice (some ⟨w.heap.size, 0, none⟩) n.toNat n.toNat) (w' := w.alloc (.cells (List.replicate n.toNat z).toArray e)) ?_ (h _ _ (M.alloc _))
  simp [execOp, hx, hy, hr]

theorem run_copy {dT sT e : TypeId} {sz b o dLen dCap n : Nat} {xv : Value} {sLen : Nat} {cs cs' ys : List Value} {t' : TypeId} (hst : P.underlying dT = some (.slice e)) (hsz : sizeIs P e sz = true) (M : Mem S W0 w l) (hlen : (Builtin.lenOf xv).run P w = .ok sLen w) (hn : n = Nat.min sLen dLen)
    (hc : (Builtin.firstCells sz n xv).run P w = .ok ys.toArray w) (h1 : ∀ v ∈ ys, v.oneCell' = true) (hb : Has l b (.cells cs.toArray t' (0, 0))) (hp : put cs o ys = some cs') (hu : Upd l b (.cells cs.toArray t' (0, 0)) (.cells cs'.toArray t' (0, 0)) l') (tyy : TypeId) :
    ∃ w', (Builtin.copy_ #[dT, sT] tyy #[.slice (some ⟨b, o, none⟩) dLen dCap, xv]).run P w = .ok (.int .i64 n) w' ∧ Mem S W0 w' l' ∧ Ext [b] w w' := by
  obtain ⟨hle, rfl⟩ := put_splice _ _ _ _ hp
  obtain ⟨w', hr, he, hh⟩ := run_storeRow (P := P) (off := o) ys 0 cs w (M.heap hb) (by simpa using hle) h1
  refine ⟨w', ?_, M.turned hu he (by simpa using hh), he⟩
  subst hn
  simp [Builtin.copy_, run_underlying hst, hlen, run_sizeOf hsz, hc, hr, goInt]
/-- copy into a block of ours, out of a slice whose block is known -/
theorem o_copy {dT sT e : TypeId} {x y : Operand} {sz b o dLen dCap b' o' sLen sCap n : Nat} {cs cs' ds ys : List Value} {t' t'' : TypeId} {fz : Nat × Nat} [hst : TU P dT (.slice e)] [hsz : TSz P e sz] (M : Mem S W0 w l) (hx : ρ x = .slice (some ⟨b, o, none⟩) dLen dCap) (hy : ρ y = .slice (some ⟨b', o', none⟩) sLen sCap) (hn : n = Nat.min sLen dLen)
    (hs : Has l b' (.cells ds.toArray t'' fz)) (hv : seg ds o' (n * sz) = some ys) (h1 : ys.all (·.oneCell') = true) (hb : Has l b (.cells cs.toArray t' (0, 0))) (hp : put cs o ys = some cs') (hu : Upd l b (.cells cs.toArray t' (0, 0)) (.cells cs'.toArray t' (0, 0)) l')
    (h : ∀ w', Mem S W0 w' l' → R (.int .i64 n) w') : OpTo P ⟨d, .call ⟨.builtin .copy, #[x, y], #[dT, sT]⟩, ty, pos, af, g⟩ ρ w R := by
  have hsrc := (SrcOf.cells' (P := P) (m := n) (c := sCap) (sz := sz) (M.heap hs) hv h1).cells w.drawn
  have hc : (Builtin.firstCells sz n (.slice (some ⟨b', o', none⟩) sLen sCap)).run P w = .ok ys.toArray w := by
    simpa [Builtin.firstCells] using hsrc
  obtain ⟨w', hr, M', _⟩ := run_copy (sT := sT) (dLen := dLen) (dCap := dCap) (o := o) hst.h hsz.h M (by simp [Builtin.lenOf]) hn hc (fun v hv => List.all_eq_true.1 h1 v hv) hb hp hu ty
  exact OpTo.val (v := .int .i64 n) (w' := w') (by simp [execOp, resolve, invoke, builtin, hx, hy, hr]) (h _ M')
/-- copy out of the nil slice -/
theorem o_copyNil {dT sT e : TypeId} {x y : Operand} {sz : Nat} {p : Option Addr} {dLen dCap : Nat} [hst : TU P dT (.slice e)] [hsz : TSz P e sz] (hx : ρ x = .slice p dLen dCap) (hy : ρ y = .slice none 0 0) (h : R (.int .i64 0) w) : OpTo P ⟨d, .call ⟨.builtin .copy, #[x, y], #[dT, sT]⟩, ty, pos, af, g⟩ ρ w R := by
  refine OpTo.val (v := .int .i64 0) (w' := w) ?_ h
  cases p <;> simp [execOp, resolve, invoke, builtin, hx, hy, Builtin.copy_, run_underlying hst.h, Builtin.lenOf, run_sizeOf hsz.h, Builtin.firstCells, storeCells, goInt]
end
/-- a slice over the whole of a new block -/
def NewS (n0 len cap : Nat) (o : Obj) : Pred := fun v w => ∃ b, v = .slice (some ⟨b, 0, none⟩) len cap ∧ n0 ≤ b ∧ w.heap[b]? = some o
theorem NewS.stays (n0 len cap : Nat) (o : Obj) : Stays keepAll (NewS n0 len cap o) := fun v w w' ⟨b, h1, h2, h3⟩ h => ⟨b, h1, h2, by
  rw [Ext.block h b (Array.getElem?_eq_some_iff.1 h3).1 (by simp)]; exact h3⟩
theorem newS_of {w1 w w' : World} {len cap : Nat} {o : Obj} {x : Value} (E : Ext [] w1 w) (h : ∃ b, x = .slice (some ⟨b, 0, none⟩) len cap ∧ Mem [] w w' [(b, o)]) : Ext [] w w' ∧ NewS w1.heap.size len cap o x w' := by
  obtain ⟨b, rfl, N⟩ := h
  refine ⟨N.ext, b, rfl, ?_, N.heap .here⟩
  have := (N.own (b, o) (by simp)).resolve_left (by simp)
  exact Nat.le_trans E.size this
end Go.Proofs.YtadnpidadcgdcaaDoor

/-! Q4 -/
/-
  Small facts on addresses' and prefixes' cells.
-/
namespace Go.Proofs.YtadnpidadcgdcaaDoor
set_option linter.unusedVariables false
set_option linter.unusedSimpArgs false
open Go.RowKit

theorem one_ip (a : List Int) : (ipC a).all (·.oneCell') = true := by
  rw [List.all_eq_true]
  intro v hv
  obtain ⟨x, _, rfl⟩ := List.mem_map.1 hv
  rfl
theorem one_pf (a : List Int) (n : Int) : (pfC a n).all (·.oneCell') = true := by
  unfold pfC
  rw [List.all_append, one_ip]
  rfl
theorem modI_bd (x : Int) {n : Int} (hn : 0 < n) : 0 ≤ modI x n ∧ modI x n < n := by
  have h1 := Int.tmod_lt_of_pos x hn
  have h2 : -n < x.tmod n := by have := Int.tmod_lt_of_pos (-x) hn; rw [Int.neg_tmod] at this; omega
  unfold modI
  split <;> omega
theorem eqVs_self {a : List Int} {n : Int} : eqVs (pfC a n) (pfC a n) = true := by rw [eqVs_pf rfl]; simp

end Go.Proofs.YtadnpidadcgdcaaDoor

/-! A1 -/
/-
  address.Valid, IID.
-/
namespace Go.Proofs.YtadnpidadcgdcaaDoor
set_option linter.unusedVariables false
set_option linter.unusedSimpArgs false
open Go.RowKit
attribute [local irreducible] OpTo wpListIn Code.wpIn MW Cal

/-- the cells of a link address -/
def adC (m s e : Int) : List Value := [.int .i64 m, .int .u16 s, .int .u64 e]
def validA (m s e : Int) : Bool := if m = 0 then s == 0 && e == 0 else if m = 2 then e == 0 else if m = 3 then s == 0 else false

set_option maxHeartbeats 400000 in
theorem valid_c (m s e : Int) (W : World) : Cal Tryd.prog 49 [.agg (adC m s e).toArray].toArray W fun v w' => v = .bool (validA m s e) ∧ Ext [] W w' := by
  unfold adC validA
  by_cases h0 : m = 0
  · subst h0
    refine fn_ofM (n := 20) [] Tryd.func49 rfl rfl rfl ?_
    intro a w F M hwW
    refine c_seq ?_
    refine c_region ?_
    (refine stepD rfl F rfl (o_box M (F.ev rfl) rfl ?_); clear F; clear M; intro b1 w M a F)
    refine stepD rfl F rfl (o_assign (F.ev rfl) ?_); clear F; clear a; intro a F
    with_reducible refine l_nil ?_
    with_reducible refine q_then ?_
    with_reducible refine c_seq ?_
    with_reducible refine c_seq ?_
    with_reducible refine c_region ?_
    refine stepD rfl F rfl (o_fieldAddr (F.ev rfl) ?_); clear F; clear a; intro a F
    refine stepD rfl F rfl (o_load1 M (F.ev rfl) (by repeat (first | exact .here | apply Has.there)) (by first | assumption | rfl) ?_); clear F; clear a; intro a F
    with_reducible refine l_nil ?_
    with_reducible refine q_then ?_
    with_reducible refine c_block ?_
    with_reducible refine c_seq ?_
    with_reducible refine c_region ?_
    refine stepD rfl F rfl (o_eqlT (F.ev rfl) (F.ev rfl) (by omega) ?_); clear F; clear a; intro a F
    refine stepD rfl F rfl (o_assign (F.ev rfl) ?_); clear F; clear a; intro a F
    with_reducible refine l_nil ?_
    with_reducible refine q_then ?_
    refine c_true F rfl rfl ?_
    with_reducible refine c_seq ?_
    with_reducible refine c_region ?_
    refine stepD rfl F rfl (o_loadA M (F.ev rfl) (by repeat (first | exact .here | apply Has.there)) (by first | assumption | rfl) ?_); clear F; clear a; intro a F
    refine stepD rfl F rfl (o_build F rfl rfl ?_); clear F; clear a; intro a F
    refine stepD rfl F rfl (o_eqlA (F.ev rfl) (F.ev rfl) (by first | assumption | rfl) (by first | assumption | rfl) ?_); clear F; clear a; intro a F
    refine stepD rfl F rfl (o_assign (F.ev rfl) ?_); clear F; clear a; intro a F
    with_reducible refine l_nil ?_
    with_reducible refine q_then ?_
    with_reducible refine c_ret ?_
    with_reducible refine q_inBR ?_
    with_reducible refine q_thenR ?_
    refine p_ret F rfl (.cons (.tmp (F.ev rfl)) .nil) ?_
    exact ⟨by simp [oneOr, eqVs, eqV], M.ext⟩
  · by_cases h2 : m = 2
    · subst h2
      refine fn_ofM (n := 20) [] Tryd.func49 rfl rfl rfl ?_
      intro a w F M hwW
      refine c_seq ?_
      refine c_region ?_
      (refine stepD rfl F rfl (o_box M (F.ev rfl) rfl ?_); clear F; clear M; intro b1 w M a F)
      refine stepD rfl F rfl (o_assign (F.ev rfl) ?_); clear F; clear a; intro a F
      with_reducible refine l_nil ?_
      with_reducible refine q_then ?_
      with_reducible refine c_seq ?_
      with_reducible refine c_seq ?_
      with_reducible refine c_region ?_
      refine stepD rfl F rfl (o_fieldAddr (F.ev rfl) ?_); clear F; clear a; intro a F
      refine stepD rfl F rfl (o_load1 M (F.ev rfl) (by repeat (first | exact .here | apply Has.there)) (by first | assumption | rfl) ?_); clear F; clear a; intro a F
      with_reducible refine l_nil ?_
      with_reducible refine q_then ?_
      with_reducible refine c_block ?_
      with_reducible refine c_seq ?_
      with_reducible refine c_region ?_
      refine stepD rfl F rfl (o_eqlF (F.ev rfl) (F.ev rfl) (by omega) ?_); clear F; clear a; intro a F
      refine stepD rfl F rfl (o_assign (F.ev rfl) ?_); clear F; clear a; intro a F
      with_reducible refine l_nil ?_
      with_reducible refine q_then ?_
      refine c_false F rfl rfl ?_
      with_reducible refine c_seq ?_
      with_reducible refine c_region ?_
      refine stepD rfl F rfl (o_eqlT (F.ev rfl) (F.ev rfl) (by omega) ?_); clear F; clear a; intro a F
      refine stepD rfl F rfl (o_assign (F.ev rfl) ?_); clear F; clear a; intro a F
      with_reducible refine l_nil ?_
      with_reducible refine q_then ?_
      refine c_true F rfl rfl ?_
      with_reducible refine c_seq ?_
      with_reducible refine c_region ?_
      refine stepD rfl F rfl (o_fieldAddr (F.ev rfl) ?_); clear F; clear a; intro a F
      refine stepD rfl F rfl (o_load1 M (F.ev rfl) (by repeat (first | exact .here | apply Has.there)) (by first | assumption | rfl) ?_); clear F; clear a; intro a F
      refine stepD rfl F rfl (o_eql (F.ev rfl) (F.ev rfl) ?_); clear F; clear a; intro a F
      refine stepD rfl F rfl (o_assign (F.ev rfl) ?_); clear F; clear a; intro a F
      with_reducible refine l_nil ?_
      with_reducible refine q_then ?_
      with_reducible refine c_ret ?_
      with_reducible refine q_inBR ?_
      with_reducible refine q_thenR ?_
      refine p_ret F rfl (.cons (.tmp (F.ev rfl)) .nil) ?_
      exact ⟨by simp [oneOr], M.ext⟩
    · by_cases h3 : m = 3
      · subst h3
        refine fn_ofM (n := 20) [] Tryd.func49 rfl rfl rfl ?_
        intro a w F M hwW
        refine c_seq ?_
        refine c_region ?_
        (refine stepD rfl F rfl (o_box M (F.ev rfl) rfl ?_); clear F; clear M; intro b1 w M a F)
        refine stepD rfl F rfl (o_assign (F.ev rfl) ?_); clear F; clear a; intro a F
        with_reducible refine l_nil ?_
        with_reducible refine q_then ?_
        with_reducible refine c_seq ?_
        with_reducible refine c_seq ?_
        with_reducible refine c_region ?_
        refine stepD rfl F rfl (o_fieldAddr (F.ev rfl) ?_); clear F; clear a; intro a F
        refine stepD rfl F rfl (o_load1 M (F.ev rfl) (by repeat (first | exact .here | apply Has.there)) (by first | assumption | rfl) ?_); clear F; clear a; intro a F
        with_reducible refine l_nil ?_
        with_reducible refine q_then ?_
        with_reducible refine c_block ?_
        with_reducible refine c_seq ?_
        with_reducible refine c_region ?_
        refine stepD rfl F rfl (o_eqlF (F.ev rfl) (F.ev rfl) (by omega) ?_); clear F; clear a; intro a F
        refine stepD rfl F rfl (o_assign (F.ev rfl) ?_); clear F; clear a; intro a F
        with_reducible refine l_nil ?_
        with_reducible refine q_then ?_
        refine c_false F rfl rfl ?_
        with_reducible refine c_seq ?_
        with_reducible refine c_region ?_
        refine stepD rfl F rfl (o_eqlF (F.ev rfl) (F.ev rfl) (by omega) ?_); clear F; clear a; intro a F
        refine stepD rfl F rfl (o_assign (F.ev rfl) ?_); clear F; clear a; intro a F
        with_reducible refine l_nil ?_
        with_reducible refine q_then ?_
        refine c_false F rfl rfl ?_
        with_reducible refine c_seq ?_
        with_reducible refine c_region ?_
        refine stepD rfl F rfl (o_eqlT (F.ev rfl) (F.ev rfl) (by omega) ?_); clear F; clear a; intro a F
        refine stepD rfl F rfl (o_assign (F.ev rfl) ?_); clear F; clear a; intro a F
        with_reducible refine l_nil ?_
        with_reducible refine q_then ?_
        refine c_true F rfl rfl ?_
        with_reducible refine c_seq ?_
        with_reducible refine c_region ?_
        refine stepD rfl F rfl (o_fieldAddr (F.ev rfl) ?_); clear F; clear a; intro a F
        refine stepD rfl F rfl (o_load1 M (F.ev rfl) (by repeat (first | exact .here | apply Has.there)) (by first | assumption | rfl) ?_); clear F; clear a; intro a F
        refine stepD rfl F rfl (o_eql (F.ev rfl) (F.ev rfl) ?_); clear F; clear a; intro a F
        refine stepD rfl F rfl (o_assign (F.ev rfl) ?_); clear F; clear a; intro a F
        with_reducible refine l_nil ?_
        with_reducible refine q_then ?_
        with_reducible refine c_ret ?_
        with_reducible refine q_inBR ?_
        with_reducible refine q_thenR ?_
        refine p_ret F rfl (.cons (.tmp (F.ev rfl)) .nil) ?_
        exact ⟨by simp [oneOr], M.ext⟩
      · refine fn_ofM (n := 20) [] Tryd.func49 rfl rfl rfl ?_
        intro a w F M hwW
        refine c_seq ?_
        refine c_region ?_
        (refine stepD rfl F rfl (o_box M (F.ev rfl) rfl ?_); clear F; clear M; intro b1 w M a F)
        refine stepD rfl F rfl (o_assign (F.ev rfl) ?_); clear F; clear a; intro a F
        with_reducible refine l_nil ?_
        with_reducible refine q_then ?_
        with_reducible refine c_seq ?_
        with_reducible refine c_seq ?_
        with_reducible refine c_region ?_
        refine stepD rfl F rfl (o_fieldAddr (F.ev rfl) ?_); clear F; clear a; intro a F
        refine stepD rfl F rfl (o_load1 M (F.ev rfl) (by repeat (first | exact .here | apply Has.there)) (by first | assumption | rfl) ?_); clear F; clear a; intro a F
        with_reducible refine l_nil ?_
        with_reducible refine q_then ?_
        with_reducible refine c_block ?_
        with_reducible refine c_seq ?_
        with_reducible refine c_region ?_
        refine stepD rfl F rfl (o_eqlF (F.ev rfl) (F.ev rfl) (by omega) ?_); clear F; clear a; intro a F
        refine stepD rfl F rfl (o_assign (F.ev rfl) ?_); clear F; clear a; intro a F
        with_reducible refine l_nil ?_
        with_reducible refine q_then ?_
        refine c_false F rfl rfl ?_
        with_reducible refine c_seq ?_
        with_reducible refine c_region ?_
        refine stepD rfl F rfl (o_eqlF (F.ev rfl) (F.ev rfl) (by omega) ?_); clear F; clear a; intro a F
        refine stepD rfl F rfl (o_assign (F.ev rfl) ?_); clear F; clear a; intro a F
        with_reducible refine l_nil ?_
        with_reducible refine q_then ?_
        refine c_false F rfl rfl ?_
        with_reducible refine c_seq ?_
        with_reducible refine c_region ?_
        refine stepD rfl F rfl (o_eqlF (F.ev rfl) (F.ev rfl) (by omega) ?_); clear F; clear a; intro a F
        refine stepD rfl F rfl (o_assign (F.ev rfl) ?_); clear F; clear a; intro a F
        with_reducible refine l_nil ?_
        with_reducible refine q_then ?_
        refine c_false F rfl rfl ?_
        with_reducible refine c_skip ?_
        with_reducible refine q_inB ?_
        with_reducible refine q_then ?_
        with_reducible refine c_seq ?_
        with_reducible refine c_region ?_
        refine stepD rfl F rfl (o_assign (F.ev rfl) ?_); clear F; clear a; intro a F
        with_reducible refine l_nil ?_
        with_reducible refine q_then ?_
        with_reducible refine c_ret ?_
        refine p_ret F rfl (.cons (.tmp (F.ev rfl)) .nil) ?_
        exact ⟨by simp [oneOr, h0, h2, h3], M.ext⟩

/-- an interface identifier, of a valid link address other than none -/
def iidA (m s e : Int) : Option Int := if validA m s e then (if m = 2 then some (1099478073344 + s) else if m = 3 then some (bitsOf .xor .u64 e 144115188075855872) else none) else none
def optU (x : Option Int) : Value := .tuple #[.int .u64 (x.getD 0), .bool x.isSome]

set_option maxHeartbeats 400000 in
theorem iid_c (m s e : Int) (hs0 : 0 ≤ s) (hs1 : s ≤ 65535) (W : World) : Cal Tryd.prog 39 [.agg (adC m s e).toArray].toArray W fun v w' => v = optU (iidA m s e) ∧ Ext [] W w' := by
  have hb : @Eq (List Value) (adC m s e) [.int .i64 m, .int .u16 s, .int .u64 e] := rfl
  cases hv : validA m s e
  · refine fn_ofM (n := 20) [] Tryd.func39 rfl rfl rfl ?_
    intro a w F M hwW
    refine c_seq ?_
    refine c_region ?_
    (refine stepD rfl F rfl (o_box M (F.ev rfl) rfl ?_); clear F; clear M; intro b1 w M a F)
    refine stepD rfl F rfl (o_assign (F.ev rfl) ?_); clear F; clear a; intro a F
    refine stepD rfl F rfl (o_assign (F.ev rfl) ?_); clear F; clear a; intro a F
    with_reducible refine l_nil ?_
    with_reducible refine q_then ?_
    with_reducible refine c_seq ?_
    with_reducible refine c_seq ?_
    with_reducible refine c_region ?_
    refine stepD rfl F rfl (o_loadA M (F.ev rfl) (by repeat (first | exact .here | apply Has.there)) (by first | assumption | rfl) ?_); clear F; clear a; intro a F
    (refine stepD rfl F rfl (o_call (F.ev rfl) (F.evs rfl) (Cal.mono (Cal.to (valid_c m s e _) (by rw [hv])) ?_)); clear F; clear a; rintro _ w ⟨rfl, hE⟩ a F; replace M := M.later hE; clear hE)
    refine stepD rfl F rfl (o_not (F.ev rfl) ?_); clear F; clear a; intro a F
    with_reducible refine l_nil ?_
    with_reducible refine q_then ?_
    refine c_true F rfl rfl ?_
    with_reducible refine c_seq ?_
    with_reducible refine c_region ?_
    refine stepD rfl F rfl (o_assign (F.ev rfl) ?_); clear F; clear a; intro a F
    refine stepD rfl F rfl (o_assign (F.ev rfl) ?_); clear F; clear a; intro a F
    with_reducible refine l_nil ?_
    with_reducible refine q_then ?_
    with_reducible refine c_ret ?_
    with_reducible refine q_thenR ?_
    refine p_ret F rfl (.cons (.tmp (F.ev rfl)) (.cons (.tmp (F.ev rfl)) .nil)) ?_
    exact ⟨by simp [oneOr, optU, iidA, hv], M.ext⟩
  · by_cases h2 : m = 2
    · subst h2
      refine fn_ofM (n := 20) [] Tryd.func39 rfl rfl rfl ?_
      intro a w F M hwW
      refine c_seq ?_
      refine c_region ?_
      (refine stepD rfl F rfl (o_box M (F.ev rfl) rfl ?_); clear F; clear M; intro b1 w M a F)
      refine stepD rfl F rfl (o_assign (F.ev rfl) ?_); clear F; clear a; intro a F
      refine stepD rfl F rfl (o_assign (F.ev rfl) ?_); clear F; clear a; intro a F
      with_reducible refine l_nil ?_
      with_reducible refine q_then ?_
      with_reducible refine c_seq ?_
      with_reducible refine c_seq ?_
      with_reducible refine c_region ?_
      refine stepD rfl F rfl (o_loadA M (F.ev rfl) (by repeat (first | exact .here | apply Has.there)) (by first | assumption | rfl) ?_); clear F; clear a; intro a F
      (refine stepD rfl F rfl (o_call (F.ev rfl) (F.evs rfl) (Cal.mono (Cal.to (valid_c 2 s e _) (by rw [hv])) ?_)); clear F; clear a; rintro _ w ⟨rfl, hE⟩ a F; replace M := M.later hE; clear hE)
      refine stepD rfl F rfl (o_not (F.ev rfl) ?_); clear F; clear a; intro a F
      with_reducible refine l_nil ?_
      with_reducible refine q_then ?_
      refine c_false F rfl rfl ?_
      with_reducible refine c_skip ?_
      with_reducible refine q_then ?_
      with_reducible refine c_seq ?_
      with_reducible refine c_seq ?_
      with_reducible refine c_region ?_
      refine stepD rfl F rfl (o_fieldAddr (F.ev rfl) ?_); clear F; clear a; intro a F
      refine stepD rfl F rfl (o_load1 M (F.ev rfl) (by repeat (first | exact .here | apply Has.there)) (by first | assumption | rfl) ?_); clear F; clear a; intro a F
      with_reducible refine l_nil ?_
      with_reducible refine q_then ?_
      with_reducible refine c_block ?_
      with_reducible refine c_seq ?_
      with_reducible refine c_region ?_
      refine stepD rfl F rfl (o_eqlT (F.ev rfl) (F.ev rfl) (by omega) ?_); clear F; clear a; intro a F
      refine stepD rfl F rfl (o_assign (F.ev rfl) ?_); clear F; clear a; intro a F
      with_reducible refine l_nil ?_
      with_reducible refine q_then ?_
      refine c_true F rfl rfl ?_
      with_reducible refine c_seq ?_
      with_reducible refine c_region ?_
      refine stepD rfl F rfl (o_fieldAddr (F.ev rfl) ?_); clear F; clear a; intro a F
      refine stepD rfl F rfl (o_load1 M (F.ev rfl) (by repeat (first | exact .here | apply Has.there)) (by first | assumption | rfl) ?_); clear F; clear a; intro a F
      refine stepD rfl F rfl (o_conv (F.ev rfl) (w_u64 (by omega) (by omega)) ?_); clear F; clear a; intro a F
      refine stepD rfl F rfl (o_add (F.ev rfl) (F.ev rfl) (w_u64 (by omega) (by omega)) ?_); clear F; clear a; intro a F
      refine stepD rfl F rfl (o_assign (F.ev rfl) ?_); clear F; clear a; intro a F
      refine stepD rfl F rfl (o_assign (F.ev rfl) ?_); clear F; clear a; intro a F
      with_reducible refine l_nil ?_
      with_reducible refine q_then ?_
      with_reducible refine c_ret ?_
      with_reducible refine q_inBR ?_
      with_reducible refine q_thenR ?_
      refine p_ret F rfl (.cons (.tmp (F.ev rfl)) (.cons (.tmp (F.ev rfl)) .nil)) ?_
      exact ⟨by simp [oneOr, optU, iidA, hv], M.ext⟩
    · by_cases h3 : m = 3
      · subst h3
        refine fn_ofM (n := 20) [] Tryd.func39 rfl rfl rfl ?_
        intro a w F M hwW
        refine c_seq ?_
        refine c_region ?_
        (refine stepD rfl F rfl (o_box M (F.ev rfl) rfl ?_); clear F; clear M; intro b1 w M a F)
        refine stepD rfl F rfl (o_assign (F.ev rfl) ?_); clear F; clear a; intro a F
        refine stepD rfl F rfl (o_assign (F.ev rfl) ?_); clear F; clear a; intro a F
        with_reducible refine l_nil ?_
        with_reducible refine q_then ?_
        with_reducible refine c_seq ?_
        with_reducible refine c_seq ?_
        with_reducible refine c_region ?_
        refine stepD rfl F rfl (o_loadA M (F.ev rfl) (by repeat (first | exact .here | apply Has.there)) (by first | assumption | rfl) ?_); clear F; clear a; intro a F
        (refine stepD rfl F rfl (o_call (F.ev rfl) (F.evs rfl) (Cal.mono (Cal.to (valid_c 3 s e _) (by rw [hv])) ?_)); clear F; clear a; rintro _ w ⟨rfl, hE⟩ a F; replace M := M.later hE; clear hE)
        refine stepD rfl F rfl (o_not (F.ev rfl) ?_); clear F; clear a; intro a F
        with_reducible refine l_nil ?_
        with_reducible refine q_then ?_
        refine c_false F rfl rfl ?_
        with_reducible refine c_skip ?_
        with_reducible refine q_then ?_
        with_reducible refine c_seq ?_
        with_reducible refine c_seq ?_
        with_reducible refine c_region ?_
        refine stepD rfl F rfl (o_fieldAddr (F.ev rfl) ?_); clear F; clear a; intro a F
        refine stepD rfl F rfl (o_load1 M (F.ev rfl) (by repeat (first | exact .here | apply Has.there)) (by first | assumption | rfl) ?_); clear F; clear a; intro a F
        with_reducible refine l_nil ?_
        with_reducible refine q_then ?_
        with_reducible refine c_block ?_
        with_reducible refine c_seq ?_
        with_reducible refine c_region ?_
        refine stepD rfl F rfl (o_eqlF (F.ev rfl) (F.ev rfl) (by omega) ?_); clear F; clear a; intro a F
        refine stepD rfl F rfl (o_assign (F.ev rfl) ?_); clear F; clear a; intro a F
        with_reducible refine l_nil ?_
        with_reducible refine q_then ?_
        refine c_false F rfl rfl ?_
        with_reducible refine c_seq ?_
        with_reducible refine c_region ?_
        refine stepD rfl F rfl (o_eqlT (F.ev rfl) (F.ev rfl) (by omega) ?_); clear F; clear a; intro a F
        refine stepD rfl F rfl (o_assign (F.ev rfl) ?_); clear F; clear a; intro a F
        with_reducible refine l_nil ?_
        with_reducible refine q_then ?_
        refine c_true F rfl rfl ?_
        with_reducible refine c_seq ?_
        with_reducible refine c_region ?_
        refine stepD rfl F rfl (o_fieldAddr (F.ev rfl) ?_); clear F; clear a; intro a F
        refine stepD rfl F rfl (o_load1 M (F.ev rfl) (by repeat (first | exact .here | apply Has.there)) (by first | assumption | rfl) ?_); clear F; clear a; intro a F
        refine stepD rfl F rfl (o_xor (F.ev rfl) (F.ev rfl) rfl ?_); clear F; clear a; intro a F
        refine stepD rfl F rfl (o_assign (F.ev rfl) ?_); clear F; clear a; intro a F
        refine stepD rfl F rfl (o_assign (F.ev rfl) ?_); clear F; clear a; intro a F
        with_reducible refine l_nil ?_
        with_reducible refine q_then ?_
        with_reducible refine c_ret ?_
        with_reducible refine q_inBR ?_
        with_reducible refine q_thenR ?_
        refine p_ret F rfl (.cons (.tmp (F.ev rfl)) (.cons (.tmp (F.ev rfl)) .nil)) ?_
        exact ⟨by simp [oneOr, optU, iidA, hv], M.ext⟩
      · refine fn_ofM (n := 20) [] Tryd.func39 rfl rfl rfl ?_
        intro a w F M hwW
        refine c_seq ?_
        refine c_region ?_
        (refine stepD rfl F rfl (o_box M (F.ev rfl) rfl ?_); clear F; clear M; intro b1 w M a F)
        refine stepD rfl F rfl (o_assign (F.ev rfl) ?_); clear F; clear a; intro a F
        refine stepD rfl F rfl (o_assign (F.ev rfl) ?_); clear F; clear a; intro a F
        with_reducible refine l_nil ?_
        with_reducible refine q_then ?_
        with_reducible refine c_seq ?_
        with_reducible refine c_seq ?_
        with_reducible refine c_region ?_
        refine stepD rfl F rfl (o_loadA M (F.ev rfl) (by repeat (first | exact .here | apply Has.there)) (by first | assumption | rfl) ?_); clear F; clear a; intro a F
        (refine stepD rfl F rfl (o_call (F.ev rfl) (F.evs rfl) (Cal.mono (Cal.to (valid_c m s e _) (by rw [hv])) ?_)); clear F; clear a; rintro _ w ⟨rfl, hE⟩ a F; replace M := M.later hE; clear hE)
        refine stepD rfl F rfl (o_not (F.ev rfl) ?_); clear F; clear a; intro a F
        with_reducible refine l_nil ?_
        with_reducible refine q_then ?_
        refine c_false F rfl rfl ?_
        with_reducible refine c_skip ?_
        with_reducible refine q_then ?_
        with_reducible refine c_seq ?_
        with_reducible refine c_seq ?_
        with_reducible refine c_region ?_
        refine stepD rfl F rfl (o_fieldAddr (F.ev rfl) ?_); clear F; clear a; intro a F
        refine stepD rfl F rfl (o_load1 M (F.ev rfl) (by repeat (first | exact .here | apply Has.there)) (by first | assumption | rfl) ?_); clear F; clear a; intro a F
        with_reducible refine l_nil ?_
        with_reducible refine q_then ?_
        with_reducible refine c_block ?_
        with_reducible refine c_seq ?_
        with_reducible refine c_region ?_
        refine stepD rfl F rfl (o_eqlF (F.ev rfl) (F.ev rfl) (by omega) ?_); clear F; clear a; intro a F
        refine stepD rfl F rfl (o_assign (F.ev rfl) ?_); clear F; clear a; intro a F
        with_reducible refine l_nil ?_
        with_reducible refine q_then ?_
        refine c_false F rfl rfl ?_
        with_reducible refine c_seq ?_
        with_reducible refine c_region ?_
        refine stepD rfl F rfl (o_eqlF (F.ev rfl) (F.ev rfl) (by omega) ?_); clear F; clear a; intro a F
        refine stepD rfl F rfl (o_assign (F.ev rfl) ?_); clear F; clear a; intro a F
        with_reducible refine l_nil ?_
        with_reducible refine q_then ?_
        refine c_false F rfl rfl ?_
        with_reducible refine c_skip ?_
        with_reducible refine q_inB ?_
        with_reducible refine q_then ?_
        with_reducible refine c_seq ?_
        with_reducible refine c_region ?_
        refine stepD rfl F rfl (o_assign (F.ev rfl) ?_); clear F; clear a; intro a F
        refine stepD rfl F rfl (o_assign (F.ev rfl) ?_); clear F; clear a; intro a F
        with_reducible refine l_nil ?_
        with_reducible refine q_then ?_
        with_reducible refine c_ret ?_
        refine p_ret F rfl (.cons (.tmp (F.ev rfl)) (.cons (.tmp (F.ev rfl)) .nil)) ?_
        exact ⟨by simp [oneOr, optU, iidA, hv, h2, h3], M.ext⟩
end Go.Proofs.YtadnpidadcgdcaaDoor

/-! Open -/
/-
  The arguments of this seat's laws, opened.
-/
namespace Go.Proofs.YtadnpidadcgdcaaDoor
set_option linter.unusedVariables false
set_option linter.unusedSimpArgs false
open Go.ChangeShapes Go.WideShapes Go.ChangeAt Go.RowKit

def loK : IntKind → Int
  | .i64 => -9223372036854775808 | .u64 => 0 | .u32 => 0 | .u16 => 0 | .u8 => 0 | .i32 => -2147483648 | k => k.min
def hiK : IntKind → Int
  | .i64 => 9223372036854775807 | .u64 => 18446744073709551615 | .u32 => 4294967295 | .u16 => 65535 | .u8 => 255 | .i32 => 2147483647 | k => k.max
theorem int_bd {k : IntKind} {n : Int} (h : (Lit.int k n).wf = true) : loK k ≤ n ∧ n ≤ hiK k := by
  have := wf_bd h
  cases k <;> simp [IntKind.min, IntKind.max, IntKind.signed, IntKind.bits, loK, hiK] at this ⊢ <;> omega
theorem wfV_int {k : IntKind} {v : Value} (h : wfV (.i k) v = true) : ∃ n, v = .int k n ∧ loK k ≤ n ∧ n ≤ hiK k := by
  cases v <;> simp [wfV] at h
  rename_i k' n
  obtain ⟨rfl, hw⟩ := h
  exact ⟨n, rfl, int_bd hw⟩
theorem wfK_cons {k : LK} {ks : List LK} {xs : List Value} (h : wfK (k :: ks) xs = true) : ∃ x ys, xs = x :: ys ∧ wfV k x = true ∧ wfK ks ys = true := by
  cases xs with
  | nil => cases h
  | cons x ys => simp only [wfK, Bool.and_eq_true] at h; exact ⟨x, ys, rfl, h.1, h.2⟩
theorem wfK_nil {xs : List Value} (h : wfK [] xs = true) : xs = [] := by
  cases xs with
  | nil => rfl
  | cons x ys => cases h
theorem ip_wf : ∀ (xs : List Value) (n : Nat), wfK (List.replicate n (.i .u8)) xs = true → ∃ a : List Int, xs = ipC a ∧ a.length = n ∧ ∀ x ∈ a, 0 ≤ x ∧ x < 256
  | [], 0, _ => ⟨[], rfl, rfl, by simp⟩
  | [], n + 1, h => by simp [List.replicate_succ, wfK] at h
  | _ :: _, 0, h => by simp [wfK] at h
  | x :: xs, n + 1, h => by
    simp only [List.replicate_succ, wfK, Bool.and_eq_true] at h
    obtain ⟨a, rfl, hl, hb⟩ := ip_wf xs n h.2
    obtain ⟨m, rfl, h0, h1⟩ := wfV_int h.1
    refine ⟨m :: a, rfl, by simp [hl], fun y hy => ?_⟩
    rcases List.mem_cons.1 hy with rfl | hy
    · simp only [loK, hiK] at h0 h1; omega
    · exact hb y hy
section
variable {H : Type} {enc : TypeId × Value → H} {w : World} {r : Reach} {b0 base : Nat} {sp : Nat → Bool} {held : Bool} {v : Value} {d : DataW H} {p : List MemPlace}
set_option maxRecDepth 100000 in
theorem open_ip (hval : Value.okWide Tryd.prog w r b0 23 v) (h : DataW.Trod enc Tryd.prog w base sp held 23 v d p) : ∃ a, IsIP a ∧ v = .agg (ipC a).toArray := by
  obtain ⟨xs, rfl, hw⟩ := open_lf (ks := List.replicate 16 (.i .u8)) (by kernel_rfl) hval h
  obtain ⟨a, rfl, hl, hb⟩ := ip_wf xs 16 hw
  exact ⟨a, ⟨hl, hb⟩, rfl⟩
theorem wfK_split : ∀ {ks ks' : List LK} {xs : List Value}, wfK (ks ++ ks') xs = true → ∃ ys zs, xs = ys ++ zs ∧ wfK ks ys = true ∧ wfK ks' zs = true
  | [], ks', xs, h => ⟨[], xs, rfl, rfl, h⟩
  | k :: ks, ks', [], h => by cases h
  | k :: ks, ks', x :: xs, h => by
    simp only [List.cons_append, wfK, Bool.and_eq_true] at h
    obtain ⟨ys, zs, rfl, h1, h2⟩ := wfK_split h.2
    exact ⟨x :: ys, zs, rfl, by simp [wfK, h.1, h1], h2⟩
set_option maxRecDepth 100000 in
theorem open_pf (hval : Value.okWide Tryd.prog w r b0 35 v) (h : DataW.Trod enc Tryd.prog w base sp held 35 v d p) : ∃ a n, IsIP a ∧ (-9223372036854775808 ≤ n ∧ n ≤ 9223372036854775807) ∧ v = .agg (pfC a n).toArray := by
  obtain ⟨xs, rfl, hw⟩ := open_lf (ks := List.replicate 16 (.i .u8) ++ [.i .i64]) (by kernel_rfl) hval h
  obtain ⟨ys, zs, rfl, h1, h2⟩ := wfK_split hw
  obtain ⟨a, rfl, hl, hb⟩ := ip_wf ys 16 h1
  obtain ⟨z, zs, rfl, h3, h4⟩ := wfK_cons h2
  obtain rfl := wfK_nil h4
  obtain ⟨n, rfl, h5, h6⟩ := wfV_int h3
  exact ⟨a, n, ⟨hl, hb⟩, ⟨h5, h6⟩, rfl⟩
/-- a link address's numbers fit -/
def IsAd (m s e : Int) : Prop := (-9223372036854775808 ≤ m ∧ m ≤ 9223372036854775807) ∧ (0 ≤ s ∧ s ≤ 65535) ∧ (0 ≤ e ∧ e ≤ 18446744073709551615)
set_option maxRecDepth 100000 in
theorem open_ad (hval : Value.okWide Tryd.prog w r b0 47 v) (h : DataW.Trod enc Tryd.prog w base sp held 47 v d p) : ∃ m s e, IsAd m s e ∧ v = .agg (adC m s e).toArray := by
  obtain ⟨xs, rfl, hw⟩ := open_lf (ks := [.i .i64, .i .u16, .i .u64]) (by kernel_rfl) hval h
  obtain ⟨x, xs, rfl, h1, hw⟩ := wfK_cons hw
  obtain ⟨y, xs, rfl, h2, hw⟩ := wfK_cons hw
  obtain ⟨z, xs, rfl, h3, hw⟩ := wfK_cons hw
  obtain rfl := wfK_nil hw
  obtain ⟨m, rfl, a1, a2⟩ := wfV_int h1
  obtain ⟨s, rfl, a3, a4⟩ := wfV_int h2
  obtain ⟨e, rfl, a5, a6⟩ := wfV_int h3
  exact ⟨m, s, e, ⟨⟨a1, a2⟩, ⟨a3, a4⟩, ⟨a5, a6⟩⟩, rfl⟩
end
end Go.Proofs.YtadnpidadcgdcaaDoor

/-! T1 -/
/-
  A tape of numbers: Next.
-/
namespace Go.Proofs.YtadnpidadcgdcaaDoor
set_option linter.unusedVariables false
set_option linter.unusedSimpArgs false
open Go.RowKit
attribute [local irreducible] OpTo wpListIn Code.wpIn MW Cal

/-- Fewer blocks, of which those that are left out have not been turned. -/
theorem Mem.less {S S' : List Nat} {W w : World} {l new : List (Nat × Obj)} (M : Mem S W w l) (h : ∀ k ∈ S, k ∈ S' ∨ ∃ o, Has l k o ∧ W.heap[k]? = some o) (hs : new.Sublist l) (hn : ∀ p ∈ new, p.1 ∈ S → p.1 ∈ S') : Mem S' W w new :=
  ⟨⟨M.ext.os, M.ext.tape, M.ext.output, M.ext.size, fun k hk hS' => by
    by_cases hS : k ∈ S
    · rcases h k hS with h1 | ⟨o, h1, h2⟩
      · exact absurd h1 hS'
      · rw [M.heap h1, h2]
    · exact M.ext.block k hk hS⟩, fun p hp => M.at_ p (hs.subset hp), M.nd.sublist (hs.map _), fun p hp => (M.own p (hs.subset hp)).imp_left (hn p hp)⟩

/-- the tape's block -/
def tobj (p : Option Addr) (len cap k : Nat) : Obj := .cells [.slice p len cap, .int .i64 k].toArray 95 (0, 0)
def i64C (xs : List Int) : List Value := xs.map (Value.int .i64)
/-- what its numbers are -/
structure TapeS (W : World) (bt : Nat) (p : Option Addr) (len : Nat) (xs : List Int) : Prop where
  lenE : xs.length = len
  small : len ≤ 400
  bd : ∀ x ∈ xs, -9223372036854775808 ≤ x ∧ x ≤ 9223372036854775807
  mem : 0 < len → ∃ b o cs t fz, p = some ⟨b, o, none⟩ ∧ b ≠ bt ∧ W.heap[b]? = some (.cells cs t fz) ∧ seg cs.toList o len = some (i64C xs)
theorem TapeS.later {W w : World} {bt : Nat} {p : Option Addr} {len : Nat} {xs : List Int} (h : TapeS W bt p len xs) (E : Ext [bt] W w) : TapeS w bt p len xs :=
  ⟨h.lenE, h.small, h.bd, fun hl => by
    obtain ⟨b, o, cs, t, fz, h1, h2, h3, h4⟩ := h.mem hl
    exact ⟨b, o, cs, t, fz, h1, h2, by rw [E.block b (Array.getElem?_eq_some_iff.1 h3).1 (by simpa using h2)]; exact h3, h4⟩⟩
def nxV (xs : List Int) (k : Nat) (n : Int) : Int := if k < xs.length then modI (xs.getD k 0) n else 0
def nxK (xs : List Int) (k : Nat) : Nat := if k < xs.length then k + 1 else k
theorem nxK_le {xs : List Int} {k : Nat} (h : k ≤ xs.length) : nxK xs k ≤ xs.length := by unfold nxK; split <;> omega
theorem nxV_bd (xs : List Int) (k : Nat) {n : Int} (hn : 0 < n) : 0 ≤ nxV xs k n ∧ nxV xs k n < n := by
  unfold nxV
  split
  · exact modI_bd _ hn
  · omega

set_option maxHeartbeats 1000000 in
theorem next_c {bt : Nat} {p : Option Addr} {len cap k : Nat} {xs : List Int} (n : Int) (hn : 0 < n) (hn2 : n ≤ 9223372036854775807) (W : World) (hT : TapeS W bt p len xs) (hb : W.heap[bt]? = some (tobj p len cap k)) :
    Cal Tryd.prog 56 [.pointer (some ⟨bt, 0, none⟩), .int .i64 n].toArray W fun v w' => v = .int .i64 (nxV xs k n) ∧ Mem [bt] W w' [(bt, tobj p len cap (nxK xs k))] := by
  have hlen := hT.lenE
  by_cases hk : k < len
  · obtain ⟨b, o, cs, t, fz, rfl, hne, hbb, hs⟩ := hT.mem (by omega)
    have hnt : nth cs.toList (o + (k : Int).toNat * 1) = some (.int .i64 (xs.getD k 0)) := by
      obtain ⟨h1, h2⟩ := seg_spec _ _ _ _ hs
      have h3 := h2 k hk
      rw [nth_spec, show o + (k : Int).toNat * 1 = o + k by omega, h3]
      have hl : k < xs.length := by omega
      simp [i64C, hl]
    have hxk := hT.bd (xs.getD k 0) (by rw [List.getD_eq_getElem?_getD, List.getElem?_eq_getElem (by omega)]; exact List.getElem_mem _)
    have hr := Int.tmod_lt_of_pos (xs.getD k 0) hn
    have hr2 : -n < (xs.getD k 0).tmod n := by have := Int.tmod_lt_of_pos (-(xs.getD k 0)) hn; rw [Int.neg_tmod] at this; omega
    have hsm := hT.small
    have hv : nxV xs k n = modI (xs.getD k 0) n := by unfold nxV; rw [if_pos (by omega)]
    have hkk : nxK xs k = k + 1 := by unfold nxK; rw [if_pos (by omega)]
    rw [hv, hkk]
    unfold modI
    refine fn_ofM (n := 41) [bt,b] Tryd.func56 rfl rfl rfl ?_
    intro a w F M hwW
    replace M := M.came hwW hb (by simp) (by simp)
    replace M := M.came hwW (o := .cells cs.toList.toArray t fz) (by simpa using hbb) (by simp) (by simp; exact fun h => hne h.symm)
    unfold tobj at M
    with_reducible refine c_seq ?_
    with_reducible refine c_region ?_
    refine stepD rfl F rfl (o_assign (F.ev rfl) ?_); clear F; clear a; intro a F
    with_reducible refine l_nil ?_
    with_reducible refine q_then ?_
    with_reducible refine c_seq ?_
    with_reducible refine c_seq ?_
    refine c_draw 10 F (by kernel_rfl) ?_
    intro w1 hE hok
    have M1 := M.later hE
    refine mK hok rfl rfl (fun a' w' F' E' => o_move (F'.ev rfl) ⟨Ext.refl _ _, rfl⟩) ?_
    refine mK hok rfl rfl (fun a' w' F' E' => o_nilCheck (F'.ev rfl) rfl ⟨Ext.refl _ _, rfl⟩) ?_
    refine mK hok rfl rfl (fun a' w' F' E' => o_fieldAddr (F'.ev rfl) ⟨Ext.refl _ _, rfl⟩) ?_
    refine mK hok rfl rfl (fun a' w' F' E' => o_load1 (M1.later E') (F'.ev rfl) (by repeat (first | exact .here | apply Has.there)) (by first | assumption | rfl) ⟨Ext.refl _ _, rfl⟩) ?_
    refine mK hok rfl rfl (fun a' w' F' E' => o_move (F'.ev rfl) ⟨Ext.refl _ _, rfl⟩) ?_
    refine mK hok rfl rfl (fun a' w' F' E' => o_nilCheck (F'.ev rfl) rfl ⟨Ext.refl _ _, rfl⟩) ?_
    refine mK hok rfl rfl (fun a' w' F' E' => o_fieldAddr (F'.ev rfl) ⟨Ext.refl _ _, rfl⟩) ?_
    refine mK hok rfl rfl (fun a' w' F' E' => o_load1 (M1.later E') (F'.ev rfl) (by repeat (first | exact .here | apply Has.there)) (by first | assumption | rfl) ⟨Ext.refl _ _, rfl⟩) ?_
    refine mK hok rfl rfl (fun a' w' F' E' => o_lenSl (F'.ev rfl) ⟨Ext.refl _ _, rfl⟩) ?_
    refine mK hok rfl rfl (fun a' w' F' E' => o_geqF (F'.ev rfl) (F'.ev rfl) (by omega) ⟨Ext.refl _ _, rfl⟩) ?_
    (refine mDone rfl rfl ?_; clear F; clear M; intro a w F hE2 hX hTT hDD hPP; have M := M1.later hE2; clear M1; clear hX; clear hE2; clear hok; clear hE; clear hTT; clear hDD; clear hPP; (try dsimp only at F))
    with_reducible refine l_nil ?_
    with_reducible refine q_then ?_
    refine c_false F rfl rfl ?_
    with_reducible refine c_skip ?_
    with_reducible refine q_then ?_
    with_reducible refine c_seq ?_
    refine c_draw 12 F (by kernel_rfl) ?_
    intro w1 hE hok
    have M1 := M.later hE
    refine mK hok rfl rfl (fun a' w' F' E' => o_move (F'.ev rfl) ⟨Ext.refl _ _, rfl⟩) ?_
    refine mK hok rfl rfl (fun a' w' F' E' => o_nilCheck (F'.ev rfl) rfl ⟨Ext.refl _ _, rfl⟩) ?_
    refine mK hok rfl rfl (fun a' w' F' E' => o_fieldAddr (F'.ev rfl) ⟨Ext.refl _ _, rfl⟩) ?_
    refine mK hok rfl rfl (fun a' w' F' E' => o_load1 (M1.later E') (F'.ev rfl) (by repeat (first | exact .here | apply Has.there)) (by first | assumption | rfl) ⟨Ext.refl _ _, rfl⟩) ?_
    refine mK hok rfl rfl (fun a' w' F' E' => o_move (F'.ev rfl) ⟨Ext.refl _ _, rfl⟩) ?_
    refine mK hok rfl rfl (fun a' w' F' E' => o_nilCheck (F'.ev rfl) rfl ⟨Ext.refl _ _, rfl⟩) ?_
    refine mK hok rfl rfl (fun a' w' F' E' => o_fieldAddr (F'.ev rfl) ⟨Ext.refl _ _, rfl⟩) ?_
    refine mK hok rfl rfl (fun a' w' F' E' => o_load1 (M1.later E') (F'.ev rfl) (by repeat (first | exact .here | apply Has.there)) (by first | assumption | rfl) ⟨Ext.refl _ _, rfl⟩) ?_
    refine mK hok rfl rfl (fun a' w' F' E' => o_indexSl (F'.ev rfl) (F'.ev rfl) (by omega) (by omega) ⟨Ext.refl _ _, rfl⟩) ?_
    refine mK hok rfl rfl (fun a' w' F' E' => o_load1 (M1.later E') (F'.ev rfl) (by repeat (first | exact .here | apply Has.there)) (by first | assumption | rfl) ⟨Ext.refl _ _, rfl⟩) ?_
    refine mK hok rfl rfl (fun a' w' F' E' => o_move (F'.ev rfl) ⟨Ext.refl _ _, rfl⟩) ?_
    refine mK hok rfl rfl (fun a' w' F' E' => o_rem (F'.ev rfl) (F'.ev rfl) (by omega) rfl ⟨Ext.refl _ _, rfl⟩) ?_
    (refine mDone rfl rfl ?_; clear F; clear M; intro a w F hE2 hX hTT hDD hPP; have M := M1.later hE2; clear M1; clear hX; clear hE2; clear hok; clear hE; clear hTT; clear hDD; clear hPP; (try dsimp only at F))
    refine stepD rfl F rfl (o_assign (F.ev rfl) ?_); clear F; clear a; intro a F
    with_reducible refine l_nil ?_
    with_reducible refine q_then ?_
    with_reducible refine c_seq ?_
    with_reducible refine c_region ?_
    refine stepD rfl F rfl (o_move (F.ev rfl) ?_); clear F; clear a; intro a F
    refine stepD rfl F rfl (o_nilCheck (F.ev rfl) rfl ?_); clear F; clear a; intro a F
    refine stepD rfl F rfl (o_fieldAddr (F.ev rfl) ?_); clear F; clear a; intro a F
    refine stepD rfl F rfl (o_load1 M (F.ev rfl) (by repeat (first | exact .here | apply Has.there)) (by first | assumption | rfl) ?_); clear F; clear a; intro a F
    refine stepD rfl F rfl (o_add (F.ev rfl) (F.ev rfl) (w_i64 (by omega) (by omega)) ?_); clear F; clear a; intro a F
    refine stepD rfl F rfl (o_nilCheck (F.ev rfl) rfl ?_); clear F; clear a; intro a F
    refine stepD rfl F rfl (o_fieldAddr (F.ev rfl) ?_); clear F; clear a; intro a F
    (refine stepN rfl F (o_store1 M (F.ev rfl) (F.ev rfl) rfl (by repeat (first | exact .here | apply Has.there)) (by rfl) (by repeat (first | exact .here | apply Upd.there)) ?_); clear F; clear M; intro w M a F)
    with_reducible refine l_nil ?_
    with_reducible refine q_then ?_
    with_reducible refine c_seq ?_
    with_reducible refine c_seq ?_
    with_reducible refine c_region ?_
    refine stepD rfl F rfl (o_move (F.ev rfl) ?_); clear F; clear a; intro a F
    refine stepD rfl F rfl (o_lss (F.ev rfl) (F.ev rfl) ?_); clear F; clear a; intro a F
    with_reducible refine l_nil ?_
    with_reducible refine q_then ?_
    generalize (xs.getD k 0).tmod n = r at *
    have fin : ∀ w', Mem [bt, b] W w' [(b, .cells cs.toList.toArray t fz), (bt, .cells [.slice (some ⟨b, o, none⟩) len cap, .int .i64 ((k : Int) + 1)].toArray 95 (0, 0))] → Mem [bt] W w' [(bt, tobj (some ⟨b, o, none⟩) len cap (k + 1))] := fun w' M' =>
      M'.less (fun q hq => by
        simp only [List.mem_cons, List.not_mem_nil, or_false] at hq
        rcases hq with rfl | rfl
        · exact .inl (by simp)
        · exact .inr ⟨_, .here, by simpa using hbb⟩) (List.sublist_cons_self _ _) (fun q hq _ => by simp at hq; subst hq; simp)
    refine c_if F rfl (fun hc => ?_) (fun hc => ?_)
    · replace hc := of_decide_eq_true hc
      rw [if_pos hc]
      with_reducible refine c_region ?_
      refine stepD rfl F rfl (o_move (F.ev rfl) ?_); clear F; clear a; intro a F
      refine stepD rfl F rfl (o_move (F.ev rfl) ?_); clear F; clear a; intro a F
      refine stepD rfl F rfl (o_add (F.ev rfl) (F.ev rfl) (w_i64 (by omega) (by omega)) ?_); clear F; clear a; intro a F
      refine stepD rfl F rfl (o_assign (F.ev rfl) ?_); clear F; clear a; intro a F
      with_reducible refine l_nil ?_
      with_reducible refine q_then ?_
      with_reducible refine c_seq ?_
      with_reducible refine c_region ?_
      refine stepD rfl F rfl (o_move (F.ev rfl) ?_); clear F; clear a; intro a F
      refine stepD rfl F rfl (o_assign (F.ev rfl) ?_); clear F; clear a; intro a F
      with_reducible refine l_nil ?_
      with_reducible refine q_then ?_
      with_reducible refine c_ret ?_
      refine p_ret F rfl (.cons (.tmp (F.ev rfl)) .nil) ?_
      exact ⟨rfl, fin _ M⟩
    · replace hc := of_decide_eq_false hc
      rw [if_neg hc]
      with_reducible refine c_skip ?_
      with_reducible refine q_then ?_
      with_reducible refine c_seq ?_
      with_reducible refine c_region ?_
      refine stepD rfl F rfl (o_move (F.ev rfl) ?_); clear F; clear a; intro a F
      refine stepD rfl F rfl (o_assign (F.ev rfl) ?_); clear F; clear a; intro a F
      with_reducible refine l_nil ?_
      with_reducible refine q_then ?_
      with_reducible refine c_ret ?_
      refine p_ret F rfl (.cons (.tmp (F.ev rfl)) .nil) ?_
      exact ⟨rfl, fin _ M⟩
  · have hv : nxV xs k n = 0 := by unfold nxV; rw [if_neg (by omega)]
    have hkk : nxK xs k = k := by unfold nxK; rw [if_neg (by omega)]
    rw [hv, hkk]
    refine fn_ofM (n := 41) [bt] Tryd.func56 rfl rfl rfl ?_
    intro a w F M hwW
    replace M := M.came hwW hb (by simp) (by simp)
    unfold tobj at M
    with_reducible refine c_seq ?_
    with_reducible refine c_region ?_
    refine stepD rfl F rfl (o_assign (F.ev rfl) ?_); clear F; clear a; intro a F
    with_reducible refine l_nil ?_
    with_reducible refine q_then ?_
    with_reducible refine c_seq ?_
    with_reducible refine c_seq ?_
    refine c_draw 10 F (by kernel_rfl) ?_
    intro w1 hE hok
    have M1 := M.later hE
    refine mK hok rfl rfl (fun a' w' F' E' => o_move (F'.ev rfl) ⟨Ext.refl _ _, rfl⟩) ?_
    refine mK hok rfl rfl (fun a' w' F' E' => o_nilCheck (F'.ev rfl) rfl ⟨Ext.refl _ _, rfl⟩) ?_
    refine mK hok rfl rfl (fun a' w' F' E' => o_fieldAddr (F'.ev rfl) ⟨Ext.refl _ _, rfl⟩) ?_
    refine mK hok rfl rfl (fun a' w' F' E' => o_load1 (M1.later E') (F'.ev rfl) (by repeat (first | exact .here | apply Has.there)) (by first | assumption | rfl) ⟨Ext.refl _ _, rfl⟩) ?_
    refine mK hok rfl rfl (fun a' w' F' E' => o_move (F'.ev rfl) ⟨Ext.refl _ _, rfl⟩) ?_
    refine mK hok rfl rfl (fun a' w' F' E' => o_nilCheck (F'.ev rfl) rfl ⟨Ext.refl _ _, rfl⟩) ?_
    refine mK hok rfl rfl (fun a' w' F' E' => o_fieldAddr (F'.ev rfl) ⟨Ext.refl _ _, rfl⟩) ?_
    refine mK hok rfl rfl (fun a' w' F' E' => o_load1 (M1.later E') (F'.ev rfl) (by repeat (first | exact .here | apply Has.there)) (by first | assumption | rfl) ⟨Ext.refl _ _, rfl⟩) ?_
    refine mK hok rfl rfl (fun a' w' F' E' => o_lenSl (F'.ev rfl) ⟨Ext.refl _ _, rfl⟩) ?_
    refine mK hok rfl rfl (fun a' w' F' E' => o_geqT (F'.ev rfl) (F'.ev rfl) (by omega) ⟨Ext.refl _ _, rfl⟩) ?_
    (refine mDone rfl rfl ?_; clear F; clear M; intro a w F hE2 hX hTT hDD hPP; have M := M1.later hE2; clear M1; clear hX; clear hE2; clear hok; clear hE; clear hTT; clear hDD; clear hPP; (try dsimp only at F))
    with_reducible refine l_nil ?_
    with_reducible refine q_then ?_
    refine c_true F rfl rfl ?_
    with_reducible refine c_seq ?_
    with_reducible refine c_region ?_
    refine stepD rfl F rfl (o_assign (F.ev rfl) ?_); clear F; clear a; intro a F
    with_reducible refine l_nil ?_
    with_reducible refine q_then ?_
    with_reducible refine c_ret ?_
    with_reducible refine q_thenR ?_
    refine p_ret F rfl (.cons (.tmp (F.ev rfl)) .nil) ?_
    exact ⟨rfl, M⟩
end Go.Proofs.YtadnpidadcgdcaaDoor

/-! T2 -/
/-
  A tape of numbers: New, Bool, Device, Addr.
-/
namespace Go.Proofs.YtadnpidadcgdcaaDoor
set_option linter.unusedVariables false
set_option linter.unusedSimpArgs false
open Go.RowKit
attribute [local irreducible] OpTo wpListIn Code.wpIn MW Cal

/-- Behind a call that turned one block of ours. -/
theorem Mem.turn1 {S : List Nat} {W0 w w' : World} {l l' : List (Nat × Obj)} {b : Nat} {o o' : Obj} (M : Mem S W0 w l) (N : Mem [b] w w' [(b, o')]) (hu : Upd l b o o' l') : Mem S W0 w' l' := M.turned hu N.ext (N.heap .here)

def boolV (xs : List Int) (k : Nat) (n : Int) : Bool := nxV xs k n == n - 1
theorem bool_c {bt : Nat} {p : Option Addr} {len cap k : Nat} {xs : List Int} (n : Int) (hn : 0 < n) (hn2 : n ≤ 9223372036854775807) (W : World) (hT : TapeS W bt p len xs) (hb : W.heap[bt]? = some (tobj p len cap k)) :
    Cal Tryd.prog 57 [.pointer (some ⟨bt, 0, none⟩), .int .i64 n].toArray W fun v w' => v = .bool (boolV xs k n) ∧ Mem [bt] W w' [(bt, tobj p len cap (nxK xs k))] := by
  refine fn_ofM (n := 11) [bt] Tryd.func57 rfl rfl rfl ?_
  intro a w F M hwW
  replace M := M.came hwW hb (by simp) (by simp)
  with_reducible refine c_seq ?_
  with_reducible refine c_region ?_
  refine stepD rfl F rfl (o_assign (F.ev rfl) ?_); clear F; clear a; intro a F
  with_reducible refine l_nil ?_
  with_reducible refine q_then ?_
  with_reducible refine c_seq ?_
  with_reducible refine c_region ?_
  refine stepD rfl F rfl (o_move (F.ev rfl) ?_); clear F; clear a; intro a F
  refine stepD rfl F rfl (o_move (F.ev rfl) ?_); clear F; clear a; intro a F
  (refine stepD rfl F rfl (o_call (F.ev rfl) (F.evs rfl) (Cal.mono (next_c n hn hn2 _ (hT.later M.ext) (M.heap .here) ) ?_)); clear F; clear a; have M0 := M; clear M; rintro _ w ⟨rfl, N⟩ a F)
  replace M := M0.turn1 N .here
  refine stepD rfl F rfl (o_move (F.ev rfl) ?_); clear F; clear a; intro a F
  refine stepD rfl F rfl (o_sub (F.ev rfl) (F.ev rfl) (w_i64 (by omega) (by omega)) ?_); clear F; clear a; intro a F
  refine stepD rfl F rfl (o_eql (F.ev rfl) (F.ev rfl) ?_); clear F; clear a; intro a F
  refine stepD rfl F rfl (o_assign (F.ev rfl) ?_); clear F; clear a; intro a F
  with_reducible refine l_nil ?_
  with_reducible refine q_then ?_
  with_reducible refine c_ret ?_
  refine p_ret F rfl (.cons (.tmp (F.ev rfl)) .nil) ?_
  exact ⟨rfl, M⟩

/-- a device's link address, off the tape -/
def devM (xs : List Int) (k : Nat) : Int := if boolV xs (nxK xs k) 2 then 3 else 2
def devS (xs : List Int) (k : Nat) : Int := if boolV xs (nxK xs k) 2 then 0 else nxV xs k 5
def devE (xs : List Int) (k : Nat) : Int := if boolV xs (nxK xs k) 2 then 144115188075855872 + nxV xs k 5 else 0
theorem device_c {bt : Nat} {p : Option Addr} {len cap k : Nat} {xs : List Int} (W : World) (hT : TapeS W bt p len xs) (hb : W.heap[bt]? = some (tobj p len cap k)) :
    Cal Tryd.prog 65 [.pointer (some ⟨bt, 0, none⟩)].toArray W fun v w' => v = .agg (adC (devM xs k) (devS xs k) (devE xs k)).toArray ∧ Mem [bt] W w' [(bt, tobj p len cap (nxK xs (nxK xs k)))] := by
  have hv := nxV_bd xs k (n := 5) (by omega)
  cases hbv : boolV xs (nxK xs k) 2
  · refine fn_ofM (n := 15) [bt] Tryd.func65 rfl rfl rfl ?_
    intro a w F M hwW
    replace M := M.came hwW hb (by simp) (by simp)
    refine c_seq ?_
    refine c_region ?_
    (refine stepD rfl F rfl (o_alloc M ?_); clear F; clear M; intro b2 w M a F)
    with_reducible refine l_nil ?_
    with_reducible refine q_then ?_
    with_reducible refine c_seq ?_
    with_reducible refine c_region ?_
    refine stepD rfl F rfl (o_move (F.ev rfl) ?_); clear F; clear a; intro a F
    (refine stepD rfl F rfl (o_call (F.ev rfl) (F.evs rfl) (Cal.mono (next_c 5 (by omega) (by omega) _ (hT.later M.ext) (M.heap (.there .here)) ) ?_)); clear F; clear a; have M0 := M; clear M; rintro _ w ⟨rfl, N⟩ a F)
    replace M := M0.turn1 N (.there .here)
    refine stepD rfl F rfl (o_assign (F.ev rfl) ?_); clear F; clear a; intro a F
    with_reducible refine l_nil ?_
    with_reducible refine q_then ?_
    with_reducible refine c_seq ?_
    with_reducible refine c_seq ?_
    with_reducible refine c_region ?_
    refine stepD rfl F rfl (o_move (F.ev rfl) ?_); clear F; clear a; intro a F
    (refine stepD rfl F rfl (o_call (F.ev rfl) (F.evs rfl) (Cal.mono (bool_c 2 (by omega) (by omega) _ (hT.later M.ext) (M.heap (.there .here)) ) ?_)); clear F; clear a; have M0 := M; clear M; rintro _ w ⟨rfl, N⟩ a F)
    replace M := M0.turn1 N (.there .here)
    rw [hbv] at F
    with_reducible refine l_nil ?_
    with_reducible refine q_then ?_
    refine c_false F rfl rfl ?_
    with_reducible refine c_skip ?_
    with_reducible refine q_then ?_
    with_reducible refine c_seq ?_
    with_reducible refine c_region ?_
    refine stepD rfl F rfl (o_move (F.ev rfl) ?_); clear F; clear a; intro a F
    refine stepD rfl F rfl (o_conv (F.ev rfl) (w_u16 (by omega) (by omega)) ?_); clear F; clear a; intro a F
    refine stepD rfl F rfl (o_build F rfl rfl ?_); clear F; clear a; intro a F
    (refine stepN rfl F (o_storeA M (F.ev rfl) (F.ev rfl) (by rfl) (by rfl) (by repeat (first | exact .here | apply Has.there)) (by rfl) (by repeat (first | exact .here | apply Upd.there)) ?_); clear F; clear M; intro w M a F)
    with_reducible refine l_nil ?_
    with_reducible refine q_then ?_
    with_reducible refine c_ret ?_
    refine p_ret F rfl (.cons (.cell (F.ev rfl) (run_loadVar_agg TAgg.h (M.heap .here) rfl)) .nil) ⟨by simp [devM, devS, devE, hbv, adC, oneOr], M.sub (List.sublist_cons_self _ _)⟩
  · refine fn_ofM (n := 15) [bt] Tryd.func65 rfl rfl rfl ?_
    intro a w F M hwW
    replace M := M.came hwW hb (by simp) (by simp)
    refine c_seq ?_
    refine c_region ?_
    (refine stepD rfl F rfl (o_alloc M ?_); clear F; clear M; intro b2 w M a F)
    with_reducible refine l_nil ?_
    with_reducible refine q_then ?_
    with_reducible refine c_seq ?_
    with_reducible refine c_region ?_
    refine stepD rfl F rfl (o_move (F.ev rfl) ?_); clear F; clear a; intro a F
    (refine stepD rfl F rfl (o_call (F.ev rfl) (F.evs rfl) (Cal.mono (next_c 5 (by omega) (by omega) _ (hT.later M.ext) (M.heap (.there .here)) ) ?_)); clear F; clear a; have M0 := M; clear M; rintro _ w ⟨rfl, N⟩ a F)
    replace M := M0.turn1 N (.there .here)
    refine stepD rfl F rfl (o_assign (F.ev rfl) ?_); clear F; clear a; intro a F
    with_reducible refine l_nil ?_
    with_reducible refine q_then ?_
    with_reducible refine c_seq ?_
    with_reducible refine c_seq ?_
    with_reducible refine c_region ?_
    refine stepD rfl F rfl (o_move (F.ev rfl) ?_); clear F; clear a; intro a F
    (refine stepD rfl F rfl (o_call (F.ev rfl) (F.evs rfl) (Cal.mono (bool_c 2 (by omega) (by omega) _ (hT.later M.ext) (M.heap (.there .here)) ) ?_)); clear F; clear a; have M0 := M; clear M; rintro _ w ⟨rfl, N⟩ a F)
    replace M := M0.turn1 N (.there .here)
    rw [hbv] at F
    with_reducible refine l_nil ?_
    with_reducible refine q_then ?_
    refine c_true F rfl rfl ?_
    with_reducible refine c_seq ?_
    with_reducible refine c_region ?_
    refine stepD rfl F rfl (o_move (F.ev rfl) ?_); clear F; clear a; intro a F
    refine stepD rfl F rfl (o_conv (F.ev rfl) (w_u64 (by omega) (by omega)) ?_); clear F; clear a; intro a F
    refine stepD rfl F rfl (o_add (F.ev rfl) (F.ev rfl) (w_u64 (by omega) (by omega)) ?_); clear F; clear a; intro a F
    refine stepD rfl F rfl (o_build F rfl rfl ?_); clear F; clear a; intro a F
    (refine stepN rfl F (o_storeA M (F.ev rfl) (F.ev rfl) (by rfl) (by rfl) (by repeat (first | exact .here | apply Has.there)) (by rfl) (by repeat (first | exact .here | apply Upd.there)) ?_); clear F; clear M; intro w M a F)
    with_reducible refine l_nil ?_
    with_reducible refine q_then ?_
    with_reducible refine c_ret ?_
    with_reducible refine q_thenR ?_
    refine p_ret F rfl (.cons (.cell (F.ev rfl) (run_loadVar_agg TAgg.h (M.heap .here) rfl)) .nil) ⟨by simp [devM, devS, devE, hbv, adC, oneOr], M.sub (List.sublist_cons_self _ _)⟩

/-- a link address, off the tape -/
def addM (xs : List Int) (k : Nat) : Int := if nxV xs k 6 = 4 then 2 else if nxV xs k 6 = 5 then 0 else devM xs (nxK xs k)
def addS (xs : List Int) (k : Nat) : Int := if nxV xs k 6 = 4 then 65535 else if nxV xs k 6 = 5 then 0 else devS xs (nxK xs k)
def addE (xs : List Int) (k : Nat) : Int := if nxV xs k 6 = 4 then 0 else if nxV xs k 6 = 5 then 0 else devE xs (nxK xs k)
def addK (xs : List Int) (k : Nat) : Nat := if nxV xs k 6 = 4 then nxK xs k else if nxV xs k 6 = 5 then nxK xs k else nxK xs (nxK xs (nxK xs k))
theorem addr_c {bt : Nat} {p : Option Addr} {len cap k : Nat} {xs : List Int} (W : World) (hT : TapeS W bt p len xs) (hb : W.heap[bt]? = some (tobj p len cap k)) :
    Cal Tryd.prog 24 [.pointer (some ⟨bt, 0, none⟩)].toArray W fun v w' => v = .agg (adC (addM xs k) (addS xs k) (addE xs k)).toArray ∧ Mem [bt] W w' [(bt, tobj p len cap (addK xs k))] := by
  have hcell : ∀ m s e, (adC m s e).length = 3 := fun _ _ _ => rfl
  by_cases h4 : nxV xs k 6 = 4
  · refine fn_ofM (n := 13) [bt] Tryd.func24 rfl rfl rfl ?_
    intro a w F M hwW
    replace M := M.came hwW hb (by simp) (by simp)
    refine c_seq ?_
    refine c_region ?_
    (refine stepD rfl F rfl (o_alloc M ?_); clear F; clear M; intro b2 w M a F)
    with_reducible refine l_nil ?_
    with_reducible refine q_then ?_
    with_reducible refine c_seq ?_
    with_reducible refine c_seq ?_
    with_reducible refine c_region ?_
    refine stepD rfl F rfl (o_move (F.ev rfl) ?_); clear F; clear a; intro a F
    (refine stepD rfl F rfl (o_call (F.ev rfl) (F.evs rfl) (Cal.mono (next_c 6 (by omega) (by omega) _ (hT.later M.ext) (M.heap (.there .here)) ) ?_)); clear F; clear a; have M0 := M; clear M; rintro _ w ⟨rfl, N⟩ a F)
    replace M := M0.turn1 N (.there .here)
    rw [h4] at F
    with_reducible refine l_nil ?_
    with_reducible refine q_then ?_
    with_reducible refine c_block ?_
    with_reducible refine c_seq ?_
    with_reducible refine c_region ?_
    refine stepD rfl F rfl (o_eqlT (F.ev rfl) (F.ev rfl) (by omega) ?_); clear F; clear a; intro a F
    refine stepD rfl F rfl (o_assign (F.ev rfl) ?_); clear F; clear a; intro a F
    with_reducible refine l_nil ?_
    with_reducible refine q_then ?_
    refine c_true F rfl rfl ?_
    with_reducible refine c_seq ?_
    with_reducible refine c_region ?_
    refine stepD rfl F rfl (o_build F rfl rfl ?_); clear F; clear a; intro a F
    (refine stepN rfl F (o_storeA M (F.ev rfl) (F.ev rfl) (by rfl) (by rfl) (by repeat (first | exact .here | apply Has.there)) (by rfl) (by repeat (first | exact .here | apply Upd.there)) ?_); clear F; clear M; intro w M a F)
    with_reducible refine l_nil ?_
    with_reducible refine q_then ?_
    with_reducible refine c_ret ?_
    with_reducible refine q_inBR ?_
    with_reducible refine q_thenR ?_
    refine p_ret F rfl (.cons (.cell (F.ev rfl) (run_loadVar_agg TAgg.h (M.heap .here) rfl)) .nil) ⟨by simp [addM, addS, addE, h4, adC, oneOr], ?_⟩
    simp only [addK, h4, if_true]
    exact M.sub (List.sublist_cons_self _ _)
  · by_cases h5 : nxV xs k 6 = 5
    · refine fn_ofM (n := 13) [bt] Tryd.func24 rfl rfl rfl ?_
      intro a w F M hwW
      replace M := M.came hwW hb (by simp) (by simp)
      refine c_seq ?_
      refine c_region ?_
      (refine stepD rfl F rfl (o_alloc M ?_); clear F; clear M; intro b2 w M a F)
      with_reducible refine l_nil ?_
      with_reducible refine q_then ?_
      with_reducible refine c_seq ?_
      with_reducible refine c_seq ?_
      with_reducible refine c_region ?_
      refine stepD rfl F rfl (o_move (F.ev rfl) ?_); clear F; clear a; intro a F
      (refine stepD rfl F rfl (o_call (F.ev rfl) (F.evs rfl) (Cal.mono (next_c 6 (by omega) (by omega) _ (hT.later M.ext) (M.heap (.there .here)) ) ?_)); clear F; clear a; have M0 := M; clear M; rintro _ w ⟨rfl, N⟩ a F)
      replace M := M0.turn1 N (.there .here)
      rw [h5] at F
      with_reducible refine l_nil ?_
      with_reducible refine q_then ?_
      with_reducible refine c_block ?_
      with_reducible refine c_seq ?_
      with_reducible refine c_region ?_
      refine stepD rfl F rfl (o_eqlF (F.ev rfl) (F.ev rfl) (by omega) ?_); clear F; clear a; intro a F
      refine stepD rfl F rfl (o_assign (F.ev rfl) ?_); clear F; clear a; intro a F
      with_reducible refine l_nil ?_
      with_reducible refine q_then ?_
      refine c_false F rfl rfl ?_
      with_reducible refine c_seq ?_
      with_reducible refine c_region ?_
      refine stepD rfl F rfl (o_eqlT (F.ev rfl) (F.ev rfl) (by omega) ?_); clear F; clear a; intro a F
      refine stepD rfl F rfl (o_assign (F.ev rfl) ?_); clear F; clear a; intro a F
      with_reducible refine l_nil ?_
      with_reducible refine q_then ?_
      refine c_true F rfl rfl ?_
      with_reducible refine c_seq ?_
      with_reducible refine c_region ?_
      refine stepD rfl F rfl (o_build F rfl rfl ?_); clear F; clear a; intro a F
      (refine stepN rfl F (o_storeA M (F.ev rfl) (F.ev rfl) (by rfl) (by rfl) (by repeat (first | exact .here | apply Has.there)) (by rfl) (by repeat (first | exact .here | apply Upd.there)) ?_); clear F; clear M; intro w M a F)
      with_reducible refine l_nil ?_
      with_reducible refine q_then ?_
      with_reducible refine c_ret ?_
      with_reducible refine q_inBR ?_
      with_reducible refine q_thenR ?_
      refine p_ret F rfl (.cons (.cell (F.ev rfl) (run_loadVar_agg TAgg.h (M.heap .here) rfl)) .nil) ⟨by simp [addM, addS, addE, h5, adC, oneOr], ?_⟩
      simp only [addK, h4, h5, if_true, if_false]
      exact M.sub (List.sublist_cons_self _ _)
    · refine fn_ofM (n := 13) [bt] Tryd.func24 rfl rfl rfl ?_
      intro a w F M hwW
      replace M := M.came hwW hb (by simp) (by simp)
      refine c_seq ?_
      refine c_region ?_
      (refine stepD rfl F rfl (o_alloc M ?_); clear F; clear M; intro b2 w M a F)
      with_reducible refine l_nil ?_
      with_reducible refine q_then ?_
      with_reducible refine c_seq ?_
      with_reducible refine c_seq ?_
      with_reducible refine c_region ?_
      refine stepD rfl F rfl (o_move (F.ev rfl) ?_); clear F; clear a; intro a F
      (refine stepD rfl F rfl (o_call (F.ev rfl) (F.evs rfl) (Cal.mono (next_c 6 (by omega) (by omega) _ (hT.later M.ext) (M.heap (.there .here)) ) ?_)); clear F; clear a; have M0 := M; clear M; rintro _ w ⟨rfl, N⟩ a F)
      replace M := M0.turn1 N (.there .here)
      with_reducible refine l_nil ?_
      with_reducible refine q_then ?_
      with_reducible refine c_block ?_
      with_reducible refine c_seq ?_
      with_reducible refine c_region ?_
      refine stepD rfl F rfl (o_eqlF (F.ev rfl) (F.ev rfl) (by omega) ?_); clear F; clear a; intro a F
      refine stepD rfl F rfl (o_assign (F.ev rfl) ?_); clear F; clear a; intro a F
      with_reducible refine l_nil ?_
      with_reducible refine q_then ?_
      refine c_false F rfl rfl ?_
      with_reducible refine c_seq ?_
      with_reducible refine c_region ?_
      refine stepD rfl F rfl (o_eqlF (F.ev rfl) (F.ev rfl) (by omega) ?_); clear F; clear a; intro a F
      refine stepD rfl F rfl (o_assign (F.ev rfl) ?_); clear F; clear a; intro a F
      with_reducible refine l_nil ?_
      with_reducible refine q_then ?_
      refine c_false F rfl rfl ?_
      with_reducible refine c_skip ?_
      with_reducible refine q_inB ?_
      with_reducible refine q_then ?_
      with_reducible refine c_seq ?_
      with_reducible refine c_region ?_
      refine stepD rfl F rfl (o_move (F.ev rfl) ?_); clear F; clear a; intro a F
      (refine stepD rfl F rfl (o_call (F.ev rfl) (F.evs rfl) (Cal.mono (device_c _ (hT.later M.ext) (M.heap (.there .here)) ) ?_)); clear F; clear a; have M0 := M; clear M; rintro _ w ⟨rfl, N⟩ a F)
      replace M := M0.turn1 N (.there .here)
      skip
      (refine stepN rfl F (o_storeA M (F.ev rfl) (F.ev rfl) (by rfl) (by rfl) (by repeat (first | exact .here | apply Has.there)) (by rfl) (by repeat (first | exact .here | apply Upd.there)) ?_); clear F; clear M; intro w M a F)
      with_reducible refine l_nil ?_
      with_reducible refine q_then ?_
      with_reducible refine c_ret ?_
      refine p_ret F rfl (.cons (.cell (F.ev rfl) (run_loadVar_agg TAgg.h (M.heap .here) rfl)) .nil) ⟨by simp [addM, addS, addE, h4, h5, oneOr, adC], ?_⟩
      simp only [addK, h4, h5, if_false]
      exact M.sub (List.sublist_cons_self _ _)

/-! New -/
/-- a slice of int that came in: its numbers -/
structure IntsAt (W : World) (v : Value) (xs : List Int) : Prop where
  ex : ∃ p cap, v = .slice p xs.length cap ∧ xs.length ≤ cap ∧ (0 < xs.length → ∃ b o cs t fz, p = some ⟨b, o, none⟩ ∧ W.heap[b]? = some (.cells cs t fz) ∧ seg cs.toList o xs.length = some (i64C xs))
  bd : ∀ x ∈ xs, -9223372036854775808 ≤ x ∧ x ≤ 9223372036854775807
  small : xs.length ≤ 9223372036854775807
def cut400 (xs : List Int) : List Int := xs.take 400
theorem seg_eq : ∀ (cs : List Value) (off n : Nat), seg cs off n = if off + n ≤ cs.length then some ((cs.drop off).take n) else none
  | [], 0, 0 => by simp [seg]
  | _ :: _, 0, 0 => by simp [seg]
  | [], 0, n + 1 => by simp [seg]
  | [], off + 1, n => by cases n <;> simp [seg]
  | x :: xs, 0, n + 1 => by
    simp only [seg]
    rw [seg_eq xs 0 n]
    by_cases h : n ≤ xs.length
    · rw [if_pos (by omega), if_pos (by simp; omega)]; simp
    · rw [if_neg (by omega), if_neg (by simp; omega)]
  | x :: xs, off + 1, n => by
    have : seg (x :: xs) (off + 1) n = seg xs off n := by cases n <;> rfl
    rw [this, seg_eq xs off n]
    by_cases h : off + n ≤ xs.length
    · rw [if_pos h, if_pos (by simp; omega)]; simp
    · rw [if_neg h, if_neg (by simp; omega)]
theorem seg_take {cs ys : List Value} {off n m : Nat} (h : seg cs off n = some ys) (hm : m ≤ n) : seg cs off m = some (ys.take m) := by
  rw [seg_eq] at h ⊢
  split at h
  · rename_i hle
    rw [if_pos (by omega)]
    simp only [Option.some.injEq] at h
    subst h
    rw [List.take_take, Nat.min_eq_left hm]
  · cases h
theorem tape_new {W w' : World} {bt : Nat} {p : Option Addr} {xs : List Int} (hE : Ext [] W w') (hbt : W.heap.size ≤ bt) (hbd : ∀ x ∈ xs, -9223372036854775808 ≤ x ∧ x ≤ 9223372036854775807)
    (hm : 0 < xs.length → ∃ b o cs t fz, p = some ⟨b, o, none⟩ ∧ W.heap[b]? = some (.cells cs t fz) ∧ seg cs.toList o xs.length = some (i64C xs)) : TapeS w' bt p (cut400 xs).length (cut400 xs) := by
  refine ⟨rfl, by unfold cut400; rw [List.length_take]; omega, fun x hx => hbd x (List.mem_of_mem_take hx), fun hl => ?_⟩
  have hl0 : 0 < xs.length := by unfold cut400 at hl; rw [List.length_take] at hl; omega
  obtain ⟨b, o, cs, t, fz, h1, h2, h3⟩ := hm hl0
  have hlt := (Array.getElem?_eq_some_iff.1 h2).1
  refine ⟨b, o, cs, t, fz, h1, by omega, by rw [hE.block b hlt (by simp)]; exact h2, ?_⟩
  have := seg_take h3 (show (cut400 xs).length ≤ xs.length by unfold cut400; rw [List.length_take]; omega)
  rw [this]
  unfold i64C cut400
  rw [← List.map_take, List.length_take, Nat.min_comm, ← List.take_take, List.take_of_length_le (show (List.take 400 xs).length ≤ xs.length by rw [List.length_take]; omega)]
set_option maxHeartbeats 400000 in
theorem new_c {p : Option Addr} {cap : Nat} (xs : List Int) (W : World) (hI : IntsAt W (.slice p xs.length cap) xs) (hcap : xs.length ≤ cap) : Cal Tryd.prog 23 [.slice p xs.length cap].toArray W fun x w' => ∃ bt, x = .pointer (some ⟨bt, 0, none⟩) ∧ Mem [] W w' [(bt, tobj p (cut400 xs).length cap 0)] := by
  have hsm := hI.small
  by_cases h4 : 400 < xs.length
  · obtain ⟨b, o, hpp⟩ : ∃ b o, p = some ⟨b, o, none⟩ := by
      obtain ⟨p', cap', h1, _, h3⟩ := hI.ex
      cases h1
      obtain ⟨b, o, _, _, _, h5, _⟩ := h3 (by omega)
      exact ⟨b, o, h5⟩
    have hl : (cut400 xs).length = 400 := by unfold cut400; rw [List.length_take]; omega
    refine fn_ofM (n := 11) [] Tryd.func23 rfl rfl rfl ?_
    intro a w F M hwW
    with_reducible refine c_seq ?_
    with_reducible refine c_region ?_
    refine stepD rfl F rfl (o_assign (F.ev rfl) ?_); clear F; clear a; intro a F
    with_reducible refine l_nil ?_
    with_reducible refine q_then ?_
    with_reducible refine c_seq ?_
    with_reducible refine c_seq ?_
    with_reducible refine c_region ?_
    refine stepD rfl F rfl (o_move (F.ev rfl) ?_); clear F; clear a; intro a F
    refine stepD rfl F rfl (o_lenSl (F.ev rfl) ?_); clear F; clear a; intro a F
    refine stepD rfl F rfl (o_gtrT (F.ev rfl) (F.ev rfl) (by omega) ?_); clear F; clear a; intro a F
    with_reducible refine l_nil ?_
    with_reducible refine q_then ?_
    refine c_true F rfl rfl ?_
    with_reducible refine c_region ?_
    refine stepD rfl F rfl (o_move (F.ev rfl) ?_); clear F; clear a; intro a F
    (refine stepD rfl F rfl (o_slH (F.ev rfl) (F.ev rfl) (fun a ha => by rw [hpp] at ha; cases ha; rfl) (by omega) (by omega) ?_); clear F; clear a; intro a F)
    refine stepD rfl F rfl (o_assign (F.ev rfl) ?_); clear F; clear a; intro a F
    with_reducible refine l_nil ?_
    with_reducible refine q_then ?_
    with_reducible refine c_seq ?_
    with_reducible refine c_region ?_
    refine stepD rfl F rfl (o_move (F.ev rfl) ?_); clear F; clear a; intro a F
    refine stepD rfl F rfl (o_build F rfl rfl ?_); clear F; clear a; intro a F
    (refine stepD rfl F rfl (o_box M (F.ev rfl) rfl ?_); clear F; clear M; intro bt w M a F)
    refine stepD rfl F rfl (o_assign (F.ev rfl) ?_); clear F; clear a; intro a F
    with_reducible refine l_nil ?_
    with_reducible refine q_then ?_
    with_reducible refine c_ret ?_
    refine p_ret F rfl (.cons (.tmp (F.ev rfl)) .nil) ?_
    refine ⟨bt, rfl, ?_⟩
    rw [hl]; exact M
  · have hl : (cut400 xs).length = xs.length := by unfold cut400; rw [List.length_take]; omega
    refine fn_ofM (n := 11) [] Tryd.func23 rfl rfl rfl ?_
    intro a w F M hwW
    with_reducible refine c_seq ?_
    with_reducible refine c_region ?_
    refine stepD rfl F rfl (o_assign (F.ev rfl) ?_); clear F; clear a; intro a F
    with_reducible refine l_nil ?_
    with_reducible refine q_then ?_
    with_reducible refine c_seq ?_
    with_reducible refine c_seq ?_
    with_reducible refine c_region ?_
    refine stepD rfl F rfl (o_move (F.ev rfl) ?_); clear F; clear a; intro a F
    refine stepD rfl F rfl (o_lenSl (F.ev rfl) ?_); clear F; clear a; intro a F
    refine stepD rfl F rfl (o_gtrF (F.ev rfl) (F.ev rfl) (by omega) ?_); clear F; clear a; intro a F
    with_reducible refine l_nil ?_
    with_reducible refine q_then ?_
    refine c_false F rfl rfl ?_
    with_reducible refine c_skip ?_
    with_reducible refine q_then ?_
    with_reducible refine c_seq ?_
    with_reducible refine c_region ?_
    refine stepD rfl F rfl (o_move (F.ev rfl) ?_); clear F; clear a; intro a F
    refine stepD rfl F rfl (o_build F rfl rfl ?_); clear F; clear a; intro a F
    (refine stepD rfl F rfl (o_box M (F.ev rfl) rfl ?_); clear F; clear M; intro bt w M a F)
    refine stepD rfl F rfl (o_assign (F.ev rfl) ?_); clear F; clear a; intro a F
    with_reducible refine l_nil ?_
    with_reducible refine q_then ?_
    with_reducible refine c_ret ?_
    refine p_ret F rfl (.cons (.tmp (F.ev rfl)) .nil) ?_
    refine ⟨bt, rfl, ?_⟩
    rw [hl]; exact M
theorem IntsAt.later {W w : World} {v : Value} {xs : List Int} (h : IntsAt W v xs) (E : Ext [] W w) : IntsAt w v xs := by
  refine ⟨?_, h.bd, h.small⟩
  obtain ⟨p, cap, h1, h2, h3⟩ := h.ex
  refine ⟨p, cap, h1, h2, fun hl => ?_⟩
  obtain ⟨b, o, cs, t, fz, g1, g2, g3⟩ := h3 hl
  exact ⟨b, o, cs, t, fz, g1, by rw [E.block b (Array.getElem?_eq_some_iff.1 g2).1 (by simp)]; exact g2, g3⟩
end Go.Proofs.YtadnpidadcgdcaaDoor

/-! Open2 -/
/-
  Arguments that are slices of int, opened.
-/
namespace Go.Proofs.YtadnpidadcgdcaaDoor
set_option linter.unusedVariables false
set_option linter.unusedSimpArgs false
open Go.ChangeShapes Go.WideShapes Go.ChangeAt Go.RowKit

set_option maxRecDepth 100000 in
theorem open_il {H : Type} {enc : TypeId × Value → H} {w : World} {r : Reach} {b0 base : Nat} {held : Bool} {v : Value} {d : DataW H} {p : List MemPlace} (hval : Value.okWide Tryd.prog w r b0 24 v) (h : DataW.Trod enc Tryd.prog w base (fun _ => true) held 24 v d p) :
    ∃ xs q cap, v = .slice q xs.length cap ∧ xs.length ≤ cap ∧ IntsAt w v xs := by
  obtain ⟨a, len, cap, rfl⟩ := okWide_slice Tryd.underlying24 hval
  obtain ⟨fuel, hf⟩ := h
  have hone : (Value.slice a len cap).cells.toList = [Value.slice a len cap] := rfl
  rw [hone] at hf
  rcases open_ints Tryd.underlying24 Tryd.underlying3 (by kernel_rfl) hf with ⟨h1, _⟩ | ⟨a', len', cap', zs, h1, _, hlc, hcm, hzl, _, hat, hwf⟩
  · cases h1
    exact ⟨[], none, 0, rfl, by simp, ⟨⟨none, 0, rfl, by simp, fun h => absurd h (by simp)⟩, by simp, by simp⟩⟩
  · cases h1
    simp only [if_true] at hzl
    have hml : maxLen = 9223372036854775807 := rfl
    have htl : (zs.take len).length = len := by rw [List.length_take]; omega
    refine ⟨zs.take len, some a', cap, by rw [htl], by omega, ⟨⟨some a', cap, by rw [htl], by omega, fun hl => ?_⟩, fun x hx => ?_, by omega⟩⟩
    · rw [htl] at hl
      have h0 := hat 0 (by omega)
      have hsp : a'.spot = none := by
        cases hs : a'.spot with
        | none => rfl
        | some q =>
          have e0 : a'.add 0 = a' := by simp [Addr.add]
          rw [e0] at h0
          simp only [World.cell?, hs] at h0
          split at h0 <;> simp at h0
      obtain ⟨b, o, sp⟩ := a'
      simp only at hsp
      subst hsp
      have hadd : ∀ i, (⟨b, o, none⟩ : Addr).add i = ⟨b, o + i, none⟩ := fun i => addr_add b o i
      rw [hadd] at h0
      cases hb : w.heap[b]? with
      | none => simp [World.cell?, hb] at h0
      | some ob =>
        cases ob with
        | cells cs t fz =>
          refine ⟨b, o, cs, t, fz, rfl, hb, ?_⟩
          have hcell : ∀ i, i < zs.length → cs[o + i]? = some (.int .i64 (zs.getD i 0)) := fun i hi => by
            have := hat i hi
            rw [hadd] at this
            simpa [World.cell?, hb] using this
          have hle : o + len ≤ cs.toList.length := by
            have := hcell (len - 1) (by omega)
            have := (Array.getElem?_eq_some_iff.1 this).1
            simp only [Array.length_toList]
            omega
          rw [htl, seg_eq, if_pos hle]
          congr 1
          apply List.ext_getElem
          · simp only [List.length_take, List.length_drop, i64C, List.length_map]
            omega
          · intro i h1 h2
            have hi : i < len := by simp only [List.length_take] at h1; omega
            have := hcell i (by omega)
            have h3 := Array.getElem?_eq_some_iff.1 this
            obtain ⟨h4, h5⟩ := h3
            simp only [List.getElem_take, List.getElem_drop, Array.getElem_toList, h5, i64C, List.getElem_map]
            rw [List.getD_eq_getElem?_getD, List.getElem?_eq_getElem (by omega)]
            rfl
        | _ => simp [World.cell?, hb] at h0
    · have := int_bd (hwf x (List.mem_of_mem_take hx))
      exact this
end Go.Proofs.YtadnpidadcgdcaaDoor

/-! M0 -/
/-
  Plain facts on masks: how prefixes of one address are nested; a prefix contains just the addresses with its first bits. No program in sight.
-/
namespace Go.Proofs.YtadnpidadcgdcaaDoor
set_option linter.unusedVariables false
set_option linter.unusedSimpArgs false
open Go.RowKit

/-- a byte of which the first k bits stay -/
def cutB (x : Int) (k : Nat) : Int := bitsOf .andNot .u8 x (Int.fdiv 255 (2 ^ min k 8))
theorem cutB_fin : ∀ x : Fin 256, ∀ k : Fin 9, cutB (x.1 : Int) k.1 = ((x.1 / 2 ^ (8 - k.1) * 2 ^ (8 - k.1) : Nat) : Int) := by decide +kernel
theorem cutB_nat {x k : Nat} (hx : x < 256) (hk : k ≤ 8) : cutB (x : Int) k = ((x / 2 ^ (8 - k) * 2 ^ (8 - k) : Nat) : Int) := cutB_fin ⟨x, hx⟩ ⟨k, by omega⟩
theorem nest_fin : ∀ x : Fin 256, ∀ k j : Fin 9, (x.1 / 2 ^ (8 - k.1) * 2 ^ (8 - k.1)) / 2 ^ (8 - j.1) * 2 ^ (8 - j.1) = x.1 / 2 ^ (8 - min j.1 k.1) * 2 ^ (8 - min j.1 k.1) := by decide +kernel
theorem low_fin : ∀ x : Fin 256, ∀ k : Fin 9, (x.1 / 2 ^ (8 - k.1) = 0) ↔ Lib.bitLen x.1 ≤ 8 - k.1 := by decide +kernel
theorem bitLen_fin : ∀ x : Fin 256, Lib.bitLen x.1 ≤ 8 ∧ (Lib.bitLen x.1 = 0 ↔ x.1 = 0) := by decide +kernel
theorem cutB_bd {x : Int} {k : Nat} (h0 : 0 ≤ x) (h1 : x < 256) (hk : k ≤ 8) : 0 ≤ cutB x k ∧ cutB x k < 256 := by
  obtain ⟨n, rfl⟩ := Int.eq_ofNat_of_zero_le h0
  rw [cutB_nat (by omega) hk]
  have := Nat.div_mul_le_self n (2 ^ (8 - k))
  omega
theorem cutB_nest {x : Int} {k j : Nat} (h0 : 0 ≤ x) (h1 : x < 256) (hk : k ≤ 8) (hj : j ≤ 8) : cutB (cutB x k) j = cutB x (min j k) := by
  obtain ⟨n, rfl⟩ := Int.eq_ofNat_of_zero_le h0
  have hn : n < 256 := by omega
  have := Nat.div_mul_le_self n (2 ^ (8 - k))
  rw [cutB_nat hn hk, cutB_nat (by omega) hj, cutB_nat hn (by omega), nest_fin ⟨n, hn⟩ ⟨k, by omega⟩ ⟨j, by omega⟩]
theorem cutB_eq {x y : Int} {k : Nat} (h0 : 0 ≤ x) (h1 : x < 256) (g0 : 0 ≤ y) (g1 : y < 256) (hk : k ≤ 8) : (cutB x k = cutB y k) ↔ Lib.bitLen (bitsOf .xor .u8 y x).toNat ≤ 8 - k := by
  obtain ⟨n, rfl⟩ := Int.eq_ofNat_of_zero_le h0
  obtain ⟨m, rfl⟩ := Int.eq_ofNat_of_zero_le g0
  have hn : n < 256 := by omega
  have hm : m < 256 := by omega
  rw [cutB_nat hn hk, cutB_nat hm hk, bits_xor (k := .u8) rfl (show m < 2 ^ 8 by omega) (show n < 2 ^ 8 by omega), Int.toNat_natCast]
  have hx : m ^^^ n < 256 := Nat.xor_lt_two_pow (n := 8) hm hn
  rw [← low_fin ⟨m ^^^ n, hx⟩ ⟨k, by omega⟩]
  simp only
  rw [Nat.xor_div_two_pow]
  have hp : 0 < 2 ^ (8 - k) := Nat.two_pow_pos _
  constructor
  · intro h
    have h' : n / 2 ^ (8 - k) * 2 ^ (8 - k) = m / 2 ^ (8 - k) * 2 ^ (8 - k) := by exact_mod_cast h
    rw [Nat.eq_of_mul_eq_mul_right hp h']
    exact Nat.xor_self _
  · intro h
    have : m / 2 ^ (8 - k) = n / 2 ^ (8 - k) := by
      have h2 := congrArg (· ^^^ (n / 2 ^ (8 - k))) h
      simpa [Nat.xor_assoc] using h2
    rw [this]

theorem keepN_bd (n i : Int) : (keepN n i).toNat ≤ 8 := by unfold keepN; split <;> (try split) <;> omega
theorem maskAt_cut (a : List Int) (n : Int) (i : Nat) : maskAt a n i = cutB (a.getD i 0) (keepN n i).toNat := rfl
theorem maskI_at (a : List Int) (n : Int) {i : Nat} (h : i < 16) : (maskI a n).getD i 0 = maskAt a n i := by simp [maskI, h]
theorem maskI_ext {a b : List Int} {n m : Int} : maskI a n = maskI b m ↔ ∀ i, i < 16 → maskAt a n i = maskAt b m i := by
  unfold maskI
  constructor
  · intro h i hi
    have := congrArg (fun l => l.getD i 0) h
    simpa [hi] using this
  · intro h
    exact List.map_congr_left fun i hi => h i (List.mem_range.1 hi)
def minI (m n : Int) : Int := if n < m then n else m
theorem keep_min (m n i : Int) : min (keepN m i).toNat (keepN n i).toNat = (keepN (minI m n) i).toNat := by
  unfold minI keepN
  split <;> split <;> split <;> (try split) <;> (try split) <;> omega
theorem mask_nest {p : List Int} (hp : IsIP p) (m n : Int) : maskI (maskI p n) m = maskI p (minI m n) := by
  rw [maskI_ext]
  intro i hi
  rw [maskAt_cut, maskI_at _ _ hi, maskAt_cut, maskAt_cut, cutB_nest (hp.at_ i).1 (hp.at_ i).2 (keepN_bd _ _) (keepN_bd _ _), keep_min]
theorem mask_isIP {p : List Int} (hp : IsIP p) (n : Int) : IsIP (maskI p n) := by
  refine ⟨maskI_len p n, fun x hx => ?_⟩
  unfold maskI at hx
  obtain ⟨i, _, rfl⟩ := List.mem_map.1 hx
  exact cutB_bd (hp.at_ i).1 (hp.at_ i).2 (keepN_bd _ _)
theorem minI_self (m : Int) : minI m m = m := by unfold minI; split <;> rfl
theorem minI_left {m n : Int} (h : m ≤ n) : minI m n = m := by unfold minI; rw [if_neg (by omega)]
theorem minI_min (m n : Int) : minI (minI m n) n = minI m n := by unfold minI; split <;> (try split) <;> omega
theorem valid_mask {p : List Int} (hp : IsIP p) {m : Int} (h0 : 0 ≤ m) (h1 : m ≤ 128) : validP (maskI p m) m = true := by
  simp [validP, h0, h1, mask_nest hp, minI_self]
theorem contains_self {p : List Int} (hp : IsIP p) {m : Int} (h0 : 0 ≤ m) (h1 : m ≤ 128) : containsP (maskI p m) m p = true := by
  simp [containsP, valid_mask hp h0 h1]
theorem covers_mask {p : List Int} (hp : IsIP p) {m n : Int} (h0 : 0 ≤ m) (h1 : m ≤ 128) (g0 : 0 ≤ n) (g1 : n ≤ 128) : coversP (maskI p m) m (maskI p n) n = decide (m ≤ n) := by
  unfold coversP
  by_cases h : m ≤ n
  · simp [h, valid_mask hp g0 g1, containsP, valid_mask hp h0 h1, mask_nest hp, minI_left h]
  · simp [h]
theorem mask_min {p : List Int} (hp : IsIP p) (m n : Int) : maskI (maskI p n) (minI m n) = maskI p (minI m n) := by rw [mask_nest hp, minI_min]

theorem common_iff {p q : List Int} (hp : IsIP p) (hq : IsIP q) {m : Int} (h0 : 0 ≤ m) (h1 : m ≤ 128) : ∀ k, k ≤ 16 → ((m ≤ commonFrom p q k) ↔ ∀ i, 16 - k ≤ i → i < 16 → Lib.bitLen (xorAt p q i).toNat ≤ 8 - (keepN m i).toNat)
  | 0, _ => by
    simp only [commonFrom]
    exact ⟨fun _ i h h' => by omega, fun _ => h1⟩
  | k + 1, hk => by
    have ih := common_iff hp hq h0 h1 k (by omega)
    have hx := xor_bd hp hq (15 - k)
    have hbl := bitLen_fin ⟨(xorAt p q (15 - k)).toNat, by omega⟩
    simp only at hbl
    simp only [commonFrom]
    split
    · rename_i hne
      have hne' : Lib.bitLen (xorAt p q (15 - k)).toNat ≠ 0 := fun h => hne (by have := hbl.2.1 h; omega)
      constructor
      · intro h i hi hi'
        by_cases e : i = 15 - k
        · subst e
          unfold keepN
          split <;> (try split) <;> omega
        · have : keepN m i = 0 := by unfold keepN; split <;> (try split) <;> omega
          have hb := bitLen_fin ⟨(xorAt p q i).toNat, by have := xor_bd hp hq i; omega⟩
          simp only at hb
          rw [this]
          exact hb.1
      · intro h
        have := h (15 - k) (by omega) (by omega)
        unfold keepN at this
        split at this <;> (try split at this) <;> omega
    · rename_i he
      have he' : xorAt p q (15 - k) = 0 := Classical.byContradiction he
      rw [ih]
      constructor
      · intro h i hi hi'
        by_cases e : i = 15 - k
        · subst e
          rw [he']
          exact Nat.zero_le _
        · exact h i (by omega) hi'
      · intro h i hi hi'
        exact h i (by omega) hi'
theorem contains_common {p q : List Int} (hp : IsIP p) (hq : IsIP q) {m : Int} (h0 : 0 ≤ m) (h1 : m ≤ 128) : containsP (maskI p m) m q = decide (m ≤ commonI p q) := by
  unfold containsP
  rw [valid_mask hp h0 h1, Bool.true_and]
  have : (maskI q m = maskI p m) ↔ (m ≤ commonI p q) := by
    unfold commonI
    rw [common_iff hp hq h0 h1 16 (Nat.le_refl _), maskI_ext]
    constructor
    · intro h i _ hi
      exact (cutB_eq (hq.at_ i).1 (hq.at_ i).2 (hp.at_ i).1 (hp.at_ i).2 (keepN_bd _ _)).1 (h i hi)
    · intro h i hi
      exact (cutB_eq (hq.at_ i).1 (hq.at_ i).2 (hp.at_ i).1 (hp.at_ i).2 (keepN_bd _ _)).2 (h i (by omega) hi)
  by_cases h : m ≤ commonI p q
  · rw [decide_eq_true h, beq_iff_eq]; exact this.2 h
  · rw [decide_eq_false h, beq_eq_false_iff_ne]; exact fun he => h (this.1 he)
end Go.Proofs.YtadnpidadcgdcaaDoor

/-! A2 -/
/-
  octets.Uint, address.Split.
-/
namespace Go.Proofs.YtadnpidadcgdcaaDoor
set_option linter.unusedVariables false
set_option linter.unusedSimpArgs false
open Go.RowKit
attribute [local irreducible] OpTo wpListIn Code.wpIn MW Cal

/-- the number of a row of bytes, the first one highest -/
def beN (xs : List Int) : Int := xs.foldl (fun v c => 256 * v + c) 0
theorem beN_snoc (xs : List Int) (c : Int) : beN (xs ++ [c]) = 256 * beN xs + c := by simp [beN]
theorem beN_bd : ∀ (n : Nat) (xs : List Int), xs.length = n → (∀ x ∈ xs, 0 ≤ x ∧ x < 256) → 0 ≤ beN xs ∧ beN xs < ((256 ^ n : Nat) : Int)
  | 0, xs, hl, _ => by
    have : xs = [] := List.length_eq_zero_iff.1 hl
    subst this; simp [beN]
  | n + 1, xs, hl, h => by
    obtain ⟨ys, c, rfl⟩ : ∃ ys c, xs = ys ++ [c] := ⟨xs.dropLast, xs.getLast (by intro e; rw [e] at hl; cases hl), (List.dropLast_concat_getLast _).symm⟩
    have ih := beN_bd n ys (by simpa using hl) (fun x hx => h x (by simp [hx]))
    have hc := h c (by simp)
    rw [beN_snoc, Nat.pow_succ]
    omega
theorem shl8u64 {v c : Int} (h0 : 0 ≤ v) (h1 : v < 72057594037927936) (c0 : 0 ≤ c) (c1 : c < 256) : bitsOf .or .u64 (IntKind.u64.wrap (v * 2 ^ min (Int.toNat 8) IntKind.u64.bits)) c = 256 * v + c := by
  obtain ⟨q, rfl⟩ := Int.eq_ofNat_of_zero_le h0
  obtain ⟨n, rfl⟩ := Int.eq_ofNat_of_zero_le c0
  have e : IntKind.u64.wrap ((q : Int) * 2 ^ min (Int.toNat 8) IntKind.u64.bits) = ((2 ^ 8 * q : Nat) : Int) := by
    have : ((q : Int) * 2 ^ min (Int.toNat 8) IntKind.u64.bits) = ((2 ^ 8 * q : Nat) : Int) := by
      show (q : Int) * 256 = _
      omega
    rw [this]
    exact wrap_u rfl (show 2 ^ 8 * q < 18446744073709551616 by omega)
  rw [e, or_add (k := .u64) rfl 8 q n (by omega) (show 2 ^ 8 * q + n < 18446744073709551616 by omega)]
  omega
theorem seg_at {cs : List Value} {off n i : Nat} {xs : List Int} (h : seg cs off n = some (ipC xs)) (hi : i < n) {q : Nat} (hq : q = off + i) : nth cs q = some (.int .u8 (xs.getD i 0)) := by
  obtain ⟨h1, h2⟩ := seg_spec _ _ _ _ h
  have := h2 i hi
  subst hq
  rw [nth_spec, this]
  have hxn : xs.length = n := by simpa [ipC] using h1
  have hl : i < xs.length := by omega
  simp [ipC, hl]

set_option maxHeartbeats 400000 in
theorem uint_c {b o len cap : Nat} {at_ n : Nat} {cs : List Value} {t : TypeId} {fz : Nat × Nat} (xs : List Int) (W : World) (hb : W.heap[b]? = some (.cells cs.toArray t fz)) (hs : seg cs (o + at_) n = some (ipC xs)) (hx : ∀ x ∈ xs, 0 ≤ x ∧ x < 256) (h1 : 1 ≤ n) (h8 : n ≤ 8) (hl : at_ + n ≤ len) (hc : len ≤ cap) (hm : cap ≤ 9223372036854775807) :
    Cal Tryd.prog 70 [.slice (some ⟨b, o, none⟩) len cap, .int .i64 at_, .int .i64 n].toArray W fun v w' => v = .tuple #[.int .u64 (beN xs), .bool true] ∧ Ext [] W w' := by
  have hxl : xs.length = n := by have := (seg_spec _ _ _ _ hs).1; simpa [ipC] using this
  refine fn_ofM (n := 47) [b] Tryd.func70 rfl rfl rfl ?_
  intro a w F M hwW
  replace M := M.came hwW hb (by simp) (by simp)
  with_reducible refine c_seq ?_
  with_reducible refine c_region ?_
  refine stepD rfl F rfl (o_assign (F.ev rfl) ?_); clear F; clear a; intro a F
  refine stepD rfl F rfl (o_assign (F.ev rfl) ?_); clear F; clear a; intro a F
  with_reducible refine l_nil ?_
  with_reducible refine q_then ?_
  with_reducible refine c_seq ?_
  with_reducible refine c_seq ?_
  with_reducible refine c_region ?_
  refine stepD rfl F rfl (o_move (F.ev rfl) ?_); clear F; clear a; intro a F
  refine stepD rfl F rfl (o_lssF (F.ev rfl) (F.ev rfl) (by omega) ?_); clear F; clear a; intro a F
  refine stepD rfl F rfl (o_move (F.ev rfl) ?_); clear F; clear a; intro a F
  refine stepG rfl F rfl rfl rfl (o_move (F.ev rfl) ?_); clear F; clear a; intro a F
  refine stepG rfl F rfl rfl rfl (o_gtrF (F.ev rfl) (F.ev rfl) (by omega) ?_); clear F; clear a; intro a F
  refine stepD rfl F rfl (o_pickF (F.ev rfl) (F.ev rfl) ?_); clear F; clear a; intro a F
  refine stepD rfl F rfl (o_move (F.ev rfl) ?_); clear F; clear a; intro a F
  refine stepG rfl F rfl rfl rfl (o_move (F.ev rfl) ?_); clear F; clear a; intro a F
  refine stepG rfl F rfl rfl rfl (o_lssF (F.ev rfl) (F.ev rfl) (by omega) ?_); clear F; clear a; intro a F
  refine stepD rfl F rfl (o_pickF (F.ev rfl) (F.ev rfl) ?_); clear F; clear a; intro a F
  refine stepD rfl F rfl (o_move (F.ev rfl) ?_); clear F; clear a; intro a F
  refine stepG rfl F rfl rfl rfl (o_move (F.ev rfl) ?_); clear F; clear a; intro a F
  refine stepG rfl F rfl rfl rfl (o_move (F.ev rfl) ?_); clear F; clear a; intro a F
  refine stepG rfl F rfl rfl rfl (o_lenSl (F.ev rfl) ?_); clear F; clear a; intro a F
  refine stepG rfl F rfl rfl rfl (o_move (F.ev rfl) ?_); clear F; clear a; intro a F
  refine stepG rfl F rfl rfl rfl (o_sub (F.ev rfl) (F.ev rfl) (w_i64 (by omega) (by omega)) ?_); clear F; clear a; intro a F
  refine stepG rfl F rfl rfl rfl (o_gtrF (F.ev rfl) (F.ev rfl) (by omega) ?_); clear F; clear a; intro a F
  refine stepD rfl F rfl (o_pickF (F.ev rfl) (F.ev rfl) ?_); clear F; clear a; intro a F
  with_reducible refine l_nil ?_
  with_reducible refine q_then ?_
  refine c_false F rfl rfl ?_
  with_reducible refine c_skip ?_
  with_reducible refine q_then ?_
  with_reducible refine c_seq ?_
  with_reducible refine c_region ?_
  refine stepD rfl F rfl (o_assign (F.ev rfl) ?_); clear F; clear a; intro a F
  with_reducible refine l_nil ?_
  with_reducible refine q_then ?_
  with_reducible refine c_seq ?_
  with_reducible refine c_seq ?_
  with_reducible refine c_region ?_
  refine stepD rfl F rfl (o_move (F.ev rfl) ?_); clear F; clear a; intro a F
  refine stepD rfl F rfl (o_move (F.ev rfl) ?_); clear F; clear a; intro a F
  refine stepD rfl F rfl (o_move (F.ev rfl) ?_); clear F; clear a; intro a F
  refine stepD rfl F rfl (o_move (F.ev rfl) ?_); clear F; clear a; intro a F
  refine stepD rfl F rfl (o_add (F.ev rfl) (F.ev rfl) (w_i64 (by omega) (by omega)) ?_); clear F; clear a; intro a F
  (refine stepD rfl F rfl (o_slLH (F.ev rfl) (F.ev rfl) (F.ev rfl) (by omega) (by omega) (by omega) (by omega) ?_); clear F; clear a; intro a F)
  refine stepD rfl F rfl (o_lenSl (F.ev rfl) ?_); clear F; clear a; intro a F
  refine stepD rfl F rfl (o_move (F.ev rfl) ?_); clear F; clear a; intro a F
  with_reducible refine l_nil ?_
  with_reducible refine q_then ?_
  with_reducible refine c_block ?_
  refine c_loop (fun k a w => ∃ i : Nat, k = n - i ∧ i ≤ n ∧ Frm a 47 [] [(36, .int .i64 i), (35, .int .i64 n), (34, .slice (some ⟨b, o + at_, none⟩) n (cap - at_)), (8, .int .u64 (beN (xs.take i)))] ∧ Mem [b] W w [(b, .cells cs.toArray t fz)]) n ⟨0, rfl, by omega, ?_, M⟩ ?_
  · have e1 : (((at_ : Int) + (n : Int)).toNat - (at_ : Int).toNat) = n := by omega
    have e2 : o + (at_ : Int).toNat * 1 = o + at_ := by omega
    have e3 : cap - (at_ : Int).toNat = cap - at_ := by omega
    rw [e1, e2, e3] at F
    exact F.only [36, 35, 34, 8] rfl
  clear F M
  rintro k a w ⟨i, hk, hi, F, M⟩
  by_cases hlt : i < n
  · have e1 := seg_at hs hlt (q := o + at_ + (i : Int).toNat * 1) (by omega)
    have hg := hx (xs.getD i 0) (by rw [List.getD_eq_getElem?_getD, List.getElem?_eq_getElem (by omega)]; exact List.getElem_mem _)
    have hv := beN_bd i (xs.take i) (by rw [List.length_take]; omega) (fun x h => hx x (List.mem_of_mem_take h))
    have hp : 256 ^ i ≤ 72057594037927936 := Nat.le_trans (Nat.pow_le_pow_right (by omega) (show i ≤ 7 by omega)) (by decide)
    with_reducible refine c_seq ?_
    with_reducible refine c_region ?_
    refine stepD rfl F rfl (o_lssT (F.ev rfl) (F.ev rfl) (by omega) ?_); clear F; clear a; intro a F
    with_reducible refine l_nil ?_
    with_reducible refine q_then ?_
    with_reducible refine c_seq ?_
    refine c_true F rfl rfl ?_
    with_reducible refine c_skip ?_
    with_reducible refine q_then ?_
    with_reducible refine c_seq ?_
    with_reducible refine c_block ?_
    with_reducible refine c_seq ?_
    with_reducible refine c_region ?_
    refine stepD rfl F rfl (o_indexSl (F.ev rfl) (F.ev rfl) (by omega) (by omega) ?_); clear F; clear a; intro a F
    refine stepD rfl F rfl (o_load1 M (F.ev rfl) (by repeat (first | exact .here | apply Has.there)) (by first | assumption | rfl) ?_); clear F; clear a; intro a F
    refine stepD rfl F rfl (o_assign (F.ev rfl) ?_); clear F; clear a; intro a F
    with_reducible refine l_nil ?_
    with_reducible refine q_then ?_
    with_reducible refine c_region ?_
    refine stepD rfl F rfl (o_move (F.ev rfl) ?_); clear F; clear a; intro a F
    refine stepD rfl F rfl (o_shl (F.ev rfl) (F.ev rfl) (by omega) rfl ?_); clear F; clear a; intro a F
    refine stepD rfl F rfl (o_move (F.ev rfl) ?_); clear F; clear a; intro a F
    refine stepD rfl F rfl (o_conv (F.ev rfl) (w_u64 (by omega) (by omega)) ?_); clear F; clear a; intro a F
    refine stepD rfl F rfl (o_or (F.ev rfl) (F.ev rfl) rfl ?_); clear F; clear a; intro a F
    refine stepD rfl F rfl (o_assign (F.ev rfl) ?_); clear F; clear a; intro a F
    with_reducible refine l_nil ?_
    with_reducible refine q_inB ?_
    with_reducible refine q_then ?_
    with_reducible refine c_region ?_
    refine stepD rfl F rfl (o_add (F.ev rfl) (F.ev rfl) (w_i64 (by omega) (by omega)) ?_); clear F; clear a; intro a F
    refine stepD rfl F rfl (o_move (F.ev rfl) ?_); clear F; clear a; intro a F
    with_reducible refine l_nil ?_
    with_reducible refine q_then ?_
    rw [shl8u64 hv.1 (by omega) hg.1 hg.2] at F
    skip
    have hsn : xs.take (i + 1) = xs.take i ++ [xs.getD i 0] := by
      rw [List.take_succ_eq_append_getElem (by omega), List.getD_eq_getElem?_getD, List.getElem?_eq_getElem (by omega)]; rfl
    refine ⟨_, by omega, i + 1, rfl, by omega, ?_, M⟩
    rw [hsn, beN_snoc]
    exact F.only [36, 35, 34, 8] rfl
  · obtain rfl : i = n := by omega
    rw [List.take_of_length_le (by omega)] at F
    with_reducible refine c_seq ?_
    with_reducible refine c_region ?_
    refine stepD rfl F rfl (o_lssF (F.ev rfl) (F.ev rfl) (by omega) ?_); clear F; clear a; intro a F
    with_reducible refine l_nil ?_
    with_reducible refine q_then ?_
    with_reducible refine c_seq ?_
    refine c_false F rfl rfl ?_
    with_reducible refine c_exit ?_
    with_reducible refine q_thenX ?_
    with_reducible refine q_thenX ?_
    with_reducible refine q_inBX ?_
    with_reducible refine q_then ?_
    with_reducible refine c_seq ?_
    with_reducible refine c_region ?_
    refine stepD rfl F rfl (o_move (F.ev rfl) ?_); clear F; clear a; intro a F
    refine stepD rfl F rfl (o_assign (F.ev rfl) ?_); clear F; clear a; intro a F
    refine stepD rfl F rfl (o_assign (F.ev rfl) ?_); clear F; clear a; intro a F
    with_reducible refine l_nil ?_
    with_reducible refine q_then ?_
    with_reducible refine c_ret ?_
    refine p_ret F rfl (.cons (.tmp (F.ev rfl)) (.cons (.tmp (F.ev rfl)) .nil)) ?_
    exact ⟨rfl, M.back1 .here hb⟩

/-- the two halves -/
theorem split_c (p : List Int) (hp : IsIP p) (W : World) : Cal Tryd.prog 26 [.agg (ipC p).toArray].toArray W fun v w' => v = .tuple #[.int .u64 (beN (p.take 8)), .int .u64 (beN (p.drop 8))] ∧ Ext [] W w' := by
  have hb : ∀ x ∈ p, 0 ≤ x ∧ x < 256 := hp.bd
  have s1 : seg (ipC p) (0 + 0) 8 = some (ipC (p.take 8)) := by
    have := seg_of [] (ipC (p.take 8)) (ipC (p.drop 8))
    have hl : (ipC (p.take 8)).length = 8 := by simp [ipC, hp.len]
    rw [hl] at this
    simpa [ipC, ← List.map_append] using this
  have s2 : seg (ipC p) (0 + 8) 8 = some (ipC (p.drop 8)) := by
    have := seg_of (ipC (p.take 8)) (ipC (p.drop 8)) []
    have hl : (ipC (p.take 8)).length = 8 := by simp [ipC, hp.len]
    have hl2 : (ipC (p.drop 8)).length = 8 := by simp [ipC, hp.len]
    rw [hl, hl2] at this
    simpa [ipC, ← List.map_append] using this
  refine fn_ofM (n := 20) [] Tryd.func26 rfl rfl rfl ?_
  intro a w F M hwW
  refine c_seq ?_
  refine c_region ?_
  (refine stepD rfl F rfl (o_box M (F.ev rfl) rfl ?_); clear F; clear M; intro b1 w M a F)
  refine stepD rfl F rfl (o_assign (F.ev rfl) ?_); clear F; clear a; intro a F
  refine stepD rfl F rfl (o_assign (F.ev rfl) ?_); clear F; clear a; intro a F
  with_reducible refine l_nil ?_
  with_reducible refine q_then ?_
  with_reducible refine c_seq ?_
  with_reducible refine c_region ?_
  (refine stepD rfl F rfl (o_arrAll (F.ev rfl) ?_); clear F; clear a; intro a F)
  (refine stepD rfl F rfl (o_call (F.ev rfl) (F.evs rfl) (Cal.mono (uint_c (b := b1) (at_ := 0) (n := 8) (p.take 8) _ (M.heap .here) s1 (fun x h => hb x (List.mem_of_mem_take h)) (by omega) (by omega) (by omega) (by omega) (by omega)) ?_)); clear F; clear a; rintro _ w ⟨rfl, hE⟩ a F; replace M := M.later hE; clear hE)
  refine stepD rfl F rfl (o_move (F.ev rfl) ?_); clear F; clear a; intro a F
  refine stepD rfl F rfl (o_extract (F.ev rfl) rfl ?_); clear F; clear a; intro a F
  refine stepD rfl F rfl (o_extract (F.ev rfl) rfl ?_); clear F; clear a; intro a F
  refine stepD rfl F rfl (o_assign (F.ev rfl) ?_); clear F; clear a; intro a F
  refine stepD rfl F rfl (o_assign (F.ev rfl) ?_); clear F; clear a; intro a F
  with_reducible refine l_nil ?_
  with_reducible refine q_then ?_
  with_reducible refine c_seq ?_
  with_reducible refine c_region ?_
  (refine stepD rfl F rfl (o_arrAll (F.ev rfl) ?_); clear F; clear a; intro a F)
  (refine stepD rfl F rfl (o_call (F.ev rfl) (F.evs rfl) (Cal.mono (uint_c (b := b1) (at_ := 8) (n := 8) (p.drop 8) _ (M.heap .here) s2 (fun x h => hb x (List.mem_of_mem_drop h)) (by omega) (by omega) (by omega) (by omega) (by omega)) ?_)); clear F; clear a; rintro _ w ⟨rfl, hE⟩ a F; replace M := M.later hE; clear hE)
  refine stepD rfl F rfl (o_move (F.ev rfl) ?_); clear F; clear a; intro a F
  refine stepD rfl F rfl (o_extract (F.ev rfl) rfl ?_); clear F; clear a; intro a F
  refine stepD rfl F rfl (o_extract (F.ev rfl) rfl ?_); clear F; clear a; intro a F
  refine stepD rfl F rfl (o_assign (F.ev rfl) ?_); clear F; clear a; intro a F
  refine stepD rfl F rfl (o_assign (F.ev rfl) ?_); clear F; clear a; intro a F
  with_reducible refine l_nil ?_
  with_reducible refine q_then ?_
  with_reducible refine c_seq ?_
  with_reducible refine c_region ?_
  refine stepD rfl F rfl (o_move (F.ev rfl) ?_); clear F; clear a; intro a F
  refine stepD rfl F rfl (o_move (F.ev rfl) ?_); clear F; clear a; intro a F
  refine stepD rfl F rfl (o_assign (F.ev rfl) ?_); clear F; clear a; intro a F
  refine stepD rfl F rfl (o_assign (F.ev rfl) ?_); clear F; clear a; intro a F
  with_reducible refine l_nil ?_
  with_reducible refine q_then ?_
  with_reducible refine c_ret ?_
  refine p_ret F rfl (.cons (.tmp (F.ev rfl)) (.cons (.tmp (F.ev rfl)) .nil)) ?_
  exact ⟨rfl, M.ext⟩
end Go.Proofs.YtadnpidadcgdcaaDoor

/-! A3 -/
/-
  octets.Append onto nothing, address.Join, LinkLocal.
-/
namespace Go.Proofs.YtadnpidadcgdcaaDoor
set_option linter.unusedVariables false
set_option linter.unusedSimpArgs false
open Go.RowKit
attribute [local irreducible] OpTo wpListIn Code.wpIn MW Cal

/-- byte i of the 8 bytes of a number -/
def beAt (v : Int) (i : Nat) : Int := IntKind.u8.wrap (Int.fdiv v (2 ^ min (8 * (8 - 1 - (i : Int))).toNat 64))
def beB (v : Int) : List Int := (List.range 8).map (beAt v)
def brow (v : Int) (i : Nat) : List Value := (List.range 8).map fun j => if j < i then .int .u8 (beAt v j) else .int .u8 0
theorem brow_all (v : Int) : brow v 8 = ipC (beB v) := by
  unfold brow beB ipC
  rw [List.map_map]
  refine List.map_congr_left fun j hj => ?_
  simp [List.mem_range.1 hj]
theorem put_brow {v : Int} {i : Nat} (h : i < 8) {q : Nat} (hq : q = i) : put (brow v i) q [.int .u8 (beAt v i)] = some (brow v (i + 1)) := by
  rw [put1 (q := i) _ hq (by simp [brow]; omega)]
  congr 1
  unfold brow
  apply List.ext_getElem (by simp)
  intro j h1 h2
  simp only [List.getElem_set, List.getElem_map, List.getElem_range]
  split
  · subst_vars; simp
  · have : j < i ↔ j < i + 1 := by omega
    simp [this]

set_option maxHeartbeats 400000 in
theorem append8_c (v : Int) (h0 : 0 ≤ v) (W : World) : Cal Tryd.prog 72 [.slice none 0 0, .int .u64 v, .int .i64 8].toArray W fun x w' => ∃ b, x = .slice (some ⟨b, 0, none⟩) 8 8 ∧ Mem [] W w' [(b, .cells (ipC (beB v)).toArray 5 (0, 0))] := by
  refine fn_ofM (n := 43) [] Tryd.func72 rfl rfl rfl ?_
  intro a w F M hwW
  with_reducible refine c_seq ?_
  with_reducible refine c_region ?_
  refine stepD rfl F rfl (o_assign (F.ev rfl) ?_); clear F; clear a; intro a F
  with_reducible refine l_nil ?_
  with_reducible refine q_then ?_
  with_reducible refine c_seq ?_
  with_reducible refine c_seq ?_
  with_reducible refine c_region ?_
  refine stepD rfl F rfl (o_move (F.ev rfl) ?_); clear F; clear a; intro a F
  refine stepD rfl F rfl (o_lssF (F.ev rfl) (F.ev rfl) (by omega) ?_); clear F; clear a; intro a F
  refine stepD rfl F rfl (o_move (F.ev rfl) ?_); clear F; clear a; intro a F
  refine stepG rfl F rfl rfl rfl (o_move (F.ev rfl) ?_); clear F; clear a; intro a F
  refine stepG rfl F rfl rfl rfl (o_gtrF (F.ev rfl) (F.ev rfl) (by omega) ?_); clear F; clear a; intro a F
  refine stepD rfl F rfl (o_pickF (F.ev rfl) (F.ev rfl) ?_); clear F; clear a; intro a F
  with_reducible refine l_nil ?_
  with_reducible refine q_then ?_
  refine c_false F rfl rfl ?_
  with_reducible refine c_skip ?_
  with_reducible refine q_then ?_
  with_reducible refine c_seq ?_
  with_reducible refine c_region ?_
  refine stepD rfl F rfl (o_move (F.ev rfl) ?_); clear F; clear a; intro a F
  refine stepD rfl F rfl (o_lenSl (F.ev rfl) ?_); clear F; clear a; intro a F
  refine stepD rfl F rfl (o_move (F.ev rfl) ?_); clear F; clear a; intro a F
  refine stepD rfl F rfl (o_add (F.ev rfl) (F.ev rfl) (w_i64 (by omega) (by omega)) ?_); clear F; clear a; intro a F
  (refine stepD rfl F rfl (o_make1 M (F.ev rfl) (F.ev rfl) (by omega) (by omega) (by omega) ?_); clear F; clear M; intro b w M a F)
  refine stepD rfl F rfl (o_assign (F.ev rfl) ?_); clear F; clear a; intro a F
  with_reducible refine l_nil ?_
  with_reducible refine q_then ?_
  with_reducible refine c_seq ?_
  with_reducible refine c_region ?_
  refine stepD rfl F rfl (o_move (F.ev rfl) ?_); clear F; clear a; intro a F
  refine stepD rfl F rfl (o_move (F.ev rfl) ?_); clear F; clear a; intro a F
  (refine stepD rfl F rfl (o_copyNil (F.ev rfl) (F.ev rfl) ?_); clear F; clear a; intro a F)
  with_reducible refine l_nil ?_
  with_reducible refine q_then ?_
  with_reducible refine c_seq ?_
  with_reducible refine c_seq ?_
  with_reducible refine c_region ?_
  refine stepD rfl F rfl (o_move (F.ev rfl) ?_); clear F; clear a; intro a F
  refine stepD rfl F rfl (o_move (F.ev rfl) ?_); clear F; clear a; intro a F
  with_reducible refine l_nil ?_
  with_reducible refine q_then ?_
  with_reducible refine c_block ?_
  refine c_loop (fun k a w => ∃ i : Nat, k = 8 - i ∧ i ≤ 8 ∧ Frm a 43 [] [(24, .int .i64 i), (23, .int .i64 8), (7, .slice (some ⟨b, 0, none⟩) 8 8), (0, .slice none 0 0), (1, .int .u64 v), (2, .int .i64 8)] ∧ Mem [] W w [(b, .cells (brow v i).toArray 5 (0, 0))]) 8 ⟨0, rfl, by omega, F.only [24, 23, 7, 0, 1, 2] rfl, M⟩ ?_
  clear F M
  rintro k a w ⟨i, hk, hi, F, M⟩
  by_cases hlt : i < 8
  · with_reducible refine c_seq ?_
    with_reducible refine c_region ?_
    refine stepD rfl F rfl (o_lssT (F.ev rfl) (F.ev rfl) (by omega) ?_); clear F; clear a; intro a F
    with_reducible refine l_nil ?_
    with_reducible refine q_then ?_
    with_reducible refine c_seq ?_
    refine c_true F rfl rfl ?_
    with_reducible refine c_skip ?_
    with_reducible refine q_then ?_
    with_reducible refine c_seq ?_
    with_reducible refine c_block ?_
    with_reducible refine c_seq ?_
    with_reducible refine c_region ?_
    refine stepD rfl F rfl (o_move (F.ev rfl) ?_); clear F; clear a; intro a F
    refine stepD rfl F rfl (o_assign (F.ev rfl) ?_); clear F; clear a; intro a F
    with_reducible refine l_nil ?_
    with_reducible refine q_then ?_
    with_reducible refine c_region ?_
    refine stepD rfl F rfl (o_move (F.ev rfl) ?_); clear F; clear a; intro a F
    refine stepD rfl F rfl (o_move (F.ev rfl) ?_); clear F; clear a; intro a F
    refine stepD rfl F rfl (o_lenSl (F.ev rfl) ?_); clear F; clear a; intro a F
    refine stepD rfl F rfl (o_move (F.ev rfl) ?_); clear F; clear a; intro a F
    refine stepD rfl F rfl (o_add (F.ev rfl) (F.ev rfl) (w_i64 (by omega) (by omega)) ?_); clear F; clear a; intro a F
    refine stepD rfl F rfl (o_move (F.ev rfl) ?_); clear F; clear a; intro a F
    refine stepD rfl F rfl (o_move (F.ev rfl) ?_); clear F; clear a; intro a F
    refine stepD rfl F rfl (o_sub (F.ev rfl) (F.ev rfl) (w_i64 (by omega) (by omega)) ?_); clear F; clear a; intro a F
    refine stepD rfl F rfl (o_move (F.ev rfl) ?_); clear F; clear a; intro a F
    refine stepD rfl F rfl (o_sub (F.ev rfl) (F.ev rfl) (w_i64 (by omega) (by omega)) ?_); clear F; clear a; intro a F
    refine stepD rfl F rfl (o_mul (F.ev rfl) (F.ev rfl) (w_i64 (by omega) (by omega)) ?_); clear F; clear a; intro a F
    refine stepD rfl F rfl (o_shr (F.ev rfl) (F.ev rfl) (by omega) rfl ?_); clear F; clear a; intro a F
    refine stepD rfl F rfl (o_conv (F.ev rfl) rfl ?_); clear F; clear a; intro a F
    refine stepD rfl F rfl (o_indexSl (F.ev rfl) (F.ev rfl) (by omega) (by omega) ?_); clear F; clear a; intro a F
    (refine stepN rfl F (o_store1 M (F.ev rfl) (F.ev rfl) rfl (by repeat (first | exact .here | apply Has.there)) (put_brow hlt (by omega)) (by repeat (first | exact .here | apply Upd.there)) ?_); clear F; clear M; intro w M a F)
    with_reducible refine l_nil ?_
    with_reducible refine q_inB ?_
    with_reducible refine q_then ?_
    with_reducible refine c_region ?_
    refine stepD rfl F rfl (o_add (F.ev rfl) (F.ev rfl) (w_i64 (by omega) (by omega)) ?_); clear F; clear a; intro a F
    refine stepD rfl F rfl (o_move (F.ev rfl) ?_); clear F; clear a; intro a F
    with_reducible refine l_nil ?_
    with_reducible refine q_then ?_
    exact ⟨_, by omega, i + 1, rfl, by omega, F.only [24, 23, 7, 0, 1, 2] rfl, M⟩
  · obtain rfl : i = 8 := by omega
    rw [brow_all] at M
    with_reducible refine c_seq ?_
    with_reducible refine c_region ?_
    refine stepD rfl F rfl (o_lssF (F.ev rfl) (F.ev rfl) (by omega) ?_); clear F; clear a; intro a F
    with_reducible refine l_nil ?_
    with_reducible refine q_then ?_
    with_reducible refine c_seq ?_
    refine c_false F rfl rfl ?_
    with_reducible refine c_exit ?_
    with_reducible refine q_thenX ?_
    with_reducible refine q_thenX ?_
    with_reducible refine q_inBX ?_
    with_reducible refine q_then ?_
    with_reducible refine c_seq ?_
    with_reducible refine c_region ?_
    refine stepD rfl F rfl (o_move (F.ev rfl) ?_); clear F; clear a; intro a F
    refine stepD rfl F rfl (o_assign (F.ev rfl) ?_); clear F; clear a; intro a F
    with_reducible refine l_nil ?_
    with_reducible refine q_then ?_
    with_reducible refine c_ret ?_
    refine p_ret F rfl (.cons (.tmp (F.ev rfl)) .nil) ?_
    exact ⟨b, rfl, M⟩
end Go.Proofs.YtadnpidadcgdcaaDoor

/-! A4 -/
/-
  address.Join, LinkLocal.
-/
namespace Go.Proofs.YtadnpidadcgdcaaDoor
set_option linter.unusedVariables false
set_option linter.unusedSimpArgs false
open Go.RowKit
attribute [local irreducible] OpTo wpListIn Code.wpIn MW Cal

def joinI (p : List Int) (v : Int) : List Int := p.take 8 ++ beB v
def zeroIP : List Int := [0, 0, 0, 0, 0, 0, 0, 0, 0, 0, 0, 0, 0, 0, 0, 0]
def joinP (p : List Int) (n v : Int) : Option (List Int) := if validP p n && decide (n ≤ 64) then some (joinI p v) else none
def optIP (x : Option (List Int)) : Value := .tuple #[.agg (ipC (x.getD zeroIP)).toArray, .bool x.isSome]
theorem beB_len (v : Int) : (beB v).length = 8 := by simp [beB]

set_option maxHeartbeats 1000000 in
theorem join_c (p : List Int) (hp : p.length = 16) (n v : Int) (hv : 0 ≤ v) (W : World) : Cal Tryd.prog 29 [.agg (pfC p n).toArray, .int .u64 v].toArray W fun x w' => x = optIP (joinP p n v) ∧ Ext [] W w' := by
  have e1 := seg_pf hp n
  have e2 := seg_pf0 hp n
  have e3 := nth_pf hp n
  have s2 : seg (ipC (beB v)) 0 (8 * 1) = some (ipC (beB v)) := seg_all (by simp [ipC, beB_len])
  have hput : put (ipC p) (0 + (8 : Int).toNat * 1) (ipC (beB v)) = some (ipC (joinI p v)) := by
    rw [put_of _ _ _ (by simp [ipC, beB_len, hp])]
    have hl : (ipC (beB v)).length = 8 := by simp [ipC, beB_len]
    simp only [splice, hl]
    rw [List.drop_eq_nil_of_le (by simp [ipC, hp])]
    simp [ipC, joinI]
  have s3 : seg (ipC (joinI p v)) 0 16 = some (ipC (joinI p v)) := seg_all (by simp [ipC, joinI, beB_len, hp])
  have hl3 : (ipC (joinI p v)).length = 16 := by simp [ipC, joinI, beB_len, hp]
  cases hvp : validP p n
  · refine fn_ofM (n := 23) [] Tryd.func29 rfl rfl rfl ?_
    intro a w F M hwW
    refine c_seq ?_
    refine c_region ?_
    (refine stepD rfl F rfl (o_box M (F.ev rfl) rfl ?_); clear F; clear M; intro b2 w M a F)
    (refine stepD rfl F rfl (o_alloc M ?_); clear F; clear M; intro b4 w M a F)
    refine stepD rfl F rfl (o_assign (F.ev rfl) ?_); clear F; clear a; intro a F
    with_reducible refine l_nil ?_
    with_reducible refine q_then ?_
    with_reducible refine c_seq ?_
    with_reducible refine c_seq ?_
    with_reducible refine c_region ?_
    refine stepD rfl F rfl (o_loadA M (F.ev rfl) (by repeat (first | exact .here | apply Has.there)) (by first | assumption | rfl) ?_); clear F; clear a; intro a F
    (refine stepD rfl F rfl (o_call (F.ev rfl) (F.evs rfl) (Cal.mono (Cal.to (validPrefix_c p n hp _) (by rw [hvp])) ?_)); clear F; clear a; rintro _ w ⟨rfl, hE⟩ a F; replace M := M.later hE; clear hE)
    refine stepD rfl F rfl (o_not (F.ev rfl) ?_); clear F; clear a; intro a F
    refine stepD rfl F rfl (o_move (F.ev rfl) ?_); clear F; clear a; intro a F
    refine stepOff F rfl rfl rfl rfl ?_; clear F; clear a; intro a F
    refine stepOff F rfl rfl rfl rfl ?_; clear F; clear a; intro a F
    refine stepOff F rfl rfl rfl rfl ?_; clear F; clear a; intro a F
    refine stepD rfl F rfl (o_pickT (F.ev rfl) (F.ev rfl) ?_); clear F; clear a; intro a F
    with_reducible refine l_nil ?_
    with_reducible refine q_then ?_
    refine c_true F rfl rfl ?_
    with_reducible refine c_seq ?_
    with_reducible refine c_region ?_
    refine stepD rfl F rfl (o_build F rfl rfl ?_); clear F; clear a; intro a F
    (refine stepN rfl F (o_storeA M (F.ev rfl) (F.ev rfl) (by rfl) (by rfl) (by repeat (first | exact .here | apply Has.there)) (by rfl) (by repeat (first | exact .here | apply Upd.there)) ?_); clear F; clear M; intro w M a F)
    refine stepD rfl F rfl (o_assign (F.ev rfl) ?_); clear F; clear a; intro a F
    with_reducible refine l_nil ?_
    with_reducible refine q_then ?_
    with_reducible refine c_ret ?_
    with_reducible refine q_thenR ?_
    refine p_ret F rfl (.cons (.cell (F.ev rfl) (run_loadVar_agg TAgg.h (M.heap (by repeat (first | exact .here | apply Has.there))) rfl)) (.cons (.tmp (F.ev rfl)) .nil)) ⟨by simp [joinP, hvp, optIP, oneOr, zeroIP, ipC], M.ext⟩
  · by_cases h64 : n ≤ 64
    · refine fn_ofM (n := 23) [] Tryd.func29 rfl rfl rfl ?_
      intro a w F M hwW
      refine c_seq ?_
      refine c_region ?_
      (refine stepD rfl F rfl (o_box M (F.ev rfl) rfl ?_); clear F; clear M; intro b2 w M a F)
      (refine stepD rfl F rfl (o_alloc M ?_); clear F; clear M; intro b4 w M a F)
      refine stepD rfl F rfl (o_assign (F.ev rfl) ?_); clear F; clear a; intro a F
      with_reducible refine l_nil ?_
      with_reducible refine q_then ?_
      with_reducible refine c_seq ?_
      with_reducible refine c_seq ?_
      with_reducible refine c_region ?_
      refine stepD rfl F rfl (o_loadA M (F.ev rfl) (by repeat (first | exact .here | apply Has.there)) (by first | assumption | rfl) ?_); clear F; clear a; intro a F
      (refine stepD rfl F rfl (o_call (F.ev rfl) (F.evs rfl) (Cal.mono (Cal.to (validPrefix_c p n hp _) (by rw [hvp])) ?_)); clear F; clear a; rintro _ w ⟨rfl, hE⟩ a F; replace M := M.later hE; clear hE)
      refine stepD rfl F rfl (o_not (F.ev rfl) ?_); clear F; clear a; intro a F
      refine stepD rfl F rfl (o_move (F.ev rfl) ?_); clear F; clear a; intro a F
      refine stepG rfl F rfl rfl rfl (o_fieldAddr (F.ev rfl) ?_); clear F; clear a; intro a F
      refine stepG rfl F rfl rfl rfl (o_load1 M (F.ev rfl) (by repeat (first | exact .here | apply Has.there)) (by first | assumption | rfl) ?_); clear F; clear a; intro a F
      refine stepG rfl F rfl rfl rfl (o_gtrF (F.ev rfl) (F.ev rfl) (by omega) ?_); clear F; clear a; intro a F
      refine stepD rfl F rfl (o_pickF (F.ev rfl) (F.ev rfl) ?_); clear F; clear a; intro a F
      with_reducible refine l_nil ?_
      with_reducible refine q_then ?_
      refine c_false F rfl rfl ?_
      with_reducible refine c_skip ?_
      with_reducible refine q_then ?_
      with_reducible refine c_seq ?_
      with_reducible refine c_region ?_
      refine stepD rfl F rfl (o_fieldAddr (F.ev rfl) ?_); clear F; clear a; intro a F
      refine stepD rfl F rfl (o_loadA M (F.ev rfl) (by repeat (first | exact .here | apply Has.there)) (by first | assumption | rfl) ?_); clear F; clear a; intro a F
      (refine stepD rfl F rfl (o_alloc M ?_); clear F; clear M; intro b6 w M a F)
      (refine stepN rfl F (o_storeA M (F.ev rfl) (F.ev rfl) (ipC_len hp) (one_ip _)  (by repeat (first | exact .here | apply Has.there))  (put_all (by rw [ipC_len hp]; rfl)) (by repeat (first | exact .here | apply Upd.there)) ?_); clear F; clear M; intro w M a F)
      with_reducible refine l_nil ?_
      with_reducible refine q_then ?_
      with_reducible refine c_seq ?_
      replace F := F.only [6, 1, 4] rfl
      refine c_draw 3 F (by kernel_rfl) ?_
      intro w1 hE hok
      have M1 := M.later hE
      (refine mK hok rfl rfl (fun a' w' F' E' => o_arrL (F'.ev rfl) (F'.ev rfl) (by omega) (by omega) ⟨Ext.refl _ _, rfl⟩) ?_)
      refine mK hok rfl rfl (fun a' w' F' E' => o_move (F'.ev rfl) ⟨Ext.refl _ _, rfl⟩) ?_
      refine mX hok rfl rfl (NewS.stays _ _ _ _) (fun a' w' F' E' D' => o_call (F'.ev rfl) (F'.evs rfl) (Cal.mono (append8_c v hv _) fun _ _ hh => newS_of E' hh)) ?_
      (refine mDone rfl rfl ?_; clear F; clear M; intro a w F hE2 hX hTT hDD hPP; have M := M1.later hE2; (try dsimp only at F); obtain ⟨b20, e_1, g_1, q_1⟩ := hX 2 _ rfl; replace F := F.know (d := 20) e_1; replace M := Mem.al (pre := []) M M1 q_1 g_1 (by intro p hp; cases hp); clear M1; clear hX; clear hE2; clear hok; clear hE; clear hTT; clear hDD; clear hPP; clear e_1; clear g_1; clear q_1; (try simp only [List.nil_append] at M))
      (refine stepD rfl F rfl (o_copy (n := 8) M (F.ev rfl) (F.ev rfl) rfl (by repeat (first | exact .here | apply Has.there)) s2 (one_ip _) (by repeat (first | exact .here | apply Has.there)) hput (by repeat (first | exact .here | apply Upd.there)) ?_); clear F; clear M; intro w M a F)
      with_reducible refine l_nil ?_
      with_reducible refine q_then ?_
      with_reducible refine c_seq ?_
      with_reducible refine c_region ?_
      refine stepD rfl F rfl (o_loadA M (F.ev rfl) (by repeat (first | exact .here | apply Has.there)) (by first | assumption | rfl) ?_); clear F; clear a; intro a F
      (refine stepN rfl F (o_storeA M (F.ev rfl) (F.ev rfl) hl3 (one_ip _)  (by repeat (first | exact .here | apply Has.there))  (put_all (by rw [hl3]; rfl)) (by repeat (first | exact .here | apply Upd.there)) ?_); clear F; clear M; intro w M a F)
      refine stepD rfl F rfl (o_assign (F.ev rfl) ?_); clear F; clear a; intro a F
      with_reducible refine l_nil ?_
      with_reducible refine q_then ?_
      with_reducible refine c_ret ?_
      refine p_ret F rfl (.cons (.cell (F.ev rfl) (run_loadVar_agg TAgg.h (M.heap (by repeat (first | exact .here | apply Has.there))) s3)) (.cons (.tmp (F.ev rfl)) .nil)) ⟨by simp [joinP, hvp, h64, optIP, oneOr], M.ext⟩
    · refine fn_ofM (n := 23) [] Tryd.func29 rfl rfl rfl ?_
      intro a w F M hwW
      refine c_seq ?_
      refine c_region ?_
      (refine stepD rfl F rfl (o_box M (F.ev rfl) rfl ?_); clear F; clear M; intro b2 w M a F)
      (refine stepD rfl F rfl (o_alloc M ?_); clear F; clear M; intro b4 w M a F)
      refine stepD rfl F rfl (o_assign (F.ev rfl) ?_); clear F; clear a; intro a F
      with_reducible refine l_nil ?_
      with_reducible refine q_then ?_
      with_reducible refine c_seq ?_
      with_reducible refine c_seq ?_
      with_reducible refine c_region ?_
      refine stepD rfl F rfl (o_loadA M (F.ev rfl) (by repeat (first | exact .here | apply Has.there)) (by first | assumption | rfl) ?_); clear F; clear a; intro a F
      (refine stepD rfl F rfl (o_call (F.ev rfl) (F.evs rfl) (Cal.mono (Cal.to (validPrefix_c p n hp _) (by rw [hvp])) ?_)); clear F; clear a; rintro _ w ⟨rfl, hE⟩ a F; replace M := M.later hE; clear hE)
      refine stepD rfl F rfl (o_not (F.ev rfl) ?_); clear F; clear a; intro a F
      refine stepD rfl F rfl (o_move (F.ev rfl) ?_); clear F; clear a; intro a F
      refine stepG rfl F rfl rfl rfl (o_fieldAddr (F.ev rfl) ?_); clear F; clear a; intro a F
      refine stepG rfl F rfl rfl rfl (o_load1 M (F.ev rfl) (by repeat (first | exact .here | apply Has.there)) (by first | assumption | rfl) ?_); clear F; clear a; intro a F
      refine stepG rfl F rfl rfl rfl (o_gtrT (F.ev rfl) (F.ev rfl) (by omega) ?_); clear F; clear a; intro a F
      refine stepD rfl F rfl (o_pickF (F.ev rfl) (F.ev rfl) ?_); clear F; clear a; intro a F
      with_reducible refine l_nil ?_
      with_reducible refine q_then ?_
      refine c_true F rfl rfl ?_
      with_reducible refine c_seq ?_
      with_reducible refine c_region ?_
      refine stepD rfl F rfl (o_build F rfl rfl ?_); clear F; clear a; intro a F
      (refine stepN rfl F (o_storeA M (F.ev rfl) (F.ev rfl) (by rfl) (by rfl) (by repeat (first | exact .here | apply Has.there)) (by rfl) (by repeat (first | exact .here | apply Upd.there)) ?_); clear F; clear M; intro w M a F)
      refine stepD rfl F rfl (o_assign (F.ev rfl) ?_); clear F; clear a; intro a F
      with_reducible refine l_nil ?_
      with_reducible refine q_then ?_
      with_reducible refine c_ret ?_
      with_reducible refine q_thenR ?_
      refine p_ret F rfl (.cons (.cell (F.ev rfl) (run_loadVar_agg TAgg.h (M.heap (by repeat (first | exact .here | apply Has.there))) rfl)) (.cons (.tmp (F.ev rfl)) .nil)) ⟨by simp [joinP, hvp, h64, optIP, oneOr, zeroIP, ipC], M.ext⟩
end Go.Proofs.YtadnpidadcgdcaaDoor

/-! A5 -/
/-
  address.LinkLocal; AddressIdentifies.
-/
namespace Go.Proofs.YtadnpidadcgdcaaDoor
set_option linter.unusedVariables false
set_option linter.unusedSimpArgs false
open Go.RowKit
attribute [local irreducible] OpTo wpListIn Code.wpIn MW Cal

def localIP : List Int := [254, 128, 0, 0, 0, 0, 0, 0, 0, 0, 0, 0, 0, 0, 0, 0]
theorem local_valid : validP localIP 64 = true := by kernel_rfl
def linkL (m s e : Int) : Option (List Int) := (iidA m s e).map (joinI localIP)
theorem iid_bd {m s e v : Int} (hs0 : 0 ≤ s) (hs1 : s ≤ 65535) (he0 : 0 ≤ e) (he1 : e ≤ 18446744073709551615) (h : iidA m s e = some v) : 0 ≤ v ∧ v ≤ 18446744073709551615 := by
  unfold iidA at h
  split at h
  · split at h
    · simp at h; omega
    · split at h
      · simp only [Option.some.injEq] at h
        obtain ⟨n, rfl⟩ := Int.eq_ofNat_of_zero_le he0
        have e1 : bitsOf .xor .u64 (n : Int) 144115188075855872 = ((n ^^^ 144115188075855872 : Nat) : Int) := bits_xor (k := .u64) rfl (m := n) (n := 144115188075855872) (show n < 18446744073709551616 by omega) (show 144115188075855872 < 18446744073709551616 by decide)
        have e2 : n ^^^ 144115188075855872 < 2 ^ 64 := Nat.xor_lt_two_pow (show n < 2 ^ 64 by omega) (by decide)
        rw [e1] at h
        omega
      · cases h
  · cases h

set_option maxHeartbeats 400000 in
theorem linkLocal_c (m s e : Int) (hs0 : 0 ≤ s) (hs1 : s ≤ 65535) (he0 : 0 ≤ e) (he1 : e ≤ 18446744073709551615) (W : World) : Cal Tryd.prog 40 [.agg (adC m s e).toArray].toArray W fun x w' => x = optIP (linkL m s e) ∧ Ext [] W w' := by
  have hb : @Eq (List Value) (adC m s e) [.int .i64 m, .int .u16 s, .int .u64 e] := rfl
  cases hi : iidA m s e with
  | none =>
    refine fn_ofM (n := 20) [] Tryd.func40 rfl rfl rfl ?_
    intro a w F M hwW
    refine c_seq ?_
    refine c_region ?_
    (refine stepD rfl F rfl (o_box M (F.ev rfl) rfl ?_); clear F; clear M; intro b1 w M a F)
    (refine stepD rfl F rfl (o_alloc M ?_); clear F; clear M; intro b2 w M a F)
    refine stepD rfl F rfl (o_assign (F.ev rfl) ?_); clear F; clear a; intro a F
    with_reducible refine l_nil ?_
    with_reducible refine q_then ?_
    with_reducible refine c_seq ?_
    with_reducible refine c_region ?_
    refine stepD rfl F rfl (o_loadA M (F.ev rfl) (by repeat (first | exact .here | apply Has.there)) (by first | assumption | rfl) ?_); clear F; clear a; intro a F
    (refine stepD rfl F rfl (o_call (F.ev rfl) (F.evs rfl) (Cal.mono (Cal.to (iid_c m s e hs0 hs1 _) (by rw [hi])) ?_)); clear F; clear a; rintro _ w ⟨rfl, hE⟩ a F; replace M := M.later hE; clear hE)
    refine stepD rfl F rfl (o_move (F.ev rfl) ?_); clear F; clear a; intro a F
    refine stepD rfl F rfl (o_extract (F.ev rfl) rfl ?_); clear F; clear a; intro a F
    refine stepD rfl F rfl (o_extract (F.ev rfl) rfl ?_); clear F; clear a; intro a F
    refine stepD rfl F rfl (o_assign (F.ev rfl) ?_); clear F; clear a; intro a F
    refine stepD rfl F rfl (o_assign (F.ev rfl) ?_); clear F; clear a; intro a F
    with_reducible refine l_nil ?_
    with_reducible refine q_then ?_
    with_reducible refine c_seq ?_
    with_reducible refine c_seq ?_
    with_reducible refine c_region ?_
    refine stepD rfl F rfl (o_move (F.ev rfl) ?_); clear F; clear a; intro a F
    refine stepD rfl F rfl (o_not (F.ev rfl) ?_); clear F; clear a; intro a F
    with_reducible refine l_nil ?_
    with_reducible refine q_then ?_
    refine c_true F rfl rfl ?_
    with_reducible refine c_seq ?_
    with_reducible refine c_region ?_
    refine stepD rfl F rfl (o_build F rfl rfl ?_); clear F; clear a; intro a F
    (refine stepN rfl F (o_storeA M (F.ev rfl) (F.ev rfl) (by rfl) (by rfl) (by repeat (first | exact .here | apply Has.there)) (by rfl) (by repeat (first | exact .here | apply Upd.there)) ?_); clear F; clear M; intro w M a F)
    refine stepD rfl F rfl (o_assign (F.ev rfl) ?_); clear F; clear a; intro a F
    with_reducible refine l_nil ?_
    with_reducible refine q_then ?_
    with_reducible refine c_ret ?_
    with_reducible refine q_thenR ?_
    refine p_ret F rfl (.cons (.cell (F.ev rfl) (run_loadVar_agg TAgg.h (M.heap (by repeat (first | exact .here | apply Has.there))) rfl)) (.cons (.tmp (F.ev rfl)) .nil)) ⟨by simp [linkL, hi, optIP, oneOr, zeroIP, ipC], M.ext⟩
  | some v =>
    have hv := iid_bd hs0 hs1 he0 he1 hi
    have hl3 : (ipC (joinI localIP v)).length = 16 := by simp [ipC, joinI, beB_len, localIP]
    have s3 : seg (ipC (joinI localIP v)) 0 16 = some (ipC (joinI localIP v)) := seg_all hl3
    refine fn_ofM (n := 20) [] Tryd.func40 rfl rfl rfl ?_
    intro a w F M hwW
    refine c_seq ?_
    refine c_region ?_
    (refine stepD rfl F rfl (o_box M (F.ev rfl) rfl ?_); clear F; clear M; intro b1 w M a F)
    (refine stepD rfl F rfl (o_alloc M ?_); clear F; clear M; intro b2 w M a F)
    refine stepD rfl F rfl (o_assign (F.ev rfl) ?_); clear F; clear a; intro a F
    with_reducible refine l_nil ?_
    with_reducible refine q_then ?_
    with_reducible refine c_seq ?_
    with_reducible refine c_region ?_
    refine stepD rfl F rfl (o_loadA M (F.ev rfl) (by repeat (first | exact .here | apply Has.there)) (by first | assumption | rfl) ?_); clear F; clear a; intro a F
    (refine stepD rfl F rfl (o_call (F.ev rfl) (F.evs rfl) (Cal.mono (Cal.to (iid_c m s e hs0 hs1 _) (by rw [hi])) ?_)); clear F; clear a; rintro _ w ⟨rfl, hE⟩ a F; replace M := M.later hE; clear hE)
    refine stepD rfl F rfl (o_move (F.ev rfl) ?_); clear F; clear a; intro a F
    refine stepD rfl F rfl (o_extract (F.ev rfl) rfl ?_); clear F; clear a; intro a F
    refine stepD rfl F rfl (o_extract (F.ev rfl) rfl ?_); clear F; clear a; intro a F
    refine stepD rfl F rfl (o_assign (F.ev rfl) ?_); clear F; clear a; intro a F
    refine stepD rfl F rfl (o_assign (F.ev rfl) ?_); clear F; clear a; intro a F
    with_reducible refine l_nil ?_
    with_reducible refine q_then ?_
    with_reducible refine c_seq ?_
    with_reducible refine c_seq ?_
    with_reducible refine c_region ?_
    refine stepD rfl F rfl (o_move (F.ev rfl) ?_); clear F; clear a; intro a F
    refine stepD rfl F rfl (o_not (F.ev rfl) ?_); clear F; clear a; intro a F
    with_reducible refine l_nil ?_
    with_reducible refine q_then ?_
    refine c_false F rfl rfl ?_
    with_reducible refine c_skip ?_
    with_reducible refine q_then ?_
    with_reducible refine c_seq ?_
    with_reducible refine c_region ?_
    refine stepD rfl F rfl (o_build F rfl rfl ?_); clear F; clear a; intro a F
    refine stepD rfl F rfl (o_build F rfl rfl ?_); clear F; clear a; intro a F
    refine stepD rfl F rfl (o_move (F.ev rfl) ?_); clear F; clear a; intro a F
    (refine stepD rfl F rfl (o_call (F.ev rfl) (F.evs rfl) (Cal.mono (Cal.to (join_c localIP rfl 64 v hv.1 _) (show _ = Value.tuple #[.agg (ipC (joinI localIP v)).toArray, .bool true] by simp [joinP, local_valid, optIP])) ?_)); clear F; clear a; rintro _ w ⟨rfl, hE⟩ a F; replace M := M.later hE; clear hE)
    refine stepD rfl F rfl (o_extract (F.ev rfl) rfl ?_); clear F; clear a; intro a F
    refine stepD rfl F rfl (o_extract (F.ev rfl) rfl ?_); clear F; clear a; intro a F
    (refine stepN rfl F (o_storeA M (F.ev rfl) (F.ev rfl) hl3 (one_ip _)  (by repeat (first | exact .here | apply Has.there))  (put_all (by rw [hl3]; rfl)) (by repeat (first | exact .here | apply Upd.there)) ?_); clear F; clear M; intro w M a F)
    refine stepD rfl F rfl (o_assign (F.ev rfl) ?_); clear F; clear a; intro a F
    with_reducible refine l_nil ?_
    with_reducible refine q_then ?_
    with_reducible refine c_ret ?_
    refine p_ret F rfl (.cons (.cell (F.ev rfl) (run_loadVar_agg TAgg.h (M.heap (by repeat (first | exact .here | apply Has.there))) s3)) (.cons (.tmp (F.ev rfl)) .nil)) ⟨by simp [linkL, hi, optIP, oneOr], M.ext⟩

/-! the plain law -/
theorem xor_inj {e f : Int} (he0 : 0 ≤ e) (he1 : e ≤ 18446744073709551615) (hf0 : 0 ≤ f) (hf1 : f ≤ 18446744073709551615) : (bitsOf .xor .u64 e 144115188075855872 == bitsOf .xor .u64 f 144115188075855872) = (e == f) := by
  obtain ⟨n, rfl⟩ := Int.eq_ofNat_of_zero_le he0
  obtain ⟨m, rfl⟩ := Int.eq_ofNat_of_zero_le hf0
  have e1 : ∀ n : Nat, n < 18446744073709551616 → bitsOf .xor .u64 (n : Int) 144115188075855872 = ((n ^^^ 144115188075855872 : Nat) : Int) := fun n hn => bits_xor (k := .u64) rfl (m := n) (n := 144115188075855872) hn (show 144115188075855872 < 18446744073709551616 by decide)
  rw [e1 n (by omega), e1 m (by omega)]
  by_cases h : n = m
  · subst h; simp
  · have h2 : ¬ (n ^^^ 144115188075855872 = m ^^^ 144115188075855872) := fun hc => h (by
      have := congrArg (· ^^^ 144115188075855872) hc
      simpa [Nat.xor_assoc] using this)
    have h3 : ((n : Int) == m) = false := by rw [beq_eq_false_iff_ne]; exact fun hc => h (by omega)
    have h4 : (((n ^^^ 144115188075855872 : Nat) : Int) == ((m ^^^ 144115188075855872 : Nat) : Int)) = false := by
      rw [beq_eq_false_iff_ne]
      exact fun hc => h2 (by exact_mod_cast hc)
    rw [h3, h4]
theorem pow_fin : ∀ i : Fin 8, (2 : Int) ^ (8 * (7 - i.1)) = ((256 ^ (7 - i.1) : Nat) : Int) := by decide
theorem beAt_nat (n i : Nat) (hi : i < 8) : beAt (n : Int) i = ((n / 256 ^ (7 - i) % 256 : Nat) : Int) := by
  unfold beAt
  have e1 : min (8 * (8 - 1 - (i : Int))).toNat 64 = 8 * (7 - i) := by omega
  rw [e1, pow_fin ⟨i, hi⟩, Int.fdiv_eq_ediv_of_nonneg _ (Int.natCast_nonneg _)]
  simp only [IntKind.wrap, IntKind.signed, IntKind.bits, Bool.false_and, Bool.false_eq_true, if_false]
  rfl
theorem be_join (n : Nat) (h : n < 18446744073709551616) : beN (beB (n : Int)) = n := by
  have e0 : beAt (n : Int) 0 = ((n / 72057594037927936 % 256 : Nat) : Int) := beAt_nat n 0 (by omega)
  have e1 : beAt (n : Int) 1 = ((n / 281474976710656 % 256 : Nat) : Int) := beAt_nat n 1 (by omega)
  have e2 : beAt (n : Int) 2 = ((n / 1099511627776 % 256 : Nat) : Int) := beAt_nat n 2 (by omega)
  have e3 : beAt (n : Int) 3 = ((n / 4294967296 % 256 : Nat) : Int) := beAt_nat n 3 (by omega)
  have e4 : beAt (n : Int) 4 = ((n / 16777216 % 256 : Nat) : Int) := beAt_nat n 4 (by omega)
  have e5 : beAt (n : Int) 5 = ((n / 65536 % 256 : Nat) : Int) := beAt_nat n 5 (by omega)
  have e6 : beAt (n : Int) 6 = ((n / 256 % 256 : Nat) : Int) := beAt_nat n 6 (by omega)
  have e7 : beAt (n : Int) 7 = ((n / 1 % 256 : Nat) : Int) := beAt_nat n 7 (by omega)
  have hb : beB (n : Int) = [beAt n 0, beAt n 1, beAt n 2, beAt n 3, beAt n 4, beAt n 5, beAt n 6, beAt n 7] := rfl
  rw [hb, e0, e1, e2, e3, e4, e5, e6, e7]
  simp only [beN, List.foldl_cons, List.foldl_nil]
  omega
theorem beB_bd (n : Nat) : ∀ x ∈ beB (n : Int), 0 ≤ x ∧ x < 256 := by
  intro x hx
  obtain ⟨i, hi, rfl⟩ := List.mem_map.1 hx
  rw [beAt_nat n i (List.mem_range.1 hi)]
  have : n / 256 ^ (7 - i) % 256 < 256 := Nat.mod_lt _ (by omega)
  omega
theorem join_ip {p : List Int} (hp : IsIP p) {v : Int} (h0 : 0 ≤ v) : IsIP (joinI p v) := by
  obtain ⟨n, rfl⟩ := Int.eq_ofNat_of_zero_le h0
  refine ⟨by simp [joinI, beB_len, hp.len], fun x hx => ?_⟩
  rcases List.mem_append.1 hx with h | h
  · exact hp.bd x (List.mem_of_mem_take h)
  · exact beB_bd n x h
theorem split_join {p : List Int} (hp : p.length = 16) {v : Int} (h0 : 0 ≤ v) (h1 : v ≤ 18446744073709551615) : (joinI p v).take 8 = p.take 8 ∧ beN ((joinI p v).drop 8) = v := by
  obtain ⟨n, rfl⟩ := Int.eq_ofNat_of_zero_le h0
  have hl : (p.take 8).length = 8 := by simp [hp]
  refine ⟨?_, ?_⟩
  · unfold joinI
    rw [List.take_append_of_le_length (by omega), List.take_of_length_le (by omega)]
  · unfold joinI
    rw [List.drop_append_of_le_length (by omega), List.drop_eq_nil_of_le (by omega), List.nil_append]
    exact be_join n (by omega)
theorem local_ip : IsIP localIP := ⟨rfl, by decide⟩
end Go.Proofs.YtadnpidadcgdcaaDoor

/-! S0 -/
/-
  Plain facts on the bits of addresses. No program in sight.
-/
namespace Go.Proofs.YtadnpidadcgdcaaDoor
set_option linter.unusedVariables false
set_option linter.unusedSimpArgs false
open Go.RowKit

def bitX (x : Int) (r : Nat) : Int := bitsOf .and .u8 (Int.fdiv x (2 ^ min (7 - (r : Int)).toNat IntKind.u8.bits)) 1
/-- bit i of an address -/
def bitI (a : List Int) (i : Nat) : Int := bitX (a.getD (i / 8) 0) (i % 8)
theorem bit_fin : ∀ x : Fin 256, ∀ r : Fin 8, bitX (x.1 : Int) r.1 = ((x.1 / 2 ^ (7 - r.1) % 2 : Nat) : Int) := by decide +kernel
theorem valid_fin : ∀ x : Fin 256, ∀ k : Fin 9, (x.1 / 2 ^ (8 - k.1) * 2 ^ (8 - k.1) = x.1) ↔ ∀ r : Fin 8, k.1 ≤ r.1 → x.1 / 2 ^ (7 - r.1) % 2 = 0 := by decide +kernel
theorem low_bits : ∀ x : Fin 256, ∀ k : Fin 9, (Lib.bitLen x.1 ≤ 8 - k.1) ↔ ∀ r : Fin 8, r.1 < k.1 → x.1 / 2 ^ (7 - r.1) % 2 = 0 := by decide +kernel
theorem mask_fin : ∀ x : Fin 256, ∀ r : Fin 8, bitsOf .or .u8 (cutB (x.1 : Int) r.1) (IntKind.u8.wrap (bitX (x.1 : Int) r.1 * 2 ^ min (7 - (r.1 : Int)).toNat IntKind.u8.bits)) = cutB (x.1 : Int) (r.1 + 1) := by decide +kernel
theorem cut0_fin : ∀ x : Fin 256, cutB (x.1 : Int) 0 = 0 := by decide +kernel
theorem bitX_nat {x : Nat} {r : Nat} (hx : x < 256) (hr : r < 8) : bitX (x : Int) r = ((x / 2 ^ (7 - r) % 2 : Nat) : Int) := bit_fin ⟨x, hx⟩ ⟨r, hr⟩
theorem byte_of {a : List Int} (ha : IsIP a) (j : Nat) : ∃ x : Nat, x < 256 ∧ a.getD j 0 = (x : Int) := by
  have := ha.at_ j
  obtain ⟨x, hx⟩ := Int.eq_ofNat_of_zero_le this.1
  exact ⟨x, by omega, hx⟩
theorem bitI_bd {a : List Int} (ha : IsIP a) (i : Nat) : bitI a i = 0 ∨ bitI a i = 1 := by
  obtain ⟨x, hx, hxe⟩ := byte_of ha (i / 8)
  unfold bitI
  rw [hxe, bitX_nat hx (Nat.mod_lt _ (by omega))]
  omega
theorem keep_le {n j r : Nat} (hr : r < 8) : (keepN (n : Int) j).toNat ≤ r ↔ n ≤ 8 * j + r := by
  unfold keepN
  split <;> (try split) <;> omega
theorem keep_lt {n j r : Nat} (hr : r < 8) : r < (keepN (n : Int) j).toNat ↔ 8 * j + r < n := by
  unfold keepN
  split <;> (try split) <;> omega
theorem mask_eq_iff {p : List Int} (hp : IsIP p) (n : Int) : maskI p n = p ↔ ∀ j, j < 16 → maskAt p n j = p.getD j 0 := by
  constructor
  · intro h j hj
    rw [← maskI_at p n hj, h]
  · intro h
    apply List.ext_getElem (by rw [maskI_len, hp.len])
    intro j h1 h2
    have hj : j < 16 := by rw [maskI_len] at h1; exact h1
    have e := h j hj
    simp only [maskI, List.getElem_map, List.getElem_range]
    rw [e, List.getD_eq_getElem?_getD, List.getElem?_eq_getElem h2]
    rfl
theorem valid_bits {p : List Int} (hp : IsIP p) (n : Nat) : maskI p (n : Int) = p ↔ ∀ i, n ≤ i → i < 128 → bitI p i = 0 := by
  rw [mask_eq_iff hp]
  have key : ∀ j, j < 16 → (maskAt p n j = p.getD j 0 ↔ ∀ r, r < 8 → (keepN (n : Int) j).toNat ≤ r → bitI p (8 * j + r) = 0) := by
    intro j hj
    obtain ⟨x, hx, hxe⟩ := byte_of hp j
    have hk := keepN_bd (n : Int) (j : Int)
    rw [maskAt_cut, hxe, cutB_nat hx hk]
    have hv := valid_fin ⟨x, hx⟩ ⟨(keepN (n : Int) j).toNat, by omega⟩
    simp only at hv
    constructor
    · intro h r hr hkr
      have h' : x / 2 ^ (8 - (keepN (n : Int) j).toNat) * 2 ^ (8 - (keepN (n : Int) j).toNat) = x := by exact_mod_cast h
      have := hv.1 h' ⟨r, hr⟩ hkr
      unfold bitI
      rw [show (8 * j + r) / 8 = j by omega, show (8 * j + r) % 8 = r by omega, hxe, bitX_nat hx hr]
      simp only at this
      omega
    · intro h
      have : x / 2 ^ (8 - (keepN (n : Int) j).toNat) * 2 ^ (8 - (keepN (n : Int) j).toNat) = x := hv.2 fun r hkr => by
        have h1 := h r.1 r.2 hkr
        unfold bitI at h1
        rw [show (8 * j + r.1) / 8 = j by omega, show (8 * j + r.1) % 8 = r.1 by omega, hxe, bitX_nat hx r.2] at h1
        omega
      exact_mod_cast this
  constructor
  · intro h i hi hlt
    have := (key (i / 8) (by omega)).1 (h (i / 8) (by omega)) (i % 8) (Nat.mod_lt _ (by omega)) ((keep_le (Nat.mod_lt _ (by omega))).2 (by omega))
    rwa [show 8 * (i / 8) + i % 8 = i by omega] at this
  · intro h j hj
    exact (key j hj).2 fun r hr hkr => h _ ((keep_le hr).1 hkr) (by omega)
/-- one bit more -/
theorem mask_step {a : List Int} (ha : IsIP a) {i : Nat} (hi : i < 128) : bitsOf .or .u8 (maskAt a (i : Int) (i / 8)) (IntKind.u8.wrap (bitI a i * 2 ^ min (7 - ((i % 8 : Nat) : Int)).toNat IntKind.u8.bits)) = maskAt a ((i : Int) + 1) (i / 8) := by
  obtain ⟨x, hx, hxe⟩ := byte_of ha (i / 8)
  have k1 : (keepN (i : Int) ((i / 8 : Nat) : Int)).toNat = i % 8 := by unfold keepN; split <;> (try split) <;> omega
  have k2 : (keepN ((i : Int) + 1) ((i / 8 : Nat) : Int)).toNat = i % 8 + 1 := by unfold keepN; split <;> (try split) <;> omega
  rw [maskAt_cut, maskAt_cut, k1, k2]
  unfold bitI
  rw [hxe]
  exact mask_fin ⟨x, hx⟩ ⟨i % 8, Nat.mod_lt _ (by omega)⟩
theorem mask_other {a : List Int} {i j : Nat} (hj : j ≠ i / 8) : maskAt a ((i : Int) + 1) j = maskAt a (i : Int) j := by
  have : keepN ((i : Int) + 1) (j : Int) = keepN (i : Int) (j : Int) := by unfold keepN; split <;> (try split) <;> (try split) <;> (try split) <;> omega
  rw [maskAt_cut, maskAt_cut, this]
theorem mask_set {a : List Int} {i : Nat} (hi : i < 128) : (maskI a (i : Int)).set (i / 8) (maskAt a ((i : Int) + 1) (i / 8)) = maskI a ((i : Int) + 1) := by
  unfold maskI
  apply List.ext_getElem (by simp)
  intro j h1 h2
  simp only [List.getElem_set, List.getElem_map, List.getElem_range]
  split
  · subst_vars; rfl
  · rename_i hne
    exact (mask_other (fun h => hne h.symm)).symm
theorem mask_zero {a : List Int} (ha : IsIP a) : maskI a 0 = zeroIP := by
  have : ∀ j, j < 16 → maskAt a 0 j = 0 := fun j hj => by
    obtain ⟨x, hx, hxe⟩ := byte_of ha j
    have k : (keepN 0 (j : Int)).toNat = 0 := by unfold keepN; split <;> (try split) <;> omega
    rw [maskAt_cut, hxe, k]
    exact cut0_fin ⟨x, hx⟩
  unfold maskI
  rw [List.map_congr_left (g := fun _ => (0 : Int)) fun j hj => this j (List.mem_range.1 hj)]
  rfl
theorem xor2 (a b : Nat) : (a ^^^ b) % 2 = 0 ↔ a % 2 = b % 2 := by
  have h := Nat.xor_mod_two_pow (a := a) (b := b) (n := 1)
  simp only [Nat.pow_one] at h
  rw [h]
  rcases Nat.mod_two_eq_zero_or_one a with ha | ha <;> rcases Nat.mod_two_eq_zero_or_one b with hb | hb <;> rw [ha, hb] <;> decide
/-- the first bits are the same -/
theorem common_bits {p q : List Int} (hp : IsIP p) (hq : IsIP q) {m : Nat} (hm : m ≤ 128) : ((m : Int) ≤ commonI p q) ↔ ∀ i, i < m → bitI p i = bitI q i := by
  unfold commonI
  rw [common_iff hp hq (by omega) (by omega) 16 (Nat.le_refl _)]
  have key : ∀ j, j < 16 → (Lib.bitLen (xorAt p q j).toNat ≤ 8 - (keepN (m : Int) j).toNat ↔ ∀ r, r < 8 → r < (keepN (m : Int) j).toNat → bitI p (8 * j + r) = bitI q (8 * j + r)) := by
    intro j hj
    obtain ⟨x, hx, hxe⟩ := byte_of hp j
    obtain ⟨y, hy, hye⟩ := byte_of hq j
    have hk := keepN_bd (m : Int) (j : Int)
    have hxy : x ^^^ y < 256 := Nat.xor_lt_two_pow (n := 8) hx hy
    have hxo : (xorAt p q j).toNat = x ^^^ y := by
      unfold xorAt
      rw [hxe, hye, bits_xor (k := .u8) rfl (show x < 2 ^ 8 by omega) (show y < 2 ^ 8 by omega), Int.toNat_natCast]
    rw [hxo]
    have hl := low_bits ⟨x ^^^ y, hxy⟩ ⟨(keepN (m : Int) j).toNat, by omega⟩
    simp only at hl
    rw [hl]
    have hb : ∀ r, r < 8 → (((x ^^^ y) / 2 ^ (7 - r) % 2 = 0) ↔ bitI p (8 * j + r) = bitI q (8 * j + r)) := fun r hr => by
      unfold bitI
      rw [show (8 * j + r) / 8 = j by omega, show (8 * j + r) % 8 = r by omega, hxe, hye, bitX_nat hx hr, bitX_nat hy hr, Nat.xor_div_two_pow, xor2]
      omega
    exact ⟨fun h r hr hk => (hb r hr).1 (h ⟨r, hr⟩ hk), fun h r hk => (hb r.1 r.2).2 (h r.1 r.2 hk)⟩
  constructor
  · intro h i hi
    have := (key (i / 8) (by omega)).1 (h (i / 8) (by omega) (by omega)) (i % 8) (Nat.mod_lt _ (by omega)) ((keep_lt (Nat.mod_lt _ (by omega))).2 (by omega))
    rwa [show 8 * (i / 8) + i % 8 = i by omega] at this
  · intro h j _ hj
    exact (key j hj).2 fun r hr hk => h _ ((keep_lt hr).1 hk)
theorem common_le {p q : List Int} (hp : IsIP p) (hq : IsIP q) : commonI p q ≤ 128 ∧ 0 ≤ commonI p q := by
  have key : ∀ k, k ≤ 16 → commonFrom p q k ≤ 128 ∧ 0 ≤ commonFrom p q k := by
    intro k
    induction k with
    | zero => intro _; simp [commonFrom]
    | succ k ih =>
      intro hk
      have h1 := xor_bd hp hq (15 - k)
      have h2 := bitLen_le8 h1.1 h1.2
      simp only [commonFrom]
      split
      · omega
      · exact ih (by omega)
  exact key 16 (Nat.le_refl _)
theorem common_is {p q : List Int} (hp : IsIP p) (hq : IsIP q) {n : Nat} (hn : n ≤ 128) (h : ∀ i, i < n → bitI p i = bitI q i) (h' : n < 128 → bitI p n ≠ bitI q n) : commonI p q = n := by
  have h1 := (common_bits hp hq hn).2 h
  have h2 := common_le hp hq
  rcases Nat.lt_or_ge n 128 with hlt | hge
  · have h3 : ¬ (((n + 1 : Nat) : Int) ≤ commonI p q) := fun hc => h' hlt ((common_bits hp hq (by omega)).1 hc n (by omega))
    omega
  · omega
/-- eight bytes, back -/
theorem be_inv {xs : List Int} (hl : xs.length = 8) (hb : ∀ x ∈ xs, 0 ≤ x ∧ x < 256) : beB (beN xs) = xs := by
  match xs, hl with
  | [x0, x1, x2, x3, x4, x5, x6, x7], _ =>
    have b0 := hb x0 (by simp); have b1 := hb x1 (by simp); have b2 := hb x2 (by simp); have b3 := hb x3 (by simp)
    have b4 := hb x4 (by simp); have b5 := hb x5 (by simp); have b6 := hb x6 (by simp); have b7 := hb x7 (by simp)
    obtain ⟨y0, rfl⟩ := Int.eq_ofNat_of_zero_le b0.1
    obtain ⟨y1, rfl⟩ := Int.eq_ofNat_of_zero_le b1.1
    obtain ⟨y2, rfl⟩ := Int.eq_ofNat_of_zero_le b2.1
    obtain ⟨y3, rfl⟩ := Int.eq_ofNat_of_zero_le b3.1
    obtain ⟨y4, rfl⟩ := Int.eq_ofNat_of_zero_le b4.1
    obtain ⟨y5, rfl⟩ := Int.eq_ofNat_of_zero_le b5.1
    obtain ⟨y6, rfl⟩ := Int.eq_ofNat_of_zero_le b6.1
    obtain ⟨y7, rfl⟩ := Int.eq_ofNat_of_zero_le b7.1
    clear hb
    obtain ⟨m1, h1⟩ : ∃ m, m = 256 * y0 + y1 := ⟨_, rfl⟩
    obtain ⟨m2, h2⟩ : ∃ m, m = 256 * m1 + y2 := ⟨_, rfl⟩
    obtain ⟨m3, h3⟩ : ∃ m, m = 256 * m2 + y3 := ⟨_, rfl⟩
    obtain ⟨m4, h4⟩ : ∃ m, m = 256 * m3 + y4 := ⟨_, rfl⟩
    obtain ⟨m5, h5⟩ : ∃ m, m = 256 * m4 + y5 := ⟨_, rfl⟩
    obtain ⟨m6, h6⟩ : ∃ m, m = 256 * m5 + y6 := ⟨_, rfl⟩
    obtain ⟨n, h7⟩ : ∃ m, m = 256 * m6 + y7 := ⟨_, rfl⟩
    have hn : beN [(y0 : Int), y1, y2, y3, y4, y5, y6, y7] = (n : Int) := by
      simp only [beN, List.foldl_cons, List.foldl_nil]
      omega
    rw [hn]
    have d6 : n / 256 = m6 := by omega
    have d5 : n / 65536 = m5 := by rw [show 65536 = 256 * 256 from rfl, ← Nat.div_div_eq_div_mul, d6]; omega
    have d4 : n / 16777216 = m4 := by rw [show 16777216 = 65536 * 256 from rfl, ← Nat.div_div_eq_div_mul, d5]; omega
    have d3 : n / 4294967296 = m3 := by rw [show 4294967296 = 16777216 * 256 from rfl, ← Nat.div_div_eq_div_mul, d4]; omega
    have d2 : n / 1099511627776 = m2 := by rw [show 1099511627776 = 4294967296 * 256 from rfl, ← Nat.div_div_eq_div_mul, d3]; omega
    have d1 : n / 281474976710656 = m1 := by rw [show 281474976710656 = 1099511627776 * 256 from rfl, ← Nat.div_div_eq_div_mul, d2]; omega
    have d0 : n / 72057594037927936 = y0 := by rw [show 72057594037927936 = 281474976710656 * 256 from rfl, ← Nat.div_div_eq_div_mul, d1]; omega
    have e0 : beAt (n : Int) 0 = ((n / 72057594037927936 % 256 : Nat) : Int) := beAt_nat n 0 (by omega)
    have e1 : beAt (n : Int) 1 = ((n / 281474976710656 % 256 : Nat) : Int) := beAt_nat n 1 (by omega)
    have e2 : beAt (n : Int) 2 = ((n / 1099511627776 % 256 : Nat) : Int) := beAt_nat n 2 (by omega)
    have e3 : beAt (n : Int) 3 = ((n / 4294967296 % 256 : Nat) : Int) := beAt_nat n 3 (by omega)
    have e4 : beAt (n : Int) 4 = ((n / 16777216 % 256 : Nat) : Int) := beAt_nat n 4 (by omega)
    have e5 : beAt (n : Int) 5 = ((n / 65536 % 256 : Nat) : Int) := beAt_nat n 5 (by omega)
    have e6 : beAt (n : Int) 6 = ((n / 256 % 256 : Nat) : Int) := beAt_nat n 6 (by omega)
    have e7 : beAt (n : Int) 7 = ((n / 1 % 256 : Nat) : Int) := beAt_nat n 7 (by omega)
    have hbb : beB (n : Int) = [beAt n 0, beAt n 1, beAt n 2, beAt n 3, beAt n 4, beAt n 5, beAt n 6, beAt n 7] := rfl
    rw [hbb, e0, e1, e2, e3, e4, e5, e6, e7, d0, d1, d2, d3, d4, d5, d6, Nat.div_one]
    clear d0 d1 d2 d3 d4 d5 d6 e0 e1 e2 e3 e4 e5 e6 e7 hbb hn
    simp only [List.cons.injEq, and_true]
    refine ⟨?_, ?_, ?_, ?_, ?_, ?_, ?_, ?_⟩ <;> omega
end Go.Proofs.YtadnpidadcgdcaaDoor

/-! LibO -/
/-
  The calculus, part O: a store into what an alloc of the same region has made; equality of arrays and structs that is decided.
-/
namespace Go.Proofs.YtadnpidadcgdcaaDoor
set_option linter.unusedVariables false
set_option linter.unusedSimpArgs false
open Go.RowKit
section
variable {P : Program} {ρ : Operand → Value} {w W0 : World} {S : List Nat} {l l' : List (Nat × Obj)} {R : Value → World → Prop} {d : Option Tmp} {ty : TypeId} {pos : String} {af : Array Edge} {g : Option (Nat × Bool)}
theorem o_storeP {t : TypeId} {x y : Operand} {b n : Nat} {cs cs' vs : List Value} {t' : TypeId} [hs : TAgg P t n] (hx : ρ x = ptrTo b) (hy : ρ y = .agg vs.toArray) (hn : vs.length = n) (h1 : vs.all (·.oneCell') = true) (hz : w.heap[b]? = some (.cells cs.toArray t' (0, 0))) (hp : put cs 0 vs = some cs') :
    OpTo P ⟨d, .store t x y, ty, pos, af, g⟩ ρ w fun _ w' => Ext [b] w w' ∧ w'.heap[b]? = some (.cells cs'.toArray t' (0, 0)) := by
  obtain ⟨hle, rfl⟩ := put_splice _ _ _ _ hp
  obtain ⟨w', hr, he, hh⟩ := run_storeRow (P := P) (off := 0) vs 0 cs w hz (by simpa using hle) (fun v hv => List.all_eq_true.1 h1 v hv)
  refine OpTo.skip (w' := w') ?_ ⟨he, by simpa using hh⟩
  simp only [execOp, Instr.storeAt, Instr.sureAddr, hx, hy, ptrTo, storeVar, Sem.run_bind, Sem.run_pure, Result.andThen_ok, run_sizeOf_agg hs.h, Value.cells]
  simp [hr, hn]
theorem o_eqlBT {t t' : TypeId} {x y : Operand} {p q : Bool} (hx : ρ x = .bool p) (hy : ρ y = .bool q) [ht : TU P t .bool] (he : p = q) (h : R (.bool true) w) : OpTo P ⟨d, .binOp .eql t x y t', ty, pos, af, g⟩ ρ w R := o_eqlB hx hy (by subst he; cases p <;> exact h)
theorem o_neqBF {t t' : TypeId} {x y : Operand} {p q : Bool} (hx : ρ x = .bool p) (hy : ρ y = .bool q) [ht : TU P t .bool] (he : p = q) (h : R (.bool false) w) : OpTo P ⟨d, .binOp .neq t x y t', ty, pos, af, g⟩ ρ w R := o_neqB hx hy (by subst he; cases p <;> exact h)
theorem o_eqlAT {t t' : TypeId} {x y : Operand} {ks : List LK} {xs ys : List Value} [ht : TEq P t ks] (hx : ρ x = .agg xs.toArray) (hy : ρ y = .agg ys.toArray) (fx : fitsK ks xs = true) (fy : fitsK ks ys = true) (he : eqVs xs ys = true) (h : R (.bool true) w) : OpTo P ⟨d, .binOp .eql t x y t', ty, pos, af, g⟩ ρ w R := o_eqlA hx hy fx fy (by rw [he]; exact h)
theorem o_eqlAF {t t' : TypeId} {x y : Operand} {ks : List LK} {xs ys : List Value} [ht : TEq P t ks] (hx : ρ x = .agg xs.toArray) (hy : ρ y = .agg ys.toArray) (fx : fitsK ks xs = true) (fy : fitsK ks ys = true) (he : eqVs xs ys = false) (h : R (.bool false) w) : OpTo P ⟨d, .binOp .eql t x y t', ty, pos, af, g⟩ ρ w R := o_eqlA hx hy fx fy (by rw [he]; exact h)
theorem o_neqAT {t t' : TypeId} {x y : Operand} {ks : List LK} {xs ys : List Value} [ht : TEq P t ks] (hx : ρ x = .agg xs.toArray) (hy : ρ y = .agg ys.toArray) (fx : fitsK ks xs = true) (fy : fitsK ks ys = true) (he : eqVs xs ys = false) (h : R (.bool true) w) : OpTo P ⟨d, .binOp .neq t x y t', ty, pos, af, g⟩ ρ w R := o_neqA hx hy fx fy (by rw [he]; exact h)
theorem o_neqAF {t t' : TypeId} {x y : Operand} {ks : List LK} {xs ys : List Value} [ht : TEq P t ks] (hx : ρ x = .agg xs.toArray) (hy : ρ y = .agg ys.toArray) (fx : fitsK ks xs = true) (fy : fitsK ks ys = true) (he : eqVs xs ys = true) (h : R (.bool false) w) : OpTo P ⟨d, .binOp .neq t x y t', ty, pos, af, g⟩ ρ w R := o_neqA hx hy fx fy (by rw [he]; exact h)
end
end Go.Proofs.YtadnpidadcgdcaaDoor

/-
  Texts joined: Seat, P8, P9, Q1, Q2, Q3, LibN, Q4, A1, Open, T1, T2, Open2, Open3, U1, V1, V2, V3, V4.
-/
import Derived.Test.YtadnpidadcgdcaaDoorMPfx2
import Derived.Test.YtadnpidadcgdcaaDoorCards
import Derived.Test.YtadnpidadcgdcaaDoorTie
import Derived.Laws.MakeOwn
import Derived.ChangeMaps5
import Derived.Lib.ItoaLen
/-! Seat -/
/-
  The seat: what its rows' lists give of memory; a world for the witness.
-/
namespace Go.Proofs.YtadnpidadcgdcaaDoor
set_option linter.unusedVariables false
set_option linter.unusedSimpArgs false
open Go.ChangeShapes Go.WideShapes Go.ChangeAt Go.RowKit

theorem own : ownKnob Tryd.prog.godebug = none := by kernel_rfl
theorem laidOut : laidOutB Tryd.prog = true := by kernel_rfl
theorem seat_GM {W : World} (h : W.ShapedOpen Tryd.prog) : GM W :=
  cell_of_shapedOpen_int (zero := #[.int .i64 0]) (t := 3) h (of_decide_eq_true (by kernel_rfl)) (by kernel_rfl) rfl (by kernel_rfl) (by kernel_rfl) Tryd.underlying3

def seatLaid : List (String × DataW Unit) := [("math/bits.deBruijn32tab", Rows.laid_math_bits_deBruijn32tab), ("math/bits.deBruijn64tab", Rows.laid_math_bits_deBruijn64tab), ("internal/strconv.uint64pow10", Rows.laid_internal_strconv_uint64pow10), ("unicode/utf8.acceptRanges", Rows.laid_unicode_utf8_acceptRanges), ("unicode/utf8.first", Rows.laid_unicode_utf8_first)]
theorem laid_tail {P : Program} {x : String × DataW Unit} {r : List (String × DataW Unit)} {W : World} {ps : List MemPlace} (h : DataW.LaidVars P W (x :: r) ps) : ∃ q, DataW.LaidVars P W r q := by
  obtain ⟨g, t, cs, fuel, p, q, _, _, _, _, h, _⟩ := h
  exact ⟨q, h⟩
theorem tab_of {P : Program} {W : World} {name : String} {k : IntKind} {zs : List Int} {rest : List (String × DataW Unit)} {ps : List MemPlace} {g : Nat} {t e : TypeId} {n : Nat}
    (hg : P.globalNamed name = some g) (hty : (P.globals[g]?).map (·.type) = some t) (ht : P.underlying t = some (.array n e)) (he : P.underlying e = some (.int k)) (hce : P.cellsOf e = 1) (hct : P.cellsOf t = n)
    (h : DataW.LaidVars P W ((name, Lib.tabData k zs) :: rest) ps) : Lib.TabIs P W name k zs := by
  obtain ⟨g', t', cs, fuel, p, q, hg', ht', hvar, hd, _, _⟩ := h
  obtain rfl := Option.some.inj (hg.symm.trans hg')
  obtain rfl := Option.some.inj (hty.symm.trans ht')
  unfold Lib.TabIs
  rw [hvar, ← Lib.cells_of_tab ht he hce hct hd]
def tab64 : List Int := [0, 1, 56, 2, 57, 49, 28, 3, 61, 58, 42, 50, 38, 29, 17, 4, 62, 47, 59, 36, 45, 43, 51, 22, 53, 39, 33, 30, 24, 18, 12, 5, 63, 55, 48, 27, 60, 41, 37, 16, 46, 35, 44, 21, 52, 32, 23, 11, 54, 26, 40, 15, 34, 20, 31, 10, 25, 14, 19, 9, 13, 8, 7, 6]
theorem seat_GT {W : World} (h : laidMetH Tryd.prog seatLaid W) : GT W := by
  have h' : laidMet Tryd.prog seatLaid W := h
  obtain ⟨ps, hl, _, _⟩ := h'
  obtain ⟨q, h2⟩ := laid_tail hl
  have ht : Lib.TabIs Tryd.prog W "math/bits.deBruijn64tab" .u8 tab64 :=
    tab_of (g := 5) (t := 142) (e := 5) (n := 64) (by kernel_rfl) (by kernel_rfl) Tryd.underlying142 Tryd.underlying5 (by kernel_rfl) (by kernel_rfl) (zs := tab64) h2
  exact ht.cell (g := 5) (by kernel_rfl) 15 (by decide)

/-! a world for the witness -/
mutual
def cellsIn : DataW Unit → List Value
  | .lit (.int k n) => [.int k n]
  | .agg ps => cellsInAll ps
  | _ => []
def cellsInAll : List (DataW Unit) → List Value
  | [] => []
  | d :: r => cellsIn d ++ cellsInAll r
end
def relay (d : DataW Unit) : Obj → Obj
  | .cells _ t fz => .cells (cellsIn d).toArray t fz
  | o => o
noncomputable def laidWorld (os : Os) : World :=
  { World.holding Tryd.prog os ⟨#[], #[], []⟩ with heap := ((((((World.holding Tryd.prog os ⟨#[], #[], []⟩).heap.modify 1 (relay Rows.laid_internal_strconv_uint64pow10)).modify 2 (relay Rows.laid_unicode_utf8_first)).modify 3 (relay Rows.laid_unicode_utf8_acceptRanges)).modify 4 (relay Rows.laid_math_bits_deBruijn32tab)).modify 5 (relay Rows.laid_math_bits_deBruijn64tab)) }
theorem laid_met (os : Os) (args : Array Value) : laidMet Tryd.prog seatLaid ((laidWorld os).forCall (fun _ _ => 0) ⟨#[], args, []⟩).memory :=
  laidMet_of_run' 8 (by kernel_rfl) (by kernel_rfl)
end Go.Proofs.YtadnpidadcgdcaaDoor

/-! P8 -/
/-
  address.FormatIP.
-/
namespace Go.Proofs.YtadnpidadcgdcaaDoor
set_option linter.unusedVariables false
set_option linter.unusedSimpArgs false
open Go.RowKit
attribute [local irreducible] OpTo wpListIn Code.wpIn MW Cal

/-- the separator, where one is needed -/
def fsep (bs : List Int) : List Int := if bs ≠ [] ∧ bs.getD (bs.length - 1) 0 ≠ 58 then bs ++ [58] else bs
def inRun (st len i : Nat) : Prop := 2 ≤ len ∧ st ≤ i ∧ i < st + len
instance (st len i : Nat) : Decidable (inRun st len i) := by unfold inRun; infer_instance
def fstep (st len : Nat) (bs : List Int) (x : Nat × Int) : List Int :=
  if inRun st len x.1 then (if x.1 = st then bs ++ [58, 58] else bs) else fsep bs ++ hexI x.2
def fall (st len : Nat) (xs : List (Nat × Int)) : List Int := xs.foldl (fstep st len) []
/-- numbers as bytes -/
def txt (xs : List Int) : List UInt8 := xs.map fun n => UInt8.ofNat n.toNat
def formatI (ip : List Int) : List Int := fall (zall (grps ip)).1 (zall (grps ip)).2.1 (grps ip)
theorem fsep_len (bs : List Int) : bs.length ≤ (fsep bs).length ∧ (fsep bs).length ≤ bs.length + 1 := by
  unfold fsep; split <;> simp
theorem fstep_len (st len : Nat) (bs : List Int) (x : Nat × Int) : (fstep st len bs x).length ≤ bs.length + 5 := by
  unfold fstep
  have h1 := fsep_len bs
  have h2 := hexI_len x.2
  split
  · split <;> simp
  · rw [List.length_append]; omega
theorem fall_len (st len : Nat) : ∀ (xs : List (Nat × Int)) (b : List Int), (xs.foldl (fstep st len) b).length ≤ b.length + 5 * xs.length
  | [], b => by simp
  | x :: xs, b => by
    have h1 := fall_len st len xs (fstep st len b x)
    have h2 := fstep_len st len b x
    simp only [List.foldl_cons, List.length_cons]; omega
theorem zall_bd : ∀ (xs : List (Nat × Int)) (s : Nat × Nat × Nat) (k : Nat), s.1 ≤ k → s.2.1 ≤ k → s.2.2 ≤ k → (∀ i x, xs[i]? = some x → x.1 = k + i) → (xs.foldl zstep s).1 ≤ k + xs.length ∧ (xs.foldl zstep s).2.1 ≤ k + xs.length
  | [], s, k, h1, h2, h3, _ => by simpa using ⟨h1, h2⟩
  | x :: xs, s, k, h1, h2, h3, hx => by
    have e0 := hx 0 x rfl
    have := zall_bd xs (zstep s x) (k + 1) (by unfold zstep; split <;> (try split) <;> simp <;> omega) (by unfold zstep; split <;> (try split) <;> simp <;> omega) (by unfold zstep; split <;> (try split) <;> simp <;> omega) (fun i y hy => by have := hx (i + 1) y (by simpa using hy); omega)
    simp only [List.foldl_cons, List.length_cons]; omega
theorem zeros_bd (ip : List Int) : (zall (grps ip)).1 ≤ 8 ∧ (zall (grps ip)).2.1 ≤ 8 := by
  have := zall_bd (grps ip) (0, 0, 0) 0 (Nat.le_refl _) (Nat.le_refl _) (Nat.le_refl _) (fun i x h => by
    simp only [grps, List.getElem?_map, Option.map_eq_some_iff] at h
    obtain ⟨a, ha, rfl⟩ := h
    have := (List.getElem?_eq_some_iff.1 ha).2
    simp at this ⊢; omega)
  simpa [grps, zall] using this
theorem nth_last {bs : List Int} {junk : List Value} {off : Nat} (h : 0 < bs.length) (ho : off = bs.length - 1) : nth (bs.map (Value.int .u8) ++ junk) off = some (.int .u8 (bs.getD (bs.length - 1) 0)) := by
  subst ho
  have hl : bs.length - 1 < bs.length := by omega
  rw [nth_spec]; simp [List.getElem?_append, hl]

theorem src2 (P : Program) (w : World) : SrcOf P w (.string ⟨#[58, 58]⟩) 2 1 [.int .u8 58, .int .u8 58] := SrcOf.str P w ⟨#[58, 58]⟩

set_option maxRecDepth 10000 in
set_option maxHeartbeats 4000000 in
theorem formatIP_c (ip : List Int) (h : IsIP ip) (W : World) (hG : GT W) : Cal Tryd.prog 17 [.agg (ipC ip).toArray].toArray W fun v w' => v = mkS (txt (formatI ip)) ∧ Ext [] W w' := by
  have hl16 : (ipC ip).length = 16 := by rw [length_ipC, h.len]
  have hseg : seg (ipC ip) 0 16 = some (ipC ip) := by
    have h1 := seg_of [] (ipC ip) []
    rw [hl16] at h1
    simpa using h1
  have hzb := zeros_bd ip
  unfold formatI
  refine fn_ofM (n := 57) [] Tryd.func17 rfl rfl rfl ?_
  intro a w F M hwW
  refine c_seq ?_
  refine c_region ?_
  (refine stepD rfl F rfl (o_box M (F.ev rfl) rfl ?_); clear F; clear M; intro b1 w M a F)
  refine stepD rfl F rfl (o_assign (F.ev rfl) ?_); clear F; clear a; intro a F
  with_reducible refine l_nil ?_
  with_reducible refine q_then ?_
  with_reducible refine c_seq ?_
  with_reducible refine c_region ?_
  refine stepD rfl F rfl (o_loadA M (F.ev rfl) (by repeat (first | exact .here | apply Has.there)) (by first | assumption | rfl) ?_); clear F; clear a; intro a F
  (refine stepD rfl F rfl (o_call (F.ev rfl) (F.evs rfl) (Cal.mono (zeros_c ip h _) ?_)); clear F; clear a; rintro _ w ⟨rfl, hE⟩ a F; replace M := M.later hE; clear hE)
  generalize (zall (grps ip)).1 = st at *
  generalize (zall (grps ip)).2.1 = len at *
  refine stepD rfl F rfl (o_move (F.ev rfl) ?_); clear F; clear a; intro a F
  refine stepD rfl F rfl (o_extract (F.ev rfl) rfl ?_); clear F; clear a; intro a F
  refine stepD rfl F rfl (o_extract (F.ev rfl) rfl ?_); clear F; clear a; intro a F
  (refine stepD rfl F rfl (o_alloc M ?_); clear F; clear M; intro b3 w M a F)
  (refine stepD rfl F rfl (o_alloc M ?_); clear F; clear M; intro b4 w M a F)
  (refine stepN rfl F (o_store1 M (F.ev rfl) (F.ev rfl) rfl (by repeat (first | exact .here | apply Has.there)) (by rfl) (by repeat (first | exact .here | apply Upd.there)) ?_); clear F; clear M; intro w M a F)
  (refine stepN rfl F (o_store1 M (F.ev rfl) (F.ev rfl) rfl (by repeat (first | exact .here | apply Has.there)) (by rfl) (by repeat (first | exact .here | apply Upd.there)) ?_); clear F; clear M; intro w M a F)
  with_reducible refine l_nil ?_
  with_reducible refine q_then ?_
  with_reducible refine c_seq ?_
  with_reducible refine c_region ?_
  (refine stepD rfl F rfl (o_alloc M ?_); clear F; clear M; intro b5 w M a F)
  with_reducible refine l_nil ?_
  with_reducible refine q_then ?_
  with_reducible refine c_seq ?_
  with_reducible refine c_seq ?_
  with_reducible refine c_region ?_
  refine stepD rfl F rfl (o_loadA M (F.ev rfl) (by repeat (first | exact .here | apply Has.there)) (by first | assumption | rfl) ?_); clear F; clear a; intro a F
  (refine stepD rfl F rfl (o_call (F.ev rfl) (F.evs rfl) (Cal.mono (groups_c ip h _ ) ?_)); clear F; clear a; rintro _ w ⟨c1, rfl, N⟩ a F; replace M := M.joins N; clear N)
  with_reducible refine l_nil ?_
  with_reducible refine q_then ?_
  with_reducible refine c_block ?_
  replace F := F.only [14, 5, 4, 3] rfl
  replace M := (M.perm (l' := [(b5, .cells [.slice none 0 0].toArray 26 (0, 0)), (b4, .cells [.int .i64 len].toArray 3 (0, 0)), (b3, .cells [.int .i64 st].toArray 3 (0, 0))] ++ ([(b1, .cells (ipC ip).toArray 23 (0, 0))] ++ [(c1, .cells (ipC ip).toArray 23 (0, 0))])) (by rw [← List.append_assoc]; exact List.perm_append_comm)).sub (l' := [(b5, .cells [.slice none 0 0].toArray 26 (0, 0)), (b4, .cells [.int .i64 len].toArray 3 (0, 0)), (b3, .cells [.int .i64 st].toArray 3 (0, 0))] ++ [(c1, .cells (ipC ip).toArray 23 (0, 0))]) (List.Sublist.append_left (List.sublist_append_right _ _) _)
  refine c_range (α := Nat × Int) (ps := [15, 16]) F M rfl (groups_iter ip h c1) (fun _ => rfl) rfl
    (fun pre l => ∃ sv ent, OwnS 5 1 sv (fall st len pre).length ((fall st len pre).map (Value.int .u8)) ent ∧ l = [(b5, .cells [sv].toArray 26 (0, 0)), (b4, .cells [.int .i64 len].toArray 3 (0, 0)), (b3, .cells [.int .i64 st].toArray 3 (0, 0))] ++ ent)
    (fun _ _ _ => False) ⟨_, [], OwnS.nil _ _, rfl⟩ ?round ?done ?stop
  case round =>
    clear F M
    rintro L pre x _ w p a hok ⟨sv, ent, hO, rfl⟩ M F
    obtain ⟨hx1, hp8, hx2⟩ := pre_at hok
    with_reducible refine c_seq ?_
    with_reducible refine c_region ?_
    refine stepD rfl F rfl (o_assign (F.ev rfl) ?_); clear F; clear a; intro a F
    with_reducible refine l_nil ?_
    with_reducible refine q_then ?_
    with_reducible refine c_region ?_
    refine stepD rfl F rfl (o_assign (F.ev rfl) ?_); clear F; clear a; intro a F
    with_reducible refine l_nil ?_
    with_reducible refine q_then ?_
    refine ⟨_, M, ?_⟩
    clear M
    intro w p M
    have hstep : fall st len (pre ++ [x]) = fstep st len (fall st len pre) x := by simp [fall]
    have hbl : (fall st len pre).length ≤ 5 * pre.length := by have := fall_len st len pre []; simpa [fall] using this
    have hgb := h.grp pre.length
    rw [← hx2] at hgb
    generalize fall st len pre = bs at *
    obtain ⟨x1, x2⟩ := x
    dsimp only at *
    obtain ⟨sp, sc, rfl⟩ := hO.slice
    replace M := M.perm (l' := (b5, .cells [.slice sp bs.length sc].toArray 26 (0, 0)) :: (b4, .cells [.int .i64 len].toArray 3 (0, 0)) :: (b3, .cells [.int .i64 st].toArray 3 (0, 0)) :: (p ++ ent)) (by rw [List.append_assoc]; exact List.Perm.append_left [_, _, _] List.perm_append_comm)
    by_cases hin : inRun st len x1
    · have hin2 := hin
      obtain ⟨hi1, hi2, hi3⟩ := hin2
      by_cases hst : x1 = st
      · have hs' : fall st len (pre ++ [(x1, x2)]) = bs ++ [58, 58] := by rw [hstep]; simp only [fstep, if_pos hin, if_pos hst]
        with_reducible refine c_block ?_
        with_reducible refine c_seq ?_
        with_reducible refine c_seq ?_
        with_reducible refine c_region ?_
        refine stepD rfl F rfl (o_load1 M (F.ev rfl) (by repeat (first | exact .here | apply Has.there)) (by first | assumption | rfl) ?_); clear F; clear a; intro a F
        refine stepD rfl F rfl (o_geqT (F.ev rfl) (F.ev rfl) (by omega) ?_); clear F; clear a; intro a F
        refine stepD rfl F rfl (o_move (F.ev rfl) ?_); clear F; clear a; intro a F
        refine stepG rfl F rfl rfl rfl (o_move (F.ev rfl) ?_); clear F; clear a; intro a F
        refine stepG rfl F rfl rfl rfl (o_load1 M (F.ev rfl) (by repeat (first | exact .here | apply Has.there)) (by first | assumption | rfl) ?_); clear F; clear a; intro a F
        refine stepG rfl F rfl rfl rfl (o_geqT (F.ev rfl) (F.ev rfl) (by omega) ?_); clear F; clear a; intro a F
        refine stepD rfl F rfl (o_pickT (F.ev rfl) (F.ev rfl) ?_); clear F; clear a; intro a F
        refine stepD rfl F rfl (o_move (F.ev rfl) ?_); clear F; clear a; intro a F
        refine stepG rfl F rfl rfl rfl (o_move (F.ev rfl) ?_); clear F; clear a; intro a F
        refine stepG rfl F rfl rfl rfl (o_load1 M (F.ev rfl) (by repeat (first | exact .here | apply Has.there)) (by first | assumption | rfl) ?_); clear F; clear a; intro a F
        refine stepG rfl F rfl rfl rfl (o_load1 M (F.ev rfl) (by repeat (first | exact .here | apply Has.there)) (by first | assumption | rfl) ?_); clear F; clear a; intro a F
        refine stepG rfl F rfl rfl rfl (o_add (F.ev rfl) (F.ev rfl) (w_i64 (by omega) (by omega)) ?_); clear F; clear a; intro a F
        refine stepG rfl F rfl rfl rfl (o_lssT (F.ev rfl) (F.ev rfl) (by omega) ?_); clear F; clear a; intro a F
        refine stepD rfl F rfl (o_pickT (F.ev rfl) (F.ev rfl) ?_); clear F; clear a; intro a F
        with_reducible refine l_nil ?_
        with_reducible refine q_then ?_
        refine c_true F rfl rfl ?_
        with_reducible refine c_seq ?_
        with_reducible refine c_seq ?_
        with_reducible refine c_region ?_
        refine stepD rfl F rfl (o_move (F.ev rfl) ?_); clear F; clear a; intro a F
        refine stepD rfl F rfl (o_load1 M (F.ev rfl) (by repeat (first | exact .here | apply Has.there)) (by first | assumption | rfl) ?_); clear F; clear a; intro a F
        refine stepD rfl F rfl (o_eqlT (F.ev rfl) (F.ev rfl) (by omega) ?_); clear F; clear a; intro a F
        with_reducible refine l_nil ?_
        with_reducible refine q_then ?_
        refine c_true F rfl rfl ?_
        with_reducible refine c_region ?_
        refine stepD rfl F rfl (o_load1 M (F.ev rfl) (by repeat (first | exact .here | apply Has.there)) (by first | assumption | rfl) ?_); clear F; clear a; intro a F
        (refine stepD rfl F rfl (o_append hO M (.cons (.cons (.cons (.app .here)))) (F.ev rfl) (F.ev rfl) (src2 _ _) (by first | omega | (simp; omega)) (by first | omega | (simp; omega)) ?_); clear F; clear M; clear hO; intro v2 ent2 w hO M a F; (try dsimp only at M))
        obtain ⟨sp2, sc2, rfl⟩ := hO.slice
        (refine stepN rfl F (o_store1 M (F.ev rfl) (F.ev rfl) rfl (by repeat (first | exact .here | apply Has.there)) (by rfl) (by repeat (first | exact .here | apply Upd.there)) ?_); clear F; clear M; intro w M a F)
        with_reducible refine l_nil ?_
        with_reducible refine q_then ?_
        with_reducible refine c_exit ?_
        with_reducible refine q_thenX ?_
        with_reducible refine q_inBX ?_
        refine ⟨[_, _, _] ++ ent2, ⟨.slice sp2 _ sc2, ent2, ?_, rfl⟩, M.perm (by rw [List.append_assoc]; exact List.Perm.append_left [_, _, _] List.perm_append_comm)⟩
        rw [hs', List.map_append, List.length_append]; exact hO
      · have hs' : fall st len (pre ++ [(x1, x2)]) = bs := by rw [hstep]; simp [fstep, hin, hst]
        with_reducible refine c_block ?_
        with_reducible refine c_seq ?_
        with_reducible refine c_seq ?_
        with_reducible refine c_region ?_
        refine stepD rfl F rfl (o_load1 M (F.ev rfl) (by repeat (first | exact .here | apply Has.there)) (by first | assumption | rfl) ?_); clear F; clear a; intro a F
        refine stepD rfl F rfl (o_geqT (F.ev rfl) (F.ev rfl) (by omega) ?_); clear F; clear a; intro a F
        refine stepD rfl F rfl (o_move (F.ev rfl) ?_); clear F; clear a; intro a F
        refine stepG rfl F rfl rfl rfl (o_move (F.ev rfl) ?_); clear F; clear a; intro a F
        refine stepG rfl F rfl rfl rfl (o_load1 M (F.ev rfl) (by repeat (first | exact .here | apply Has.there)) (by first | assumption | rfl) ?_); clear F; clear a; intro a F
        refine stepG rfl F rfl rfl rfl (o_geqT (F.ev rfl) (F.ev rfl) (by omega) ?_); clear F; clear a; intro a F
        refine stepD rfl F rfl (o_pickT (F.ev rfl) (F.ev rfl) ?_); clear F; clear a; intro a F
        refine stepD rfl F rfl (o_move (F.ev rfl) ?_); clear F; clear a; intro a F
        refine stepG rfl F rfl rfl rfl (o_move (F.ev rfl) ?_); clear F; clear a; intro a F
        refine stepG rfl F rfl rfl rfl (o_load1 M (F.ev rfl) (by repeat (first | exact .here | apply Has.there)) (by first | assumption | rfl) ?_); clear F; clear a; intro a F
        refine stepG rfl F rfl rfl rfl (o_load1 M (F.ev rfl) (by repeat (first | exact .here | apply Has.there)) (by first | assumption | rfl) ?_); clear F; clear a; intro a F
        refine stepG rfl F rfl rfl rfl (o_add (F.ev rfl) (F.ev rfl) (w_i64 (by omega) (by omega)) ?_); clear F; clear a; intro a F
        refine stepG rfl F rfl rfl rfl (o_lssT (F.ev rfl) (F.ev rfl) (by omega) ?_); clear F; clear a; intro a F
        refine stepD rfl F rfl (o_pickT (F.ev rfl) (F.ev rfl) ?_); clear F; clear a; intro a F
        with_reducible refine l_nil ?_
        with_reducible refine q_then ?_
        refine c_true F rfl rfl ?_
        with_reducible refine c_seq ?_
        with_reducible refine c_seq ?_
        with_reducible refine c_region ?_
        refine stepD rfl F rfl (o_move (F.ev rfl) ?_); clear F; clear a; intro a F
        refine stepD rfl F rfl (o_load1 M (F.ev rfl) (by repeat (first | exact .here | apply Has.there)) (by first | assumption | rfl) ?_); clear F; clear a; intro a F
        refine stepD rfl F rfl (o_eqlF (F.ev rfl) (F.ev rfl) (by omega) ?_); clear F; clear a; intro a F
        with_reducible refine l_nil ?_
        with_reducible refine q_then ?_
        refine c_false F rfl rfl ?_
        with_reducible refine c_skip ?_
        with_reducible refine q_then ?_
        with_reducible refine c_exit ?_
        with_reducible refine q_thenX ?_
        with_reducible refine q_inBX ?_
        refine ⟨[_, _, _] ++ ent, ⟨.slice sp bs.length sc, ent, ?_, rfl⟩, ?_⟩
        · rw [hs']; exact hO
        · exact M.perm (by rw [List.append_assoc]; exact List.Perm.append_left [_, _, _] List.perm_append_comm)
    · have hs' : fall st len (pre ++ [(x1, x2)]) = fsep bs ++ hexI x2 := by rw [hstep]; simp [fstep, hin]
      have h3 : len < 2 ∨ (2 ≤ len ∧ x1 < st) ∨ (2 ≤ len ∧ st ≤ x1 ∧ st + len ≤ x1) := by unfold inRun at hin; omega
      rcases h3 with h3 | ⟨h3, h4⟩ | ⟨h3, h4, h5⟩
      all_goals
        by_cases hb0 : bs.length = 0
        · have hfs : fsep bs = bs := by
            obtain rfl := List.length_eq_zero_iff.1 hb0
            rfl
          repeat (first | (with_reducible refine c_seq ?_) | (with_reducible refine c_region ?_) | (with_reducible refine l_nil ?_) | (with_reducible refine q_then ?_) | (with_reducible refine c_block ?_) | (with_reducible refine c_skip ?_) | (refine c_false F rfl rfl ?_) | (refine stepD rfl F rfl (o_move (F.ev rfl) ?_); clear F; clear a; intro a F) | (refine stepD rfl F rfl (o_gtrF (F.ev rfl) (F.ev rfl) (by omega) ?_); clear F; clear a; intro a F) | (refine stepD rfl F rfl (o_geqT (F.ev rfl) (F.ev rfl) (by omega) ?_); clear F; clear a; intro a F) | (refine stepD rfl F rfl (o_geqF (F.ev rfl) (F.ev rfl) (by omega) ?_); clear F; clear a; intro a F) | (refine stepD rfl F rfl (o_conv (F.ev rfl) (w_u64 (by omega) (by omega)) ?_); clear F; clear a; intro a F) | (refine stepD rfl F rfl (o_pickT (F.ev rfl) (F.ev rfl) ?_); clear F; clear a; intro a F) | (refine stepD rfl F rfl (o_pickF (F.ev rfl) (F.ev rfl) ?_); clear F; clear a; intro a F) | (refine stepD rfl F rfl (o_lenSl (F.ev rfl) ?_); clear F; clear a; intro a F) | (refine stepD rfl F rfl (o_load1 M (F.ev rfl) (by repeat (first | exact .here | apply Has.there)) (by first | assumption | rfl) ?_); clear F; clear a; intro a F) | (refine stepOff F rfl rfl rfl rfl ?_; clear F; clear a; intro a F) | (refine stepG rfl F rfl rfl rfl (o_move (F.ev rfl) ?_); clear F; clear a; intro a F) | (refine stepG rfl F rfl rfl rfl (o_lssF (F.ev rfl) (F.ev rfl) (by omega) ?_); clear F; clear a; intro a F) | (refine stepG rfl F rfl rfl rfl (o_geqT (F.ev rfl) (F.ev rfl) (by omega) ?_); clear F; clear a; intro a F) | (refine stepG rfl F rfl rfl rfl (o_geqF (F.ev rfl) (F.ev rfl) (by omega) ?_); clear F; clear a; intro a F) | (refine stepG rfl F rfl rfl rfl (o_add (F.ev rfl) (F.ev rfl) (w_i64 (by omega) (by omega)) ?_); clear F; clear a; intro a F) | (refine stepG rfl F rfl rfl rfl (o_load1 M (F.ev rfl) (by repeat (first | exact .here | apply Has.there)) (by first | assumption | rfl) ?_); clear F; clear a; intro a F))
          (refine stepD rfl F rfl (o_call (F.ev rfl) (F.evs rfl) (Cal.mono (appendUint_c hO M (.cons (.cons (.cons (.app .here)))) hgb.1 hgb.2 (by first | omega | (simp; omega)) hG (by simp)) ?_)); clear F; clear M; clear hO; clear a; rintro v2 w ⟨ent2, hO, M⟩ a F; (try dsimp only at M))
          skip
          obtain ⟨sp2, sc2, rfl⟩ := hO.slice
          (refine stepN rfl F (o_store1 M (F.ev rfl) (F.ev rfl) rfl (by repeat (first | exact .here | apply Has.there)) (by rfl) (by repeat (first | exact .here | apply Upd.there)) ?_); clear F; clear M; intro w M a F)
          repeat (first | (with_reducible refine l_nil ?_) | (with_reducible refine q_inB ?_))
          refine ⟨[_, _, _] ++ ent2, ⟨.slice sp2 _ sc2, ent2, ?_, rfl⟩, M.perm (by rw [List.append_assoc]; exact List.Perm.append_left [_, _, _] List.perm_append_comm)⟩
          rw [hs', show (fsep bs ++ hexI x2).length = (fsep bs).length + (hexI x2).length from List.length_append, hfs]; exact hO
        · have hne : bs ≠ [] := fun e => hb0 (by rw [e]; rfl)
          have hOk := hO
          rcases hOk with ⟨_, h0, _, _⟩ | ⟨bf, capf, junkf, hv, rfl, hxl, hjl, hcc⟩
          · omega
          cases hv
          have M' := M.perm (l' := (b5, .cells [.slice (some ⟨bf, 0, none⟩) bs.length sc].toArray 26 (0, 0)) :: (b4, .cells [.int .i64 len].toArray 3 (0, 0)) :: (b3, .cells [.int .i64 st].toArray 3 (0, 0)) :: ([(bf, .cells (bs.map (Value.int .u8) ++ junkf).toArray 5 (0, 0))] ++ p)) (by exact List.Perm.append_left [_, _, _] List.perm_append_comm)
          by_cases hlast : bs.getD (bs.length - 1) 0 = 58
          · have hfs : fsep bs = bs := by unfold fsep; rw [if_neg (by simp only [hlast]; simp)]
            repeat (first | (with_reducible refine c_seq ?_) | (with_reducible refine c_region ?_) | (with_reducible refine l_nil ?_) | (with_reducible refine q_then ?_) | (with_reducible refine c_block ?_) | (with_reducible refine c_skip ?_) | (refine c_false F rfl rfl ?_) | (refine stepD rfl F rfl (o_move (F.ev rfl) ?_); clear F; clear a; intro a F) | (refine stepD rfl F rfl (o_gtrT (F.ev rfl) (F.ev rfl) (by omega) ?_); clear F; clear a; intro a F) | (refine stepD rfl F rfl (o_geqT (F.ev rfl) (F.ev rfl) (by omega) ?_); clear F; clear a; intro a F) | (refine stepD rfl F rfl (o_geqF (F.ev rfl) (F.ev rfl) (by omega) ?_); clear F; clear a; intro a F) | (refine stepD rfl F rfl (o_pickT (F.ev rfl) (F.ev rfl) ?_); clear F; clear a; intro a F) | (refine stepD rfl F rfl (o_pickF (F.ev rfl) (F.ev rfl) ?_); clear F; clear a; intro a F) | (refine stepD rfl F rfl (o_lenSl (F.ev rfl) ?_); clear F; clear a; intro a F) | (refine stepD rfl F rfl (o_load1 M (F.ev rfl) (by repeat (first | exact .here | apply Has.there)) (by first | assumption | rfl) ?_); clear F; clear a; intro a F) | (refine stepOff F rfl rfl rfl rfl ?_; clear F; clear a; intro a F) | (refine stepG rfl F rfl rfl rfl (o_move (F.ev rfl) ?_); clear F; clear a; intro a F) | (refine stepG rfl F rfl rfl rfl (o_lssF (F.ev rfl) (F.ev rfl) (by omega) ?_); clear F; clear a; intro a F) | (refine stepG rfl F rfl rfl rfl (o_geqT (F.ev rfl) (F.ev rfl) (by omega) ?_); clear F; clear a; intro a F) | (refine stepG rfl F rfl rfl rfl (o_geqF (F.ev rfl) (F.ev rfl) (by omega) ?_); clear F; clear a; intro a F) | (refine stepG rfl F rfl rfl rfl (o_add (F.ev rfl) (F.ev rfl) (w_i64 (by omega) (by omega)) ?_); clear F; clear a; intro a F) | (refine stepG rfl F rfl rfl rfl (o_sub (F.ev rfl) (F.ev rfl) (w_i64 (by omega) (by omega)) ?_); clear F; clear a; intro a F) | (refine stepG rfl F rfl rfl rfl (o_lenSl (F.ev rfl) ?_); clear F; clear a; intro a F) | (refine stepG rfl F rfl rfl rfl (o_indexSl (F.ev rfl) (F.ev rfl) (by omega) (by omega) ?_); clear F; clear a; intro a F) | (refine stepG rfl F rfl rfl rfl (o_load1 M (F.ev rfl) (by repeat (first | exact .here | apply Has.there)) (by first | assumption | rfl) ?_); clear F; clear a; intro a F))
            (refine stepG rfl F rfl rfl rfl (o_load1 M' (F.ev rfl) (.there (.there (.there .here))) (nth_last (by omega) (by omega)) ?_); clear F; clear a; intro a F)
            clear M'
            repeat (first | (with_reducible refine c_region ?_) | (with_reducible refine l_nil ?_) | (with_reducible refine q_then ?_) | (with_reducible refine c_skip ?_) | (refine c_false F rfl rfl ?_) | (refine stepD rfl F rfl (o_move (F.ev rfl) ?_); clear F; clear a; intro a F) | (refine stepD rfl F rfl (o_conv (F.ev rfl) (w_u64 (by omega) (by omega)) ?_); clear F; clear a; intro a F) | (refine stepD rfl F rfl (o_pickT (F.ev rfl) (F.ev rfl) ?_); clear F; clear a; intro a F) | (refine stepD rfl F rfl (o_load1 M (F.ev rfl) (by repeat (first | exact .here | apply Has.there)) (by first | assumption | rfl) ?_); clear F; clear a; intro a F) | (refine stepG rfl F rfl rfl rfl (o_neqF (F.ev rfl) (F.ev rfl) (by omega) ?_); clear F; clear a; intro a F))
            (refine stepD rfl F rfl (o_call (F.ev rfl) (F.evs rfl) (Cal.mono (appendUint_c hO M (.cons (.cons (.cons (.app .here)))) hgb.1 hgb.2 (by first | omega | (simp; omega)) hG (by simp)) ?_)); clear F; clear M; clear hO; clear a; rintro v2 w ⟨ent2, hO, M⟩ a F; (try dsimp only at M))
            skip
            obtain ⟨sp2, sc2, rfl⟩ := hO.slice
            (refine stepN rfl F (o_store1 M (F.ev rfl) (F.ev rfl) rfl (by repeat (first | exact .here | apply Has.there)) (by rfl) (by repeat (first | exact .here | apply Upd.there)) ?_); clear F; clear M; intro w M a F)
            repeat (first | (with_reducible refine l_nil ?_) | (with_reducible refine q_inB ?_))
            refine ⟨[_, _, _] ++ ent2, ⟨.slice sp2 _ sc2, ent2, ?_, rfl⟩, M.perm (by rw [List.append_assoc]; exact List.Perm.append_left [_, _, _] List.perm_append_comm)⟩
            rw [hs', show (fsep bs ++ hexI x2).length = (fsep bs).length + (hexI x2).length from List.length_append, hfs]; exact hO
          · have hfs : fsep bs = bs ++ [58] := by unfold fsep; rw [if_pos ⟨hne, hlast⟩]
            repeat (first | (with_reducible refine c_seq ?_) | (with_reducible refine c_region ?_) | (with_reducible refine l_nil ?_) | (with_reducible refine q_then ?_) | (with_reducible refine c_block ?_) | (with_reducible refine c_skip ?_) | (refine c_false F rfl rfl ?_) | (refine stepD rfl F rfl (o_move (F.ev rfl) ?_); clear F; clear a; intro a F) | (refine stepD rfl F rfl (o_gtrT (F.ev rfl) (F.ev rfl) (by omega) ?_); clear F; clear a; intro a F) | (refine stepD rfl F rfl (o_geqT (F.ev rfl) (F.ev rfl) (by omega) ?_); clear F; clear a; intro a F) | (refine stepD rfl F rfl (o_geqF (F.ev rfl) (F.ev rfl) (by omega) ?_); clear F; clear a; intro a F) | (refine stepD rfl F rfl (o_pickT (F.ev rfl) (F.ev rfl) ?_); clear F; clear a; intro a F) | (refine stepD rfl F rfl (o_pickF (F.ev rfl) (F.ev rfl) ?_); clear F; clear a; intro a F) | (refine stepD rfl F rfl (o_lenSl (F.ev rfl) ?_); clear F; clear a; intro a F) | (refine stepD rfl F rfl (o_load1 M (F.ev rfl) (by repeat (first | exact .here | apply Has.there)) (by first | assumption | rfl) ?_); clear F; clear a; intro a F) | (refine stepOff F rfl rfl rfl rfl ?_; clear F; clear a; intro a F) | (refine stepG rfl F rfl rfl rfl (o_move (F.ev rfl) ?_); clear F; clear a; intro a F) | (refine stepG rfl F rfl rfl rfl (o_lssF (F.ev rfl) (F.ev rfl) (by omega) ?_); clear F; clear a; intro a F) | (refine stepG rfl F rfl rfl rfl (o_geqT (F.ev rfl) (F.ev rfl) (by omega) ?_); clear F; clear a; intro a F) | (refine stepG rfl F rfl rfl rfl (o_geqF (F.ev rfl) (F.ev rfl) (by omega) ?_); clear F; clear a; intro a F) | (refine stepG rfl F rfl rfl rfl (o_add (F.ev rfl) (F.ev rfl) (w_i64 (by omega) (by omega)) ?_); clear F; clear a; intro a F) | (refine stepG rfl F rfl rfl rfl (o_sub (F.ev rfl) (F.ev rfl) (w_i64 (by omega) (by omega)) ?_); clear F; clear a; intro a F) | (refine stepG rfl F rfl rfl rfl (o_lenSl (F.ev rfl) ?_); clear F; clear a; intro a F) | (refine stepG rfl F rfl rfl rfl (o_indexSl (F.ev rfl) (F.ev rfl) (by omega) (by omega) ?_); clear F; clear a; intro a F) | (refine stepG rfl F rfl rfl rfl (o_load1 M (F.ev rfl) (by repeat (first | exact .here | apply Has.there)) (by first | assumption | rfl) ?_); clear F; clear a; intro a F))
            (refine stepG rfl F rfl rfl rfl (o_load1 M' (F.ev rfl) (.there (.there (.there .here))) (nth_last (by omega) (by omega)) ?_); clear F; clear a; intro a F)
            clear M'
            repeat (first | (with_reducible refine c_region ?_) | (with_reducible refine l_nil ?_) | (with_reducible refine q_then ?_) | (refine c_true F rfl rfl ?_) | (refine stepD rfl F rfl (o_pickT (F.ev rfl) (F.ev rfl) ?_); clear F; clear a; intro a F) | (refine stepD rfl F rfl (o_load1 M (F.ev rfl) (by repeat (first | exact .here | apply Has.there)) (by first | assumption | rfl) ?_); clear F; clear a; intro a F) | (refine stepG rfl F rfl rfl rfl (o_neqT (F.ev rfl) (F.ev rfl) (by omega) ?_); clear F; clear a; intro a F))
            (refine stepD rfl F rfl (o_buildSlice F M rfl rfl rfl rfl ?_); clear F; clear M; intro b49 w M a F)
            (refine stepD rfl F rfl (o_append hO M (.cons (.cons (.cons (.cons (.app .here))))) (F.ev rfl) (F.ev rfl) (SrcOf.cells' (M.heap .here) rfl rfl) (by first | omega | (simp; omega)) (by first | omega | (simp; omega)) ?_); clear F; clear M; clear hO; intro v3 ent3 w hO M a F; (try dsimp only at M))
            obtain ⟨sp3, sc3, rfl⟩ := hO.slice
            replace hO : OwnS 5 1 (.slice sp3 (bs.length + 1) sc3) (bs ++ [58]).length ((bs ++ [58]).map (Value.int .u8)) ent3 := by rw [List.map_append, List.length_append]; exact hO
            replace M := M.sub (List.sublist_cons_self _ _)
            (refine stepN rfl F (o_store1 M (F.ev rfl) (F.ev rfl) rfl (by repeat (first | exact .here | apply Has.there)) (by rfl) (by repeat (first | exact .here | apply Upd.there)) ?_); clear F; clear M; intro w M a F)
            repeat (first | (with_reducible refine c_region ?_) | (with_reducible refine l_nil ?_) | (with_reducible refine q_then ?_) | (refine stepD rfl F rfl (o_move (F.ev rfl) ?_); clear F; clear a; intro a F) | (refine stepD rfl F rfl (o_conv (F.ev rfl) (w_u64 (by omega) (by omega)) ?_); clear F; clear a; intro a F) | (refine stepD rfl F rfl (o_load1 M (F.ev rfl) (by repeat (first | exact .here | apply Has.there)) (by first | assumption | rfl) ?_); clear F; clear a; intro a F))
            (refine stepD rfl F rfl (o_call (F.ev rfl) (F.evs rfl) (Cal.mono (appendUint_c hO M (.cons (.cons (.cons (.app .here)))) hgb.1 hgb.2 (by first | omega | (simp; omega)) hG (by simp)) ?_)); clear F; clear M; clear hO; clear a; rintro v2 w ⟨ent2, hO, M⟩ a F; (try dsimp only at M))
            skip
            obtain ⟨sp2, sc2, rfl⟩ := hO.slice
            (refine stepN rfl F (o_store1 M (F.ev rfl) (F.ev rfl) rfl (by repeat (first | exact .here | apply Has.there)) (by rfl) (by repeat (first | exact .here | apply Upd.there)) ?_); clear F; clear M; intro w M a F)
            repeat (first | (with_reducible refine l_nil ?_) | (with_reducible refine q_inB ?_))
            refine ⟨[_, _, _] ++ ent2, ⟨.slice sp2 _ sc2, ent2, ?_, rfl⟩, M.perm (by rw [List.append_assoc]; exact List.Perm.append_left [_, _, _] List.perm_append_comm)⟩
            rw [hs', show (fsep bs ++ hexI x2).length = (fsep bs).length + (hexI x2).length from List.length_append, hfs]; exact hO
  case done =>
    clear F M
    rintro D xs _ p w a rfl ⟨sv, ent, hO, rfl⟩ M F
    obtain ⟨sp, sc, rfl⟩ := hO.slice
    replace M := M.perm (l' := (D, .deferred (some [])) :: (b5, .cells [.slice sp (fall st len (grps ip)).length sc].toArray 26 (0, 0)) :: (b4, .cells [.int .i64 len].toArray 3 (0, 0)) :: (b3, .cells [.int .i64 st].toArray 3 (0, 0)) :: (p ++ ent)) (by rw [List.append_assoc]; exact List.Perm.append_left [_, _, _, _] List.perm_append_comm)
    with_reducible refine q_inB ?_
    with_reducible refine q_then ?_
    with_reducible refine c_seq ?_
    with_reducible refine c_region ?_
    refine stepD rfl F rfl (o_load1 M (F.ev rfl) (by repeat (first | exact .here | apply Has.there)) (by first | assumption | rfl) ?_); clear F; clear a; intro a F
    (refine stepD rfl F rfl (o_convOS hO M (.cons (.cons (.cons (.cons (.app .here))))) (F.ev rfl) ?_); clear F; clear a; intro a F)
    refine stepD rfl F rfl (o_assign (F.ev rfl) ?_); clear F; clear a; intro a F
    with_reducible refine l_nil ?_
    with_reducible refine q_then ?_
    with_reducible refine c_ret ?_
    refine p_ret1 F M .here rfl fun w' M' => ⟨.cons (.tmp (F.ev rfl)) .nil, rfl, M'.ext⟩
  case stop => exact fun _ _ _ _ _ _ _ h => h.elim
end Go.Proofs.YtadnpidadcgdcaaDoor

/-! P9 -/
/-
  multihoplaw04.known.
-/
namespace Go.Proofs.YtadnpidadcgdcaaDoor
set_option linter.unusedVariables false
set_option linter.unusedSimpArgs false
open Go.RowKit
attribute [local irreducible] OpTo wpListIn Code.wpIn MW Cal

def kText : List UInt8 := [50, 48, 48, 49, 58, 68, 66, 56, 58, 48, 58, 48, 58, 49, 58, 48, 58, 48, 58, 49]
def kIP : List Int := [32, 1, 13, 184, 0, 0, 0, 0, 0, 1, 0, 0, 0, 0, 0, 1]
theorem k_parse : parseIPV kText = some kIP := by kernel_rfl
theorem k_format : txt (formatI kIP) = [50, 48, 48, 49, 58, 100, 98, 56, 58, 58, 49, 58, 48, 58, 48, 58, 49] := by kernel_rfl
theorem k_ip : IsIP kIP := ⟨rfl, by decide⟩

set_option maxHeartbeats 400000 in
theorem known_c (W : World) (hM : GM W) (hG : GT W) : Cal Tryd.prog 16 [].toArray W fun v w' => v = .bool true ∧ Ext [] W w' := by
  refine fn_ofM (n := 13) [] Tryd.func16 rfl rfl rfl ?_
  intro a w F M hwW
  with_reducible refine c_seq ?_
  with_reducible refine c_region ?_
  refine stepD rfl F rfl (o_assign (F.ev rfl) ?_); clear F; clear a; intro a F
  with_reducible refine l_nil ?_
  with_reducible refine q_then ?_
  with_reducible refine c_seq ?_
  with_reducible refine c_region ?_
  (refine stepD rfl F rfl (o_call (F.ev rfl) (F.evs rfl) (Cal.mono (parseIP_c kText (by decide) _ (hM.later M.ext)) ?_)); clear F; clear a; rintro _ w ⟨rfl, hE⟩ a F; replace M := M.later hE; clear hE)
  rw [k_parse] at F
  refine stepD rfl F rfl (o_move (F.ev rfl) ?_); clear F; clear a; intro a F
  refine stepD rfl F rfl (o_extract (F.ev rfl) rfl ?_); clear F; clear a; intro a F
  refine stepD rfl F rfl (o_extract (F.ev rfl) rfl ?_); clear F; clear a; intro a F
  (refine stepD rfl F rfl (o_alloc M ?_); clear F; clear M; intro b1 w M a F)
  (refine stepN rfl F (o_storeA M (F.ev rfl) (F.ev rfl) (by rfl) (by rfl) (by repeat (first | exact .here | apply Has.there)) (by rfl) (by repeat (first | exact .here | apply Upd.there)) ?_); clear F; clear M; intro w M a F)
  refine stepD rfl F rfl (o_assign (F.ev rfl) ?_); clear F; clear a; intro a F
  with_reducible refine l_nil ?_
  with_reducible refine q_then ?_
  with_reducible refine c_seq ?_
  with_reducible refine c_region ?_
  refine stepD rfl F rfl (o_move (F.ev rfl) ?_); clear F; clear a; intro a F
  refine stepD rfl F rfl (o_move (F.ev rfl) ?_); clear F; clear a; intro a F
  refine stepG rfl F rfl rfl rfl (o_loadA M (F.ev rfl) (by repeat (first | exact .here | apply Has.there)) (by first | assumption | rfl) ?_); clear F; clear a; intro a F
  (refine stepG rfl F rfl rfl rfl (o_call (F.ev rfl) (F.evs rfl) (Cal.mono (formatIP_c kIP k_ip _ (hG.later M.ext)) ?_)); clear F; clear a; rintro _ w ⟨rfl, hE⟩ a F; replace M := M.later hE; clear hE)
  rw [k_format] at F
  refine stepG rfl F rfl rfl rfl (s_eql (F.ev rfl) (F.ev rfl) ?_); clear F; clear a; intro a F
  refine stepD rfl F rfl (o_pickT (F.ev rfl) (F.ev rfl) ?_); clear F; clear a; intro a F
  refine stepD rfl F rfl (o_assign (F.ev rfl) ?_); clear F; clear a; intro a F
  with_reducible refine l_nil ?_
  with_reducible refine q_then ?_
  with_reducible refine c_ret ?_
  refine p_ret F rfl (.cons (.tmp (F.ev rfl)) .nil) ?_
  exact ⟨rfl, M.ext⟩
end Go.Proofs.YtadnpidadcgdcaaDoor

/-! Q1 -/
/-
  multihopmade.Mod, address.ValidPrefix, Contains, Covers, Common.
-/
namespace Go.Proofs.YtadnpidadcgdcaaDoor
set_option linter.unusedVariables false
set_option linter.unusedSimpArgs false
open Go.RowKit
attribute [local irreducible] OpTo wpListIn Code.wpIn MW Cal

theorem len16 {l : List Int} (h : l.length = 16) : ∃ x0 x1 x2 x3 x4 x5 x6 x7 x8 x9 x10 x11 x12 x13 x14 x15 : Int, l = [x0, x1, x2, x3, x4, x5, x6, x7, x8, x9, x10, x11, x12, x13, x14, x15] :=
  match l, h with
  | [x0, x1, x2, x3, x4, x5, x6, x7, x8, x9, x10, x11, x12, x13, x14, x15], _ => ⟨x0, x1, x2, x3, x4, x5, x6, x7, x8, x9, x10, x11, x12, x13, x14, x15, rfl⟩
def maskI (a : List Int) (n : Int) : List Int := (List.range 16).map (maskAt a n)
def pfC (a : List Int) (n : Int) : List Value := ipC a ++ [.int .i64 n]
def validP (a : List Int) (n : Int) : Bool := decide (0 ≤ n) && decide (n ≤ 128) && (maskI a n == a)
def containsP (p : List Int) (n : Int) (a : List Int) : Bool := validP p n && (maskI a n == p)
def coversP (p : List Int) (n : Int) (q : List Int) (m : Int) : Bool := validP q m && containsP p n q && decide (n ≤ m)
theorem maskI_len (a : List Int) (n : Int) : (maskI a n).length = 16 := by simp [maskI]
theorem mrow_pf (a : List Int) (n : Int) : mrow a n 16 = pfC (maskI a n) n := by
  unfold mrow pfC maskI ipC
  rw [List.map_map]
  congr 1
theorem eqVs_ip : ∀ a b : List Int, a.length = b.length → eqVs (ipC a) (ipC b) = (a == b)
  | [], [], _ => rfl
  | x :: a, y :: b, h => by
    have := eqVs_ip a b (by simpa using h)
    simp only [ipC] at this
    simp [ipC, eqVs, eqV, this]
theorem eqVs_pf {a b : List Int} {n m : Int} (h : a.length = b.length) : eqVs (pfC a n) (pfC b m) = (a == b && n == m) := by
  unfold pfC
  rw [eqVs_append _ _ _ _ (by simp [ipC, h]), eqVs_ip a b h]
  simp [eqVs, eqV]

/-- the remainder that is not negative -/
def modI (a n : Int) : Int := if a.tmod n < 0 then a.tmod n + n else a.tmod n
theorem mod_c (x n : Int) (hn : 0 < n) (hn2 : n ≤ 9223372036854775807) (W : World) : Cal Tryd.prog 12 [.int .i64 x, .int .i64 n].toArray W fun v w' => v = .int .i64 (modI x n) ∧ Ext [] W w' := by
  have hr := Int.tmod_lt_of_pos x hn
  have hr2 : -n < x.tmod n := by have := Int.tmod_lt_of_pos (-x) hn; rw [Int.neg_tmod] at this; omega
  unfold modI
  refine fn_ofM (n := 14) [] Tryd.func12 rfl rfl rfl ?_
  intro a w F M hwW
  with_reducible refine c_seq ?_
  with_reducible refine c_region ?_
  refine stepD rfl F rfl (o_assign (F.ev rfl) ?_); clear F; clear a; intro a F
  with_reducible refine l_nil ?_
  with_reducible refine q_then ?_
  with_reducible refine c_seq ?_
  with_reducible refine c_region ?_
  refine stepD rfl F rfl (o_move (F.ev rfl) ?_); clear F; clear a; intro a F
  refine stepD rfl F rfl (o_move (F.ev rfl) ?_); clear F; clear a; intro a F
  refine stepD rfl F rfl (o_rem (F.ev rfl) (F.ev rfl) (by omega) rfl ?_); clear F; clear a; intro a F
  refine stepD rfl F rfl (o_assign (F.ev rfl) ?_); clear F; clear a; intro a F
  with_reducible refine l_nil ?_
  with_reducible refine q_then ?_
  with_reducible refine c_seq ?_
  with_reducible refine c_seq ?_
  with_reducible refine c_region ?_
  refine stepD rfl F rfl (o_move (F.ev rfl) ?_); clear F; clear a; intro a F
  refine stepD rfl F rfl (o_lss (F.ev rfl) (F.ev rfl) ?_); clear F; clear a; intro a F
  with_reducible refine l_nil ?_
  with_reducible refine q_then ?_
  generalize x.tmod n = r at *
  refine c_if F rfl (fun hc => ?_) (fun hc => ?_)
  · replace hc := of_decide_eq_true hc
    rw [if_pos hc]
    with_reducible refine c_region ?_
    refine stepD rfl F rfl (o_move (F.ev rfl) ?_); clear F; clear a; intro a F
    refine stepD rfl F rfl (o_move (F.ev rfl) ?_); clear F; clear a; intro a F
    refine stepD rfl F rfl (o_add (F.ev rfl) (F.ev rfl) (w_i64 (by omega) (by omega)) ?_); clear F; clear a; intro a F
    refine stepD rfl F rfl (o_assign (F.ev rfl) ?_); clear F; clear a; intro a F
    with_reducible refine l_nil ?_
    with_reducible refine q_then ?_
    with_reducible refine c_seq ?_
    with_reducible refine c_region ?_
    refine stepD rfl F rfl (o_move (F.ev rfl) ?_); clear F; clear a; intro a F
    refine stepD rfl F rfl (o_assign (F.ev rfl) ?_); clear F; clear a; intro a F
    with_reducible refine l_nil ?_
    with_reducible refine q_then ?_
    with_reducible refine c_ret ?_
    refine p_ret F rfl (.cons (.tmp (F.ev rfl)) .nil) ?_
    exact ⟨rfl, M.ext⟩
  · replace hc := of_decide_eq_false hc
    rw [if_neg hc]
    with_reducible refine c_skip ?_
    with_reducible refine q_then ?_
    with_reducible refine c_seq ?_
    with_reducible refine c_region ?_
    refine stepD rfl F rfl (o_move (F.ev rfl) ?_); clear F; clear a; intro a F
    refine stepD rfl F rfl (o_assign (F.ev rfl) ?_); clear F; clear a; intro a F
    with_reducible refine l_nil ?_
    with_reducible refine q_then ?_
    with_reducible refine c_ret ?_
    refine p_ret F rfl (.cons (.tmp (F.ev rfl)) .nil) ?_
    exact ⟨rfl, M.ext⟩
theorem clamp_in {n : Int} (h0 : 0 ≤ n) (h1 : n ≤ 128) : clampB n = n := by unfold clampB; rw [if_neg (show ¬ n < 0 by omega), if_neg (by omega)]
theorem maskP_c (a : List Int) (ha : a.length = 16) (n : Int) (W : World) : Cal Tryd.prog 18 [.agg (ipC a).toArray, .int .i64 n].toArray W fun v w' => v = .agg (pfC (maskI a (clampB n)) (clampB n)).toArray ∧ Ext [] W w' :=
  (mask_c a ha n W).mono fun v w' h => ⟨by rw [h.1, mrow_pf], h.2⟩
theorem maskIn_c (a : List Int) (ha : a.length = 16) (n : Int) (h0 : 0 ≤ n) (h1 : n ≤ 128) (W : World) : Cal Tryd.prog 18 [.agg (ipC a).toArray, .int .i64 n].toArray W fun v w' => v = .agg (pfC (maskI a n) n).toArray ∧ Ext [] W w' :=
  (maskP_c a ha n W).mono fun v w' h => ⟨by rw [h.1, clamp_in h0 h1], h.2⟩

def pfK : List LK := [.i .u8, .i .u8, .i .u8, .i .u8, .i .u8, .i .u8, .i .u8, .i .u8, .i .u8, .i .u8, .i .u8, .i .u8, .i .u8, .i .u8, .i .u8, .i .u8, .i .i64]
theorem fits_pf {a : List Int} (ha : a.length = 16) (n : Int) : fitsK pfK (pfC a n) = true := by
  obtain ⟨x0, x1, x2, x3, x4, x5, x6, x7, x8, x9, x10, x11, x12, x13, x14, x15, rfl⟩ := len16 ha
  rfl
theorem seg_all {xs : List Value} {k : Nat} (h : xs.length = k) : seg xs 0 k = some xs := by
  have h1 := seg_of [] xs []
  rw [h] at h1
  simpa using h1
theorem pfC_len {a : List Int} (ha : a.length = 16) (n : Int) : (pfC a n).length = 17 := by simp [pfC, ipC, ha]
theorem ipC_len {a : List Int} (ha : a.length = 16) : (ipC a).length = 16 := by simp [ipC, ha]
theorem seg_pf {a : List Int} (ha : a.length = 16) (n : Int) : seg (pfC a n) 0 17 = some (pfC a n) := seg_all (pfC_len ha n)
theorem seg_pf0 {a : List Int} (ha : a.length = 16) (n : Int) : seg (pfC a n) 0 16 = some (ipC a) := by
  have h1 := seg_of [] (ipC a) [.int .i64 n]
  rw [ipC_len ha] at h1
  simpa [pfC] using h1
theorem nth_pf {a : List Int} (ha : a.length = 16) (n : Int) : nth (pfC a n) 16 = some (.int .i64 n) := by
  rw [nth_spec]; simp [pfC, ipC, ha]

set_option maxHeartbeats 2000000 in
theorem validPrefix_c (p : List Int) (n : Int) (hp : p.length = 16) (W : World) : Cal Tryd.prog 19 [.agg (pfC p n).toArray].toArray W fun v w' => v = .bool (validP p n) ∧ Ext [] W w' := by
  have e1 := seg_pf hp n
  have e2 := seg_pf0 hp n
  have e3 := nth_pf hp n
  have e4 := fits_pf hp n
  have e5 := fits_pf (maskI_len p n) n
  refine fn_ofM (n := 20) [] Tryd.func19 rfl rfl rfl ?_
  intro a w F M hwW
  refine c_seq ?_
  refine c_region ?_
  (refine stepD rfl F rfl (o_box M (F.ev rfl) rfl ?_); clear F; clear M; intro b1 w M a F)
  refine stepD rfl F rfl (o_assign (F.ev rfl) ?_); clear F; clear a; intro a F
  with_reducible refine l_nil ?_
  with_reducible refine q_then ?_
  with_reducible refine c_seq ?_
  replace F := F.only [1] rfl
  by_cases h0 : 0 ≤ n
  · by_cases h1 : n ≤ 128
    · refine c_draw 18 F (by kernel_rfl) ?_
      intro w1 hE hok
      have M1 := M.later hE
      refine mK hok rfl rfl (fun a' w' F' E' => o_fieldAddr (F'.ev rfl) ⟨Ext.refl _ _, rfl⟩) ?_
      refine mK hok rfl rfl (fun a' w' F' E' => o_load1 (M1.later E') (F'.ev rfl) (by repeat (first | exact .here | apply Has.there)) (by first | assumption | rfl) ⟨Ext.refl _ _, rfl⟩) ?_
      refine mK hok rfl rfl (fun a' w' F' E' => o_geqT (F'.ev rfl) (F'.ev rfl) (by omega) ⟨Ext.refl _ _, rfl⟩) ?_
      refine mK hok rfl rfl (fun a' w' F' E' => o_move (F'.ev rfl) ⟨Ext.refl _ _, rfl⟩) ?_
      refine mKG hok rfl rfl rfl rfl (fun a' w' F' E' => o_fieldAddr (F'.ev rfl) ⟨Ext.refl _ _, rfl⟩) ?_
      refine mKG hok rfl rfl rfl rfl (fun a' w' F' E' => o_load1 (M1.later E') (F'.ev rfl) (by repeat (first | exact .here | apply Has.there)) (by first | assumption | rfl) ⟨Ext.refl _ _, rfl⟩) ?_
      refine mKG hok rfl rfl rfl rfl (fun a' w' F' E' => o_leqT (F'.ev rfl) (F'.ev rfl) (by omega) ⟨Ext.refl _ _, rfl⟩) ?_
      refine mK hok rfl rfl (fun a' w' F' E' => o_pickT (F'.ev rfl) (F'.ev rfl) ⟨Ext.refl _ _, rfl⟩) ?_
      refine mK hok rfl rfl (fun a' w' F' E' => o_move (F'.ev rfl) ⟨Ext.refl _ _, rfl⟩) ?_
      refine mKG hok rfl rfl rfl rfl (fun a' w' F' E' => o_fieldAddr (F'.ev rfl) ⟨Ext.refl _ _, rfl⟩) ?_
      refine mKG hok rfl rfl rfl rfl (fun a' w' F' E' => o_loadA (M1.later E') (F'.ev rfl) (by repeat (first | exact .here | apply Has.there)) (by first | assumption | rfl) ⟨Ext.refl _ _, rfl⟩) ?_
      refine mKG hok rfl rfl rfl rfl (fun a' w' F' E' => o_fieldAddr (F'.ev rfl) ⟨Ext.refl _ _, rfl⟩) ?_
      refine mKG hok rfl rfl rfl rfl (fun a' w' F' E' => o_load1 (M1.later E') (F'.ev rfl) (by repeat (first | exact .here | apply Has.there)) (by first | assumption | rfl) ⟨Ext.refl _ _, rfl⟩) ?_
      (refine mKG hok rfl rfl rfl rfl (fun a' w' F' E' => o_call (F'.ev rfl) (F'.evs rfl) (Cal.mono (maskIn_c p hp n h0 h1 _) fun _ _ hh => ⟨hh.2, hh.1⟩)) ?_)
      refine mKG hok rfl rfl rfl rfl (fun a' w' F' E' => o_loadA (M1.later E') (F'.ev rfl) (by repeat (first | exact .here | apply Has.there)) (by first | assumption | rfl) ⟨Ext.refl _ _, rfl⟩) ?_
      refine mKG hok rfl rfl rfl rfl (fun a' w' F' E' => o_eqlA (F'.ev rfl) (F'.ev rfl) (by first | assumption | rfl) (by first | assumption | rfl) ⟨Ext.refl _ _, rfl⟩) ?_
      refine mK hok rfl rfl (fun a' w' F' E' => o_pickT (F'.ev rfl) (F'.ev rfl) ⟨Ext.refl _ _, rfl⟩) ?_
      refine mK hok rfl rfl (fun a' w' F' E' => o_assign (F'.ev rfl) ⟨Ext.refl _ _, rfl⟩) ?_
      (refine mDone rfl rfl ?_; clear F; clear M; intro a w F hE2 hX hTT hDD hPP; have M := M1.later hE2; clear M1; clear hX; clear hE2; clear hok; clear hE; clear hTT; clear hDD; clear hPP; (try dsimp only at F))
      with_reducible refine l_nil ?_
      with_reducible refine q_then ?_
      with_reducible refine c_ret ?_
      refine p_ret F rfl (.cons (.tmp (F.ev rfl)) .nil) ?_
      refine ⟨?_, M.ext⟩
      show Value.bool _ = Value.bool _
      rw [eqVs_pf (by rw [maskI_len, hp])]
      simp [validP, h0, h1]
    · refine c_draw 18 F (by kernel_rfl) ?_
      intro w1 hE hok
      have M1 := M.later hE
      refine mK hok rfl rfl (fun a' w' F' E' => o_fieldAddr (F'.ev rfl) ⟨Ext.refl _ _, rfl⟩) ?_
      refine mK hok rfl rfl (fun a' w' F' E' => o_load1 (M1.later E') (F'.ev rfl) (by repeat (first | exact .here | apply Has.there)) (by first | assumption | rfl) ⟨Ext.refl _ _, rfl⟩) ?_
      refine mK hok rfl rfl (fun a' w' F' E' => o_geqT (F'.ev rfl) (F'.ev rfl) (by omega) ⟨Ext.refl _ _, rfl⟩) ?_
      refine mK hok rfl rfl (fun a' w' F' E' => o_move (F'.ev rfl) ⟨Ext.refl _ _, rfl⟩) ?_
      refine mKG hok rfl rfl rfl rfl (fun a' w' F' E' => o_fieldAddr (F'.ev rfl) ⟨Ext.refl _ _, rfl⟩) ?_
      refine mKG hok rfl rfl rfl rfl (fun a' w' F' E' => o_load1 (M1.later E') (F'.ev rfl) (by repeat (first | exact .here | apply Has.there)) (by first | assumption | rfl) ⟨Ext.refl _ _, rfl⟩) ?_
      refine mKG hok rfl rfl rfl rfl (fun a' w' F' E' => o_leqF (F'.ev rfl) (F'.ev rfl) (by omega) ⟨Ext.refl _ _, rfl⟩) ?_
      refine mK hok rfl rfl (fun a' w' F' E' => o_pickT (F'.ev rfl) (F'.ev rfl) ⟨Ext.refl _ _, rfl⟩) ?_
      refine mK hok rfl rfl (fun a' w' F' E' => o_move (F'.ev rfl) ⟨Ext.refl _ _, rfl⟩) ?_
      refine mOff hok rfl rfl rfl rfl rfl ?_
      refine mOff hok rfl rfl rfl rfl rfl ?_
      refine mOff hok rfl rfl rfl rfl rfl ?_
      refine mOff hok rfl rfl rfl rfl rfl ?_
      refine mOff hok rfl rfl rfl rfl rfl ?_
      refine mOff hok rfl rfl rfl rfl rfl ?_
      refine mOff hok rfl rfl rfl rfl rfl ?_
      refine mK hok rfl rfl (fun a' w' F' E' => o_pickF (F'.ev rfl) (F'.ev rfl) ⟨Ext.refl _ _, rfl⟩) ?_
      refine mK hok rfl rfl (fun a' w' F' E' => o_assign (F'.ev rfl) ⟨Ext.refl _ _, rfl⟩) ?_
      (refine mDone rfl rfl ?_; clear F; clear M; intro a w F hE2 hX hTT hDD hPP; have M := M1.later hE2; clear M1; clear hX; clear hE2; clear hok; clear hE; clear hTT; clear hDD; clear hPP; (try dsimp only at F))
      with_reducible refine l_nil ?_
      with_reducible refine q_then ?_
      with_reducible refine c_ret ?_
      refine p_ret F rfl (.cons (.tmp (F.ev rfl)) .nil) ?_
      exact ⟨by show Value.bool _ = Value.bool _; simp [validP, h1], M.ext⟩
  · refine c_draw 18 F (by kernel_rfl) ?_
    intro w1 hE hok
    have M1 := M.later hE
    refine mK hok rfl rfl (fun a' w' F' E' => o_fieldAddr (F'.ev rfl) ⟨Ext.refl _ _, rfl⟩) ?_
    refine mK hok rfl rfl (fun a' w' F' E' => o_load1 (M1.later E') (F'.ev rfl) (by repeat (first | exact .here | apply Has.there)) (by first | assumption | rfl) ⟨Ext.refl _ _, rfl⟩) ?_
    refine mK hok rfl rfl (fun a' w' F' E' => o_geqF (F'.ev rfl) (F'.ev rfl) (by omega) ⟨Ext.refl _ _, rfl⟩) ?_
    refine mK hok rfl rfl (fun a' w' F' E' => o_move (F'.ev rfl) ⟨Ext.refl _ _, rfl⟩) ?_
    refine mOff hok rfl rfl rfl rfl rfl ?_
    refine mOff hok rfl rfl rfl rfl rfl ?_
    refine mOff hok rfl rfl rfl rfl rfl ?_
    refine mK hok rfl rfl (fun a' w' F' E' => o_pickF (F'.ev rfl) (F'.ev rfl) ⟨Ext.refl _ _, rfl⟩) ?_
    refine mK hok rfl rfl (fun a' w' F' E' => o_move (F'.ev rfl) ⟨Ext.refl _ _, rfl⟩) ?_
    refine mOff hok rfl rfl rfl rfl rfl ?_
    refine mOff hok rfl rfl rfl rfl rfl ?_
    refine mOff hok rfl rfl rfl rfl rfl ?_
    refine mOff hok rfl rfl rfl rfl rfl ?_
    refine mOff hok rfl rfl rfl rfl rfl ?_
    refine mOff hok rfl rfl rfl rfl rfl ?_
    refine mOff hok rfl rfl rfl rfl rfl ?_
    refine mK hok rfl rfl (fun a' w' F' E' => o_pickF (F'.ev rfl) (F'.ev rfl) ⟨Ext.refl _ _, rfl⟩) ?_
    refine mK hok rfl rfl (fun a' w' F' E' => o_assign (F'.ev rfl) ⟨Ext.refl _ _, rfl⟩) ?_
    (refine mDone rfl rfl ?_; clear F; clear M; intro a w F hE2 hX hTT hDD hPP; have M := M1.later hE2; clear M1; clear hX; clear hE2; clear hok; clear hE; clear hTT; clear hDD; clear hPP; (try dsimp only at F))
    with_reducible refine l_nil ?_
    with_reducible refine q_then ?_
    with_reducible refine c_ret ?_
    refine p_ret F rfl (.cons (.tmp (F.ev rfl)) .nil) ?_
    exact ⟨by show Value.bool _ = Value.bool _; simp [validP, h0], M.ext⟩
end Go.Proofs.YtadnpidadcgdcaaDoor

/-! Q2 -/
/-
  address.Contains, Covers.
-/
namespace Go.Proofs.YtadnpidadcgdcaaDoor
set_option linter.unusedVariables false
set_option linter.unusedSimpArgs false
open Go.RowKit
attribute [local irreducible] OpTo wpListIn Code.wpIn MW Cal

theorem validP_bd {a : List Int} {n : Int} (h : validP a n = true) : 0 ≤ n ∧ n ≤ 128 := by
  simp only [validP, Bool.and_eq_true, decide_eq_true_eq] at h
  exact h.1

set_option maxHeartbeats 2000000 in
theorem contains_c (p : List Int) (n : Int) (hp : p.length = 16) (b : List Int) (hb : b.length = 16) (W : World) : Cal Tryd.prog 20 [.agg (pfC p n).toArray, .agg (ipC b).toArray].toArray W fun v w' => v = .bool (containsP p n b) ∧ Ext [] W w' := by
  have e1 := seg_pf hp n
  have e2 := seg_pf0 hp n
  have e3 := nth_pf hp n
  have e4 := fits_pf hp n
  have e5 := fits_pf (maskI_len b n) n
  have e6 := seg_all (ipC_len hb)
  refine fn_ofM (n := 15) [] Tryd.func20 rfl rfl rfl ?_
  intro a w F M hwW
  refine c_seq ?_
  refine c_region ?_
  (refine stepD rfl F rfl (o_box M (F.ev rfl) rfl ?_); clear F; clear M; intro b1 w M a F)
  (refine stepD rfl F rfl (o_box M (F.ev rfl) rfl ?_); clear F; clear M; intro b2 w M a F)
  refine stepD rfl F rfl (o_assign (F.ev rfl) ?_); clear F; clear a; intro a F
  with_reducible refine l_nil ?_
  with_reducible refine q_then ?_
  with_reducible refine c_seq ?_
  replace F := F.only [2, 3] rfl
  by_cases hv : validP p n = true
  · obtain ⟨h0, h1⟩ := validP_bd hv
    refine c_draw 11 F (by kernel_rfl) ?_
    intro w1 hE hok
    have M1 := M.later hE
    refine mK hok rfl rfl (fun a' w' F' E' => o_loadA (M1.later E') (F'.ev rfl) (by repeat (first | exact .here | apply Has.there)) (by first | assumption | rfl) ⟨Ext.refl _ _, rfl⟩) ?_
    (refine mK hok rfl rfl (fun a' w' F' E' => o_call (F'.ev rfl) (F'.evs rfl) (Cal.mono (validPrefix_c p n hp _) fun _ _ hh => ⟨hh.2, hh.1⟩)) ?_)
    rw [hv]
    refine mK hok rfl rfl (fun a' w' F' E' => o_move (F'.ev rfl) ⟨Ext.refl _ _, rfl⟩) ?_
    refine mKG hok rfl rfl rfl rfl (fun a' w' F' E' => o_loadA (M1.later E') (F'.ev rfl) (by repeat (first | exact .here | apply Has.there)) (by first | assumption | rfl) ⟨Ext.refl _ _, rfl⟩) ?_
    refine mKG hok rfl rfl rfl rfl (fun a' w' F' E' => o_fieldAddr (F'.ev rfl) ⟨Ext.refl _ _, rfl⟩) ?_
    refine mKG hok rfl rfl rfl rfl (fun a' w' F' E' => o_load1 (M1.later E') (F'.ev rfl) (by repeat (first | exact .here | apply Has.there)) (by first | assumption | rfl) ⟨Ext.refl _ _, rfl⟩) ?_
    (refine mKG hok rfl rfl rfl rfl (fun a' w' F' E' => o_call (F'.ev rfl) (F'.evs rfl) (Cal.mono (maskIn_c b hb n h0 h1 _) fun _ _ hh => ⟨hh.2, hh.1⟩)) ?_)
    refine mKG hok rfl rfl rfl rfl (fun a' w' F' E' => o_loadA (M1.later E') (F'.ev rfl) (by repeat (first | exact .here | apply Has.there)) (by first | assumption | rfl) ⟨Ext.refl _ _, rfl⟩) ?_
    refine mKG hok rfl rfl rfl rfl (fun a' w' F' E' => o_eqlA (F'.ev rfl) (F'.ev rfl) (by first | assumption | rfl) (by first | assumption | rfl) ⟨Ext.refl _ _, rfl⟩) ?_
    refine mK hok rfl rfl (fun a' w' F' E' => o_pickT (F'.ev rfl) (F'.ev rfl) ⟨Ext.refl _ _, rfl⟩) ?_
    refine mK hok rfl rfl (fun a' w' F' E' => o_assign (F'.ev rfl) ⟨Ext.refl _ _, rfl⟩) ?_
    (refine mDone rfl rfl ?_; clear F; clear M; intro a w F hE2 hX hTT hDD hPP; have M := M1.later hE2; clear M1; clear hX; clear hE2; clear hok; clear hE; clear hTT; clear hDD; clear hPP; (try dsimp only at F))
    with_reducible refine l_nil ?_
    with_reducible refine q_then ?_
    with_reducible refine c_ret ?_
    refine p_ret F rfl (.cons (.tmp (F.ev rfl)) .nil) ?_
    refine ⟨?_, M.ext⟩
    show Value.bool _ = Value.bool _
    rw [eqVs_pf (by rw [maskI_len, hp])]
    simp [containsP, hv]
  · replace hv : validP p n = false := by simpa using hv
    refine c_draw 11 F (by kernel_rfl) ?_
    intro w1 hE hok
    have M1 := M.later hE
    refine mK hok rfl rfl (fun a' w' F' E' => o_loadA (M1.later E') (F'.ev rfl) (by repeat (first | exact .here | apply Has.there)) (by first | assumption | rfl) ⟨Ext.refl _ _, rfl⟩) ?_
    (refine mK hok rfl rfl (fun a' w' F' E' => o_call (F'.ev rfl) (F'.evs rfl) (Cal.mono (validPrefix_c p n hp _) fun _ _ hh => ⟨hh.2, hh.1⟩)) ?_)
    rw [hv]
    refine mK hok rfl rfl (fun a' w' F' E' => o_move (F'.ev rfl) ⟨Ext.refl _ _, rfl⟩) ?_
    refine mOff hok rfl rfl rfl rfl rfl ?_
    refine mOff hok rfl rfl rfl rfl rfl ?_
    refine mOff hok rfl rfl rfl rfl rfl ?_
    refine mOff hok rfl rfl rfl rfl rfl ?_
    refine mOff hok rfl rfl rfl rfl rfl ?_
    refine mOff hok rfl rfl rfl rfl rfl ?_
    refine mK hok rfl rfl (fun a' w' F' E' => o_pickF (F'.ev rfl) (F'.ev rfl) ⟨Ext.refl _ _, rfl⟩) ?_
    refine mK hok rfl rfl (fun a' w' F' E' => o_assign (F'.ev rfl) ⟨Ext.refl _ _, rfl⟩) ?_
    (refine mDone rfl rfl ?_; clear F; clear M; intro a w F hE2 hX hTT hDD hPP; have M := M1.later hE2; clear M1; clear hX; clear hE2; clear hok; clear hE; clear hTT; clear hDD; clear hPP; (try dsimp only at F))
    with_reducible refine l_nil ?_
    with_reducible refine q_then ?_
    with_reducible refine c_ret ?_
    refine p_ret F rfl (.cons (.tmp (F.ev rfl)) .nil) ?_
    exact ⟨by show Value.bool _ = Value.bool _; simp [containsP, hv], M.ext⟩

set_option maxHeartbeats 2000000 in
theorem covers_c (p : List Int) (n : Int) (hp : p.length = 16) (b : List Int) (m : Int) (hb : b.length = 16) (W : World) : Cal Tryd.prog 21 [.agg (pfC p n).toArray, .agg (pfC b m).toArray].toArray W fun v w' => v = .bool (coversP p n b m) ∧ Ext [] W w' := by
  have e1 := seg_pf hp n
  have e3 := nth_pf hp n
  have f1 := seg_pf hb m
  have f2 := seg_pf0 hb m
  have f3 := nth_pf hb m
  refine fn_ofM (n := 20) [] Tryd.func21 rfl rfl rfl ?_
  intro a w F M hwW
  refine c_seq ?_
  refine c_region ?_
  (refine stepD rfl F rfl (o_box M (F.ev rfl) rfl ?_); clear F; clear M; intro b1 w M a F)
  (refine stepD rfl F rfl (o_box M (F.ev rfl) rfl ?_); clear F; clear M; intro b2 w M a F)
  refine stepD rfl F rfl (o_assign (F.ev rfl) ?_); clear F; clear a; intro a F
  with_reducible refine l_nil ?_
  with_reducible refine q_then ?_
  with_reducible refine c_seq ?_
  with_reducible refine c_region ?_
  refine stepD rfl F rfl (o_loadA M (F.ev rfl) (by repeat (first | exact .here | apply Has.there)) (by first | assumption | rfl) ?_); clear F; clear a; intro a F
  (refine stepD rfl F rfl (o_call (F.ev rfl) (F.evs rfl) (Cal.mono (validPrefix_c b m hb _) ?_)); clear F; clear a; rintro _ w ⟨rfl, hE⟩ a F; replace M := M.later hE; clear hE)
  unfold coversP
  cases hv : validP b m
  · rw [hv] at F
    refine stepD rfl F rfl (o_move (F.ev rfl) ?_); clear F; clear a; intro a F
    refine stepOff F rfl rfl rfl rfl ?_; clear F; clear a; intro a F
    refine stepOff F rfl rfl rfl rfl ?_; clear F; clear a; intro a F
    refine stepOff F rfl rfl rfl rfl ?_; clear F; clear a; intro a F
    refine stepOff F rfl rfl rfl rfl ?_; clear F; clear a; intro a F
    refine stepD rfl F rfl (o_pickF (F.ev rfl) (F.ev rfl) ?_); clear F; clear a; intro a F
    refine stepD rfl F rfl (o_move (F.ev rfl) ?_); clear F; clear a; intro a F
    refine stepOff F rfl rfl rfl rfl ?_; clear F; clear a; intro a F
    refine stepOff F rfl rfl rfl rfl ?_; clear F; clear a; intro a F
    refine stepOff F rfl rfl rfl rfl ?_; clear F; clear a; intro a F
    refine stepOff F rfl rfl rfl rfl ?_; clear F; clear a; intro a F
    refine stepOff F rfl rfl rfl rfl ?_; clear F; clear a; intro a F
    refine stepD rfl F rfl (o_pickF (F.ev rfl) (F.ev rfl) ?_); clear F; clear a; intro a F
    refine stepD rfl F rfl (o_assign (F.ev rfl) ?_); clear F; clear a; intro a F
    with_reducible refine l_nil ?_
    with_reducible refine q_then ?_
    with_reducible refine c_ret ?_
    refine p_ret F rfl (.cons (.tmp (F.ev rfl)) .nil) ?_
    exact ⟨rfl, M.ext⟩
  · rw [hv] at F
    refine stepD rfl F rfl (o_move (F.ev rfl) ?_); clear F; clear a; intro a F
    refine stepG rfl F rfl rfl rfl (o_loadA M (F.ev rfl) (by repeat (first | exact .here | apply Has.there)) (by first | assumption | rfl) ?_); clear F; clear a; intro a F
    refine stepG rfl F rfl rfl rfl (o_fieldAddr (F.ev rfl) ?_); clear F; clear a; intro a F
    refine stepG rfl F rfl rfl rfl (o_loadA M (F.ev rfl) (by repeat (first | exact .here | apply Has.there)) (by first | assumption | rfl) ?_); clear F; clear a; intro a F
    (refine stepG rfl F rfl rfl rfl (o_call (F.ev rfl) (F.evs rfl) (Cal.mono (contains_c p n hp b hb _) ?_)); clear F; clear a; rintro _ w ⟨rfl, hE⟩ a F; replace M := M.later hE; clear hE)
    cases hc : containsP p n b
    · rw [hc] at F
      refine stepD rfl F rfl (o_pickT (F.ev rfl) (F.ev rfl) ?_); clear F; clear a; intro a F
      refine stepD rfl F rfl (o_move (F.ev rfl) ?_); clear F; clear a; intro a F
      refine stepOff F rfl rfl rfl rfl ?_; clear F; clear a; intro a F
      refine stepOff F rfl rfl rfl rfl ?_; clear F; clear a; intro a F
      refine stepOff F rfl rfl rfl rfl ?_; clear F; clear a; intro a F
      refine stepOff F rfl rfl rfl rfl ?_; clear F; clear a; intro a F
      refine stepOff F rfl rfl rfl rfl ?_; clear F; clear a; intro a F
      refine stepD rfl F rfl (o_pickF (F.ev rfl) (F.ev rfl) ?_); clear F; clear a; intro a F
      refine stepD rfl F rfl (o_assign (F.ev rfl) ?_); clear F; clear a; intro a F
      with_reducible refine l_nil ?_
      with_reducible refine q_then ?_
      with_reducible refine c_ret ?_
      refine p_ret F rfl (.cons (.tmp (F.ev rfl)) .nil) ?_
      exact ⟨rfl, M.ext⟩
    · rw [hc] at F
      refine stepD rfl F rfl (o_pickT (F.ev rfl) (F.ev rfl) ?_); clear F; clear a; intro a F
      refine stepD rfl F rfl (o_move (F.ev rfl) ?_); clear F; clear a; intro a F
      refine stepG rfl F rfl rfl rfl (o_fieldAddr (F.ev rfl) ?_); clear F; clear a; intro a F
      refine stepG rfl F rfl rfl rfl (o_load1 M (F.ev rfl) (by repeat (first | exact .here | apply Has.there)) (by first | assumption | rfl) ?_); clear F; clear a; intro a F
      refine stepG rfl F rfl rfl rfl (o_fieldAddr (F.ev rfl) ?_); clear F; clear a; intro a F
      refine stepG rfl F rfl rfl rfl (o_load1 M (F.ev rfl) (by repeat (first | exact .here | apply Has.there)) (by first | assumption | rfl) ?_); clear F; clear a; intro a F
      refine stepG rfl F rfl rfl rfl (o_leq (F.ev rfl) (F.ev rfl) ?_); clear F; clear a; intro a F
      refine stepD rfl F rfl (o_pickT (F.ev rfl) (F.ev rfl) ?_); clear F; clear a; intro a F
      refine stepD rfl F rfl (o_assign (F.ev rfl) ?_); clear F; clear a; intro a F
      with_reducible refine l_nil ?_
      with_reducible refine q_then ?_
      with_reducible refine c_ret ?_
      refine p_ret F rfl (.cons (.tmp (F.ev rfl)) .nil) ?_
      exact ⟨rfl, M.ext⟩
end Go.Proofs.YtadnpidadcgdcaaDoor

/-! Q3 -/
/-
  address.Common.
-/
namespace Go.Proofs.YtadnpidadcgdcaaDoor
set_option linter.unusedVariables false
set_option linter.unusedSimpArgs false
open Go.RowKit
attribute [local irreducible] OpTo wpListIn Code.wpIn MW Cal

theorem lz8_c (x : Int) (W : World) (h0 : 0 ≤ x) (h1 : x ≤ 255) : Cal Tryd.prog 64 [.int .u8 x].toArray W fun v w' => v = .int .i64 (8 - (Lib.bitLen x.toNat : Int)) ∧ Ext [] W w' :=
  Cal.of_calls (Tryd.bits_LeadingZeros8 x W h0 h1) fun e w' ⟨he, hw⟩ => ⟨_, he, rfl, by rw [hw]; exact Ext.refl _ _⟩
def xorAt (a b : List Int) (i : Nat) : Int := bitsOf .xor .u8 (a.getD i 0) (b.getD i 0)
/-- the k last bytes -/
def commonFrom (a b : List Int) : Nat → Int
  | 0 => 128
  | k + 1 => if xorAt a b (15 - k) ≠ 0 then 8 * ((15 - k : Nat) : Int) + (8 - (Lib.bitLen (xorAt a b (15 - k)).toNat : Int)) else commonFrom a b k
def commonI (a b : List Int) : Int := commonFrom a b 16
theorem xor_bd {a b : List Int} (ha : IsIP a) (hb : IsIP b) (i : Nat) : 0 ≤ xorAt a b i ∧ xorAt a b i ≤ 255 := by
  have h1 := ha.at_ i
  have h2 := hb.at_ i
  unfold xorAt
  obtain ⟨m, hm⟩ := Int.eq_ofNat_of_zero_le h1.1
  obtain ⟨n, hn⟩ := Int.eq_ofNat_of_zero_le h2.1
  rw [hm, hn, bits_xor (k := .u8) rfl (show m < 256 by omega) (show n < 256 by omega)]
  have : m ^^^ n < 2 ^ 8 := Nat.xor_lt_two_pow (show m < 2 ^ 8 by omega) (show n < 2 ^ 8 by omega)
  omega
theorem bitLen_le8 {x : Int} (h0 : 0 ≤ x) (h1 : x ≤ 255) : 0 ≤ 8 - (Lib.bitLen x.toNat : Int) ∧ 8 - (Lib.bitLen x.toNat : Int) ≤ 8 := by
  have := Lib.bitLen_le8 ⟨x.toNat, by omega⟩
  dsimp only at this
  omega

set_option maxHeartbeats 2000000 in
theorem common_c (p q : List Int) (hp : IsIP p) (hq : IsIP q) (W : World) : Cal Tryd.prog 22 [.agg (ipC p).toArray, .agg (ipC q).toArray].toArray W fun v w' => v = .int .i64 (commonI p q) ∧ Ext [] W w' := by
  refine fn_ofM (n := 25) [] Tryd.func22 rfl rfl rfl ?_
  intro a w F M hwW
  refine c_seq ?_
  refine c_region ?_
  (refine stepD rfl F rfl (o_box M (F.ev rfl) rfl ?_); clear F; clear M; intro b1 w M a F)
  (refine stepD rfl F rfl (o_box M (F.ev rfl) rfl ?_); clear F; clear M; intro b2 w M a F)
  refine stepD rfl F rfl (o_assign (F.ev rfl) ?_); clear F; clear a; intro a F
  with_reducible refine l_nil ?_
  with_reducible refine q_then ?_
  with_reducible refine c_seq ?_
  with_reducible refine c_seq ?_
  with_reducible refine c_region ?_
  refine stepD rfl F rfl (o_move (F.ev rfl) ?_); clear F; clear a; intro a F
  with_reducible refine l_nil ?_
  with_reducible refine q_then ?_
  with_reducible refine c_block ?_
  refine c_loop (fun k a w => ∃ i : Nat, k = 16 - i ∧ i ≤ 16 ∧ commonI p q = commonFrom p q (16 - i) ∧ Frm a 25 [] [(7, .int .i64 i), (2, .pointer (some ⟨b1, 0, none⟩)), (3, .pointer (some ⟨b2, 0, none⟩))] ∧ Mem [] W w [(b2, .cells (ipC q).toArray 23 (0, 0)), (b1, .cells (ipC p).toArray 23 (0, 0))]) 16 ⟨0, rfl, by omega, rfl, F.only [7, 2, 3] rfl, M⟩ ?_
  clear F M
  rintro k a w ⟨i, hk, hi, hc, F, M⟩
  by_cases hlt : i < 16
  · have n1 := nth_ip (a := p) (i := i) (by rw [hp.len]; exact hlt)
    have n2 := nth_ip (a := q) (i := i) (by rw [hq.len]; exact hlt)
    have hstep : commonFrom p q (16 - i) = if xorAt p q i ≠ 0 then 8 * (i : Int) + (8 - (Lib.bitLen (xorAt p q i).toNat : Int)) else commonFrom p q (16 - (i + 1)) := by
      obtain ⟨k, hk⟩ : ∃ k, 16 - i = k + 1 := ⟨15 - i, by omega⟩
      rw [hk, commonFrom, show 15 - k = i by omega, show 16 - (i + 1) = k by omega]
    have hxb := xor_bd hp hq i
    with_reducible refine c_seq ?_
    with_reducible refine c_region ?_
    refine stepD rfl F rfl (o_lssT (F.ev rfl) (F.ev rfl) (by omega) ?_); clear F; clear a; intro a F
    with_reducible refine l_nil ?_
    with_reducible refine q_then ?_
    with_reducible refine c_seq ?_
    refine c_true F rfl rfl ?_
    with_reducible refine c_skip ?_
    with_reducible refine q_then ?_
    with_reducible refine c_seq ?_
    with_reducible refine c_block ?_
    with_reducible refine c_seq ?_
    with_reducible refine c_region ?_
    refine stepD rfl F rfl (o_move (F.ev rfl) ?_); clear F; clear a; intro a F
    refine stepD rfl F rfl (o_assign (F.ev rfl) ?_); clear F; clear a; intro a F
    with_reducible refine l_nil ?_
    with_reducible refine q_then ?_
    with_reducible refine c_seq ?_
    refine c_draw 8 F (by kernel_rfl) ?_
    intro w1 hE hok
    have M1 := M.later hE
    refine mK hok rfl rfl (fun a' w' F' E' => o_move (F'.ev rfl) ⟨Ext.refl _ _, rfl⟩) ?_
    refine mK hok rfl rfl (fun a' w' F' E' => o_indexArr (F'.ev rfl) (F'.ev rfl) (by omega) (by omega) ⟨Ext.refl _ _, rfl⟩) ?_
    refine mK hok rfl rfl (fun a' w' F' E' => o_load1 (M1.later E') (F'.ev rfl) (by repeat (first | exact .here | apply Has.there)) (by first | assumption | rfl) ⟨Ext.refl _ _, rfl⟩) ?_
    refine mK hok rfl rfl (fun a' w' F' E' => o_move (F'.ev rfl) ⟨Ext.refl _ _, rfl⟩) ?_
    refine mK hok rfl rfl (fun a' w' F' E' => o_indexArr (F'.ev rfl) (F'.ev rfl) (by omega) (by omega) ⟨Ext.refl _ _, rfl⟩) ?_
    refine mK hok rfl rfl (fun a' w' F' E' => o_load1 (M1.later E') (F'.ev rfl) (by repeat (first | exact .here | apply Has.there)) (by first | assumption | rfl) ⟨Ext.refl _ _, rfl⟩) ?_
    refine mK hok rfl rfl (fun a' w' F' E' => o_xor (F'.ev rfl) (F'.ev rfl) rfl ⟨Ext.refl _ _, rfl⟩) ?_
    refine mK hok rfl rfl (fun a' w' F' E' => o_assign (F'.ev rfl) ⟨Ext.refl _ _, rfl⟩) ?_
    (refine mDone rfl rfl ?_; clear F; clear M; intro a w F hE2 hX hTT hDD hPP; have M := M1.later hE2; clear M1; clear hX; clear hE2; clear hok; clear hE; clear hTT; clear hDD; clear hPP; (try dsimp only at F))
    rw [show bitsOf BinOp.xor IntKind.u8 (p.getD i 0) (q.getD i 0) = xorAt p q i from rfl] at F
    generalize xorAt p q i = x at *
    have hbl := bitLen_le8 hxb.1 hxb.2
    by_cases hx : x = 0
    · rw [if_neg (by simp [hx])] at hstep
      with_reducible refine l_nil ?_
      with_reducible refine q_then ?_
      with_reducible refine c_seq ?_
      with_reducible refine c_region ?_
      refine stepD rfl F rfl (o_move (F.ev rfl) ?_); clear F; clear a; intro a F
      refine stepD rfl F rfl (o_neqF (F.ev rfl) (F.ev rfl) (by omega) ?_); clear F; clear a; intro a F
      with_reducible refine l_nil ?_
      with_reducible refine q_then ?_
      refine c_false F rfl rfl ?_
      with_reducible refine c_skip ?_
      with_reducible refine q_inB ?_
      with_reducible refine q_then ?_
      with_reducible refine c_region ?_
      refine stepD rfl F rfl (o_add (F.ev rfl) (F.ev rfl) (w_i64 (by omega) (by omega)) ?_); clear F; clear a; intro a F
      refine stepD rfl F rfl (o_move (F.ev rfl) ?_); clear F; clear a; intro a F
      with_reducible refine l_nil ?_
      with_reducible refine q_then ?_
      exact ⟨_, by omega, i + 1, rfl, by omega, by rw [hc, hstep], F.only [7, 2, 3] rfl, M⟩
    · rw [if_pos hx] at hstep
      with_reducible refine l_nil ?_
      with_reducible refine q_then ?_
      with_reducible refine c_seq ?_
      with_reducible refine c_region ?_
      refine stepD rfl F rfl (o_move (F.ev rfl) ?_); clear F; clear a; intro a F
      refine stepD rfl F rfl (o_neqT (F.ev rfl) (F.ev rfl) (by omega) ?_); clear F; clear a; intro a F
      with_reducible refine l_nil ?_
      with_reducible refine q_then ?_
      refine c_true F rfl rfl ?_
      with_reducible refine c_seq ?_
      with_reducible refine c_region ?_
      refine stepD rfl F rfl (o_move (F.ev rfl) ?_); clear F; clear a; intro a F
      refine stepD rfl F rfl (o_mul (F.ev rfl) (F.ev rfl) (w_i64 (by omega) (by omega)) ?_); clear F; clear a; intro a F
      refine stepD rfl F rfl (o_move (F.ev rfl) ?_); clear F; clear a; intro a F
      (refine stepD rfl F rfl (o_call (F.ev rfl) (F.evs rfl) (Cal.mono (lz8_c x _ hxb.1 hxb.2) ?_)); clear F; clear a; rintro _ w ⟨rfl, hE⟩ a F; replace M := M.later hE; clear hE)
      refine stepD rfl F rfl (o_add (F.ev rfl) (F.ev rfl) (w_i64 (by omega) (by omega)) ?_); clear F; clear a; intro a F
      refine stepD rfl F rfl (o_assign (F.ev rfl) ?_); clear F; clear a; intro a F
      with_reducible refine l_nil ?_
      with_reducible refine q_then ?_
      with_reducible refine c_ret ?_
      with_reducible refine q_inBR ?_
      with_reducible refine q_thenR ?_
      with_reducible refine q_thenR ?_
      with_reducible refine q_inBR ?_
      with_reducible refine q_thenR ?_
      refine p_ret F rfl (.cons (.tmp (F.ev rfl)) .nil) ?_
      exact ⟨by rw [hc, hstep]; rfl, M.ext⟩
  · obtain rfl : i = 16 := by omega
    rw [hc]
    with_reducible refine c_seq ?_
    with_reducible refine c_region ?_
    refine stepD rfl F rfl (o_lssF (F.ev rfl) (F.ev rfl) (by omega) ?_); clear F; clear a; intro a F
    with_reducible refine l_nil ?_
    with_reducible refine q_then ?_
    with_reducible refine c_seq ?_
    refine c_false F rfl rfl ?_
    with_reducible refine c_exit ?_
    with_reducible refine q_thenX ?_
    with_reducible refine q_thenX ?_
    with_reducible refine q_inBX ?_
    with_reducible refine q_then ?_
    with_reducible refine c_seq ?_
    with_reducible refine c_region ?_
    refine stepD rfl F rfl (o_assign (F.ev rfl) ?_); clear F; clear a; intro a F
    with_reducible refine l_nil ?_
    with_reducible refine q_then ?_
    with_reducible refine c_ret ?_
    refine p_ret F rfl (.cons (.tmp (F.ev rfl)) .nil) ?_
    exact ⟨rfl, M.ext⟩
end Go.Proofs.YtadnpidadcgdcaaDoor

/-! LibN -/
/-
  The calculus, part N: make, copy; blocks that came in (read, not turned).
-/
namespace Go.Proofs.YtadnpidadcgdcaaDoor
set_option linter.unusedVariables false
set_option linter.unusedSimpArgs false
open Go.RowKit

theorem Cal.to {P : Program} {f : FuncId} {args : Array Value} {w : World} {v v' : Value} {E : World → Prop} (h : Cal P f args w fun x w' => x = v ∧ E w') (e : v = v') : Cal P f args w fun x w' => x = v' ∧ E w' := e ▸ h
theorem put_all {xs ys : List Value} (h : xs.length = ys.length) : put xs 0 ys = some ys := by
  rw [put_of _ _ _ (by omega)]
  simp [splice, ← h]
/-- A block that came in: it may be named, as long as it is not turned. -/
theorem Mem.came {S : List Nat} {W w : World} {l : List (Nat × Obj)} (M : Mem S W w l) (hw : w = W) {b : Nat} {o : Obj} (hb : W.heap[b]? = some o) (hS : b ∈ S) (hn : ∀ p ∈ l, p.1 ≠ b) : Mem S W w ((b, o) :: l) :=
  M.cons (by rw [hw]; exact hb) hn (.inl hS)
/-- What came in has not been turned. -/
theorem Mem.back {S : List Nat} {W w : World} {l : List (Nat × Obj)} (M : Mem S W w l) (h : ∀ k ∈ S, ∃ o, Has l k o ∧ W.heap[k]? = some o) : Ext [] W w :=
  ⟨M.ext.os, M.ext.tape, M.ext.output, M.ext.size, fun k hk _ => by
    by_cases hS : k ∈ S
    · obtain ⟨o, h1, h2⟩ := h k hS
      rw [M.heap h1, h2]
    · exact M.ext.block k hk hS⟩
/-- .. and what the call has made. -/
theorem Mem.back' {S : List Nat} {W w : World} {l new : List (Nat × Obj)} (M : Mem S W w l) (h : ∀ k ∈ S, ∃ o, Has l k o ∧ W.heap[k]? = some o) (hs : new.Sublist l) (hn : ∀ p ∈ new, p.1 ∉ S) : Mem [] W w new :=
  ⟨M.back h, fun p hp => M.at_ p (hs.subset hp), M.nd.sublist (hs.map _), fun p hp => .inr ((M.own p (hs.subset hp)).resolve_left (hn p hp))⟩
theorem Mem.back1 {b : Nat} {o : Obj} {W w : World} {l : List (Nat × Obj)} (M : Mem [b] W w l) (h : Has l b o) (hW : W.heap[b]? = some o) : Ext [] W w :=
  M.back fun k hk => by simp only [List.mem_singleton] at hk; subst hk; exact ⟨o, h, hW⟩

section
variable {P : Program} {ρ : Operand → Value} {w W0 : World} {S : List Nat} {l l' : List (Nat × Obj)} {R : Value → World → Prop} {d : Option Tmp} {ty : TypeId} {pos : String} {af : Array Edge} {g : Option (Nat × Bool)}

/-- make, of elements of one cell -/
theorem o_make1 {t e : TypeId} {x y : Operand} {k k' : IntKind} {n : Int} {by_ : Nat} {z : Value} [ht : TU P t (.slice e)] [hel : TEl P e 1 by_] [hz : TZero P e [z]] (M : Mem S W0 w l) (hx : ρ x = .int k n) (hy : ρ y = .int k' n) (h0 : 0 ≤ n) (hb : (by_ : Int) * n ≤ 281474976710656) (h63 : n ≤ 9223372036854775807)
    (h : ∀ b w', Mem S W0 w' ((b, .cells (List.replicate n.toNat z).toArray e (0, 0)) :: l) → R (.slice (some ⟨b, 0, none⟩) n.toNat n.toNat) w') : OpTo P ⟨d, .makeSlice t x y, ty, pos, af, g⟩ ρ w R := by
  obtain ⟨i, zz, hi, hs, rfl, hz0, hzs⟩ := elB_spec hel.h
  have hzc : zz.cells = #[z] := by
    have := hz.h
    unfold zeroC at this
    rw [hi] at this
    simpa [hz0] using this
  have hr := run_make (P := P) w t e i zz ht.h hi hz0 k k' n n h0 (Int.le_refl _) hb h63
  have hm : madeCells zz.cells (n.toNat * i.size) = (List.replicate n.toNat z).toArray := by
    rw [hs, hzc, Nat.mul_one]
    apply Array.ext'
    simp only [madeCells, Array.toList_map, Array.toList_range, List.size_toArray, List.length_cons, List.length_nil]
    apply List.ext_getElem (by simp)
    intro j h1 h2
    simp [Nat.mod_one]
  rw [hm] at hr
  refine OpTo.val (v := .slice (some ⟨w.heap.size, 0, none⟩) n.toNat n.toNat) (w' := w.alloc (.cells (List.replicate n.toNat z).toArray e)) ?_ (h _ _ (M.alloc _))
  simp [execOp, hx, hy, hr]

theorem run_copy {dT sT e : TypeId} {sz b o dLen dCap n : Nat} {xv : Value} {sLen : Nat} {cs cs' ys : List Value} {t' : TypeId} (hst : P.underlying dT = some (.slice e)) (hsz : sizeIs P e sz = true) (M : Mem S W0 w l) (hlen : (Builtin.lenOf xv).run P w = .ok sLen w) (hn : n = Nat.min sLen dLen)
    (hc : (Builtin.firstCells sz n xv).run P w = .ok ys.toArray w) (h1 : ∀ v ∈ ys, v.oneCell' = true) (hb : Has l b (.cells cs.toArray t' (0, 0))) (hp : put cs o ys = some cs') (hu : Upd l b (.cells cs.toArray t' (0, 0)) (.cells cs'.toArray t' (0, 0)) l') (tyy : TypeId) :
    ∃ w', (Builtin.copy_ #[dT, sT] tyy #[.slice (some ⟨b, o, none⟩) dLen dCap, xv]).run P w = .ok (.int .i64 n) w' ∧ Mem S W0 w' l' ∧ Ext [b] w w' := by
  obtain ⟨hle, rfl⟩ := put_splice _ _ _ _ hp
  obtain ⟨w', hr, he, hh⟩ := run_storeRow (P := P) (off := o) ys 0 cs w (M.heap hb) (by simpa using hle) h1
  refine ⟨w', ?_, M.turned hu he (by simpa using hh), he⟩
  subst hn
  simp [Builtin.copy_, run_underlying hst, hlen, run_sizeOf hsz, hc, hr, goInt]
/-- copy into a block of ours, out of a slice whose block is known -/
theorem o_copy {dT sT e : TypeId} {x y : Operand} {sz b o dLen dCap b' o' sLen sCap n : Nat} {cs cs' ds ys : List Value} {t' t'' : TypeId} {fz : Nat × Nat} [hst : TU P dT (.slice e)] [hsz : TSz P e sz] (M : Mem S W0 w l) (hx : ρ x = .slice (some ⟨b, o, none⟩) dLen dCap) (hy : ρ y = .slice (some ⟨b', o', none⟩) sLen sCap) (hn : n = Nat.min sLen dLen)
    (hs : Has l b' (.cells ds.toArray t'' fz)) (hv : seg ds o' (n * sz) = some ys) (h1 : ys.all (·.oneCell') = true) (hb : Has l b (.cells cs.toArray t' (0, 0))) (hp : put cs o ys = some cs') (hu : Upd l b (.cells cs.toArray t' (0, 0)) (.cells cs'.toArray t' (0, 0)) l')
    (h : ∀ w', Mem S W0 w' l' → R (.int .i64 n) w') : OpTo P ⟨d, .call ⟨.builtin .copy, #[x, y], #[dT, sT]⟩, ty, pos, af, g⟩ ρ w R := by
  have hsrc := (SrcOf.cells' (P := P) (m := n) (c := sCap) (sz := sz) (M.heap hs) hv h1).cells w.drawn
  have hc : (Builtin.firstCells sz n (.slice (some ⟨b', o', none⟩) sLen sCap)).run P w = .ok ys.toArray w := by
    simpa [Builtin.firstCells] using hsrc
  obtain ⟨w', hr, M', _⟩ := run_copy (sT := sT) (dLen := dLen) (dCap := dCap) (o := o) hst.h hsz.h M (by simp [Builtin.lenOf]) hn hc (fun v hv => List.all_eq_true.1 h1 v hv) hb hp hu ty
  exact OpTo.val (v := .int .i64 n) (w' := w') (by simp [execOp, resolve, invoke, builtin, hx, hy, hr]) (h _ M')
/-- copy out of the nil slice -/
theorem o_copyNil {dT sT e : TypeId} {x y : Operand} {sz : Nat} {p : Option Addr} {dLen dCap : Nat} [hst : TU P dT (.slice e)] [hsz : TSz P e sz] (hx : ρ x = .slice p dLen dCap) (hy : ρ y = .slice none 0 0) (h : R (.int .i64 0) w) : OpTo P ⟨d, .call ⟨.builtin .copy, #[x, y], #[dT, sT]⟩, ty, pos, af, g⟩ ρ w R := by
  refine OpTo.val (v := .int .i64 0) (w' := w) ?_ h
  cases p <;> simp [execOp, resolve, invoke, builtin, hx, hy, Builtin.copy_, run_underlying hst.h, Builtin.lenOf, run_sizeOf hsz.h, Builtin.firstCells, storeCells, goInt]
end
/-- a slice over the whole of a new block -/
def NewS (n0 len cap : Nat) (o : Obj) : Pred := fun v w => ∃ b, v = .slice (some ⟨b, 0, none⟩) len cap ∧ n0 ≤ b ∧ w.heap[b]? = some o
theorem NewS.stays (n0 len cap : Nat) (o : Obj) : Stays keepAll (NewS n0 len cap o) := fun v w w' ⟨b, h1, h2, h3⟩ h => ⟨b, h1, h2, by
  rw [Ext.block h b (Array.getElem?_eq_some_iff.1 h3).1 (by simp)]; exact h3⟩
theorem newS_of {w1 w w' : World} {len cap : Nat} {o : Obj} {x : Value} (E : Ext [] w1 w) (h : ∃ b, x = .slice (some ⟨b, 0, none⟩) len cap ∧ Mem [] w w' [(b, o)]) : Ext [] w w' ∧ NewS w1.heap.size len cap o x w' := by
  obtain ⟨b, rfl, N⟩ := h
  refine ⟨N.ext, b, rfl, ?_, N.heap .here⟩
  have := (N.own (b, o) (by simp)).resolve_left (by simp)
  exact Nat.le_trans E.size this
end Go.Proofs.YtadnpidadcgdcaaDoor

/-! Q4 -/
/-
  Small facts on addresses' and prefixes' cells.
-/
namespace Go.Proofs.YtadnpidadcgdcaaDoor
set_option linter.unusedVariables false
set_option linter.unusedSimpArgs false
open Go.RowKit

theorem one_ip (a : List Int) : (ipC a).all (·.oneCell') = true := by
  rw [List.all_eq_true]
  intro v hv
  obtain ⟨x, _, rfl⟩ := List.mem_map.1 hv
  rfl
theorem one_pf (a : List Int) (n : Int) : (pfC a n).all (·.oneCell') = true := by
  unfold pfC
  rw [List.all_append, one_ip]
  rfl
theorem modI_bd (x : Int) {n : Int} (hn : 0 < n) : 0 ≤ modI x n ∧ modI x n < n := by
  have h1 := Int.tmod_lt_of_pos x hn
  have h2 : -n < x.tmod n := by have := Int.tmod_lt_of_pos (-x) hn; rw [Int.neg_tmod] at this; omega
  unfold modI
  split <;> omega
theorem eqVs_self {a : List Int} {n : Int} : eqVs (pfC a n) (pfC a n) = true := by rw [eqVs_pf rfl]; simp

end Go.Proofs.YtadnpidadcgdcaaDoor

/-! A1 -/
/-
  address.Valid, IID.
-/
namespace Go.Proofs.YtadnpidadcgdcaaDoor
set_option linter.unusedVariables false
set_option linter.unusedSimpArgs false
open Go.RowKit
attribute [local irreducible] OpTo wpListIn Code.wpIn MW Cal

/-- the cells of a link address -/
def adC (m s e : Int) : List Value := [.int .i64 m, .int .u16 s, .int .u64 e]
def validA (m s e : Int) : Bool := if m = 0 then s == 0 && e == 0 else if m = 2 then e == 0 else if m = 3 then s == 0 else false

set_option maxHeartbeats 400000 in
theorem valid_c (m s e : Int) (W : World) : Cal Tryd.prog 49 [.agg (adC m s e).toArray].toArray W fun v w' => v = .bool (validA m s e) ∧ Ext [] W w' := by
  unfold adC validA
  by_cases h0 : m = 0
  · subst h0
    refine fn_ofM (n := 20) [] Tryd.func49 rfl rfl rfl ?_
    intro a w F M hwW
    refine c_seq ?_
    refine c_region ?_
    (refine stepD rfl F rfl (o_box M (F.ev rfl) rfl ?_); clear F; clear M; intro b1 w M a F)
    refine stepD rfl F rfl (o_assign (F.ev rfl) ?_); clear F; clear a; intro a F
    with_reducible refine l_nil ?_
    with_reducible refine q_then ?_
    with_reducible refine c_seq ?_
    with_reducible refine c_seq ?_
    with_reducible refine c_region ?_
    refine stepD rfl F rfl (o_fieldAddr (F.ev rfl) ?_); clear F; clear a; intro a F
    refine stepD rfl F rfl (o_load1 M (F.ev rfl) (by repeat (first | exact .here | apply Has.there)) (by first | assumption | rfl) ?_); clear F; clear a; intro a F
    with_reducible refine l_nil ?_
    with_reducible refine q_then ?_
    with_reducible refine c_block ?_
    with_reducible refine c_seq ?_
    with_reducible refine c_region ?_
    refine stepD rfl F rfl (o_eqlT (F.ev rfl) (F.ev rfl) (by omega) ?_); clear F; clear a; intro a F
    refine stepD rfl F rfl (o_assign (F.ev rfl) ?_); clear F; clear a; intro a F
    with_reducible refine l_nil ?_
    with_reducible refine q_then ?_
    refine c_true F rfl rfl ?_
    with_reducible refine c_seq ?_
    with_reducible refine c_region ?_
    refine stepD rfl F rfl (o_loadA M (F.ev rfl) (by repeat (first | exact .here | apply Has.there)) (by first | assumption | rfl) ?_); clear F; clear a; intro a F
    refine stepD rfl F rfl (o_build F rfl rfl ?_); clear F; clear a; intro a F
    refine stepD rfl F rfl (o_eqlA (F.ev rfl) (F.ev rfl) (by first | assumption | rfl) (by first | assumption | rfl) ?_); clear F; clear a; intro a F
    refine stepD rfl F rfl (o_assign (F.ev rfl) ?_); clear F; clear a; intro a F
    with_reducible refine l_nil ?_
    with_reducible refine q_then ?_
    with_reducible refine c_ret ?_
    with_reducible refine q_inBR ?_
    with_reducible refine q_thenR ?_
    refine p_ret F rfl (.cons (.tmp (F.ev rfl)) .nil) ?_
    exact ⟨by simp [oneOr, eqVs, eqV], M.ext⟩
  · by_cases h2 : m = 2
    · subst h2
      refine fn_ofM (n := 20) [] Tryd.func49 rfl rfl rfl ?_
      intro a w F M hwW
      refine c_seq ?_
      refine c_region ?_
      (refine stepD rfl F rfl (o_box M (F.ev rfl) rfl ?_); clear F; clear M; intro b1 w M a F)
      refine stepD rfl F rfl (o_assign (F.ev rfl) ?_); clear F; clear a; intro a F
      with_reducible refine l_nil ?_
      with_reducible refine q_then ?_
      with_reducible refine c_seq ?_
      with_reducible refine c_seq ?_
      with_reducible refine c_region ?_
      refine stepD rfl F rfl (o_fieldAddr (F.ev rfl) ?_); clear F; clear a; intro a F
      refine stepD rfl F rfl (o_load1 M (F.ev rfl) (by repeat (first | exact .here | apply Has.there)) (by first | assumption | rfl) ?_); clear F; clear a; intro a F
      with_reducible refine l_nil ?_
      with_reducible refine q_then ?_
      with_reducible refine c_block ?_
      with_reducible refine c_seq ?_
      with_reducible refine c_region ?_
      refine stepD rfl F rfl (o_eqlF (F.ev rfl) (F.ev rfl) (by omega) ?_); clear F; clear a; intro a F
      refine stepD rfl F rfl (o_assign (F.ev rfl) ?_); clear F; clear a; intro a F
      with_reducible refine l_nil ?_
      with_reducible refine q_then ?_
      refine c_false F rfl rfl ?_
      with_reducible refine c_seq ?_
      with_reducible refine c_region ?_
      refine stepD rfl F rfl (o_eqlT (F.ev rfl) (F.ev rfl) (by omega) ?_); clear F; clear a; intro a F
      refine stepD rfl F rfl (o_assign (F.ev rfl) ?_); clear F; clear a; intro a F
      with_reducible refine l_nil ?_
      with_reducible refine q_then ?_
      refine c_true F rfl rfl ?_
      with_reducible refine c_seq ?_
      with_reducible refine c_region ?_
      refine stepD rfl F rfl (o_fieldAddr (F.ev rfl) ?_); clear F; clear a; intro a F
      refine stepD rfl F rfl (o_load1 M (F.ev rfl) (by repeat (first | exact .here | apply Has.there)) (by first | assumption | rfl) ?_); clear F; clear a; intro a F
      refine stepD rfl F rfl (o_eql (F.ev rfl) (F.ev rfl) ?_); clear F; clear a; intro a F
      refine stepD rfl F rfl (o_assign (F.ev rfl) ?_); clear F; clear a; intro a F
      with_reducible refine l_nil ?_
      with_reducible refine q_then ?_
      with_reducible refine c_ret ?_
      with_reducible refine q_inBR ?_
      with_reducible refine q_thenR ?_
      refine p_ret F rfl (.cons (.tmp (F.ev rfl)) .nil) ?_
      exact ⟨by simp [oneOr], M.ext⟩
    · by_cases h3 : m = 3
      · subst h3
        refine fn_ofM (n := 20) [] Tryd.func49 rfl rfl rfl ?_
        intro a w F M hwW
        refine c_seq ?_
        refine c_region ?_
        (refine stepD rfl F rfl (o_box M (F.ev rfl) rfl ?_); clear F; clear M; intro b1 w M a F)
        refine stepD rfl F rfl (o_assign (F.ev rfl) ?_); clear F; clear a; intro a F
        with_reducible refine l_nil ?_
        with_reducible refine q_then ?_
        with_reducible refine c_seq ?_
        with_reducible refine c_seq ?_
        with_reducible refine c_region ?_
        refine stepD rfl F rfl (o_fieldAddr (F.ev rfl) ?_); clear F; clear a; intro a F
        refine stepD rfl F rfl (o_load1 M (F.ev rfl) (by repeat (first | exact .here | apply Has.there)) (by first | assumption | rfl) ?_); clear F; clear a; intro a F
        with_reducible refine l_nil ?_
        with_reducible refine q_then ?_
        with_reducible refine c_block ?_
        with_reducible refine c_seq ?_
        with_reducible refine c_region ?_
        refine stepD rfl F rfl (o_eqlF (F.ev rfl) (F.ev rfl) (by omega) ?_); clear F; clear a; intro a F
        refine stepD rfl F rfl (o_assign (F.ev rfl) ?_); clear F; clear a; intro a F
        with_reducible refine l_nil ?_
        with_reducible refine q_then ?_
        refine c_false F rfl rfl ?_
        with_reducible refine c_seq ?_
        with_reducible refine c_region ?_
        refine stepD rfl F rfl (o_eqlF (F.ev rfl) (F.ev rfl) (by omega) ?_); clear F; clear a; intro a F
        refine stepD rfl F rfl (o_assign (F.ev rfl) ?_); clear F; clear a; intro a F
        with_reducible refine l_nil ?_
        with_reducible refine q_then ?_
        refine c_false F rfl rfl ?_
        with_reducible refine c_seq ?_
        with_reducible refine c_region ?_
        refine stepD rfl F rfl (o_eqlT (F.ev rfl) (F.ev rfl) (by omega) ?_); clear F; clear a; intro a F
        refine stepD rfl F rfl (o_assign (F.ev rfl) ?_); clear F; clear a; intro a F
        with_reducible refine l_nil ?_
        with_reducible refine q_then ?_
        refine c_true F rfl rfl ?_
        with_reducible refine c_seq ?_
        with_reducible refine c_region ?_
        refine stepD rfl F rfl (o_fieldAddr (F.ev rfl) ?_); clear F; clear a; intro a F
        refine stepD rfl F rfl (o_load1 M (F.ev rfl) (by repeat (first | exact .here | apply Has.there)) (by first | assumption | rfl) ?_); clear F; clear a; intro a F
        refine stepD rfl F rfl (o_eql (F.ev rfl) (F.ev rfl) ?_); clear F; clear a; intro a F
        refine stepD rfl F rfl (o_assign (F.ev rfl) ?_); clear F; clear a; intro a F
        with_reducible refine l_nil ?_
        with_reducible refine q_then ?_
        with_reducible refine c_ret ?_
        with_reducible refine q_inBR ?_
        with_reducible refine q_thenR ?_
        refine p_ret F rfl (.cons (.tmp (F.ev rfl)) .nil) ?_
        exact ⟨by simp [oneOr], M.ext⟩
      · refine fn_ofM (n := 20) [] Tryd.func49 rfl rfl rfl ?_
        intro a w F M hwW
        refine c_seq ?_
        refine c_region ?_
        (refine stepD rfl F rfl (o_box M (F.ev rfl) rfl ?_); clear F; clear M; intro b1 w M a F)
        refine stepD rfl F rfl (o_assign (F.ev rfl) ?_); clear F; clear a; intro a F
        with_reducible refine l_nil ?_
        with_reducible refine q_then ?_
        with_reducible refine c_seq ?_
        with_reducible refine c_seq ?_
        with_reducible refine c_region ?_
        refine stepD rfl F rfl (o_fieldAddr (F.ev rfl) ?_); clear F; clear a; intro a F
        refine stepD rfl F rfl (o_load1 M (F.ev rfl) (by repeat (first | exact .here | apply Has.there)) (by first | assumption | rfl) ?_); clear F; clear a; intro a F
        with_reducible refine l_nil ?_
        with_reducible refine q_then ?_
        with_reducible refine c_block ?_
        with_reducible refine c_seq ?_
        with_reducible refine c_region ?_
        refine stepD rfl F rfl (o_eqlF (F.ev rfl) (F.ev rfl) (by omega) ?_); clear F; clear a; intro a F
        refine stepD rfl F rfl (o_assign (F.ev rfl) ?_); clear F; clear a; intro a F
        with_reducible refine l_nil ?_
        with_reducible refine q_then ?_
        refine c_false F rfl rfl ?_
        with_reducible refine c_seq ?_
        with_reducible refine c_region ?_
        refine stepD rfl F rfl (o_eqlF (F.ev rfl) (F.ev rfl) (by omega) ?_); clear F; clear a; intro a F
        refine stepD rfl F rfl (o_assign (F.ev rfl) ?_); clear F; clear a; intro a F
        with_reducible refine l_nil ?_
        with_reducible refine q_then ?_
        refine c_false F rfl rfl ?_
        with_reducible refine c_seq ?_
        with_reducible refine c_region ?_
        refine stepD rfl F rfl (o_eqlF (F.ev rfl) (F.ev rfl) (by omega) ?_); clear F; clear a; intro a F
        refine stepD rfl F rfl (o_assign (F.ev rfl) ?_); clear F; clear a; intro a F
        with_reducible refine l_nil ?_
        with_reducible refine q_then ?_
        refine c_false F rfl rfl ?_
        with_reducible refine c_skip ?_
        with_reducible refine q_inB ?_
        with_reducible refine q_then ?_
        with_reducible refine c_seq ?_
        with_reducible refine c_region ?_
        refine stepD rfl F rfl (o_assign (F.ev rfl) ?_); clear F; clear a; intro a F
        with_reducible refine l_nil ?_
        with_reducible refine q_then ?_
        with_reducible refine c_ret ?_
        refine p_ret F rfl (.cons (.tmp (F.ev rfl)) .nil) ?_
        exact ⟨by simp [oneOr, h0, h2, h3], M.ext⟩

/-- an interface identifier, of a valid link address other than none -/
def iidA (m s e : Int) : Option Int := if validA m s e then (if m = 2 then some (1099478073344 + s) else if m = 3 then some (bitsOf .xor .u64 e 144115188075855872) else none) else none
def optU (x : Option Int) : Value := .tuple #[.int .u64 (x.getD 0), .bool x.isSome]

set_option maxHeartbeats 400000 in
theorem iid_c (m s e : Int) (hs0 : 0 ≤ s) (hs1 : s ≤ 65535) (W : World) : Cal Tryd.prog 39 [.agg (adC m s e).toArray].toArray W fun v w' => v = optU (iidA m s e) ∧ Ext [] W w' := by
  have hb : @Eq (List Value) (adC m s e) [.int .i64 m, .int .u16 s, .int .u64 e] := rfl
  cases hv : validA m s e
  · refine fn_ofM (n := 20) [] Tryd.func39 rfl rfl rfl ?_
    intro a w F M hwW
    refine c_seq ?_
    refine c_region ?_
    (refine stepD rfl F rfl (o_box M (F.ev rfl) rfl ?_); clear F; clear M; intro b1 w M a F)
    refine stepD rfl F rfl (o_assign (F.ev rfl) ?_); clear F; clear a; intro a F
    refine stepD rfl F rfl (o_assign (F.ev rfl) ?_); clear F; clear a; intro a F
    with_reducible refine l_nil ?_
    with_reducible refine q_then ?_
    with_reducible refine c_seq ?_
    with_reducible refine c_seq ?_
    with_reducible refine c_region ?_
    refine stepD rfl F rfl (o_loadA M (F.ev rfl) (by repeat (first | exact .here | apply Has.there)) (by first | assumption | rfl) ?_); clear F; clear a; intro a F
    (refine stepD rfl F rfl (o_call (F.ev rfl) (F.evs rfl) (Cal.mono (Cal.to (valid_c m s e _) (by rw [hv])) ?_)); clear F; clear a; rintro _ w ⟨rfl, hE⟩ a F; replace M := M.later hE; clear hE)
    refine stepD rfl F rfl (o_not (F.ev rfl) ?_); clear F; clear a; intro a F
    with_reducible refine l_nil ?_
    with_reducible refine q_then ?_
    refine c_true F rfl rfl ?_
    with_reducible refine c_seq ?_
    with_reducible refine c_region ?_
    refine stepD rfl F rfl (o_assign (F.ev rfl) ?_); clear F; clear a; intro a F
    refine stepD rfl F rfl (o_assign (F.ev rfl) ?_); clear F; clear a; intro a F
    with_reducible refine l_nil ?_
    with_reducible refine q_then ?_
    with_reducible refine c_ret ?_
    with_reducible refine q_thenR ?_
    refine p_ret F rfl (.cons (.tmp (F.ev rfl)) (.cons (.tmp (F.ev rfl)) .nil)) ?_
    exact ⟨by simp [oneOr, optU, iidA, hv], M.ext⟩
  · by_cases h2 : m = 2
    · subst h2
      refine fn_ofM (n := 20) [] Tryd.func39 rfl rfl rfl ?_
      intro a w F M hwW
      refine c_seq ?_
      refine c_region ?_
      (refine stepD rfl F rfl (o_box M (F.ev rfl) rfl ?_); clear F; clear M; intro b1 w M a F)
      refine stepD rfl F rfl (o_assign (F.ev rfl) ?_); clear F; clear a; intro a F
      refine stepD rfl F rfl (o_assign (F.ev rfl) ?_); clear F; clear a; intro a F
      with_reducible refine l_nil ?_
      with_reducible refine q_then ?_
      with_reducible refine c_seq ?_
      with_reducible refine c_seq ?_
      with_reducible refine c_region ?_
      refine stepD rfl F rfl (o_loadA M (F.ev rfl) (by repeat (first | exact .here | apply Has.there)) (by first | assumption | rfl) ?_); clear F; clear a; intro a F
      (refine stepD rfl F rfl (o_call (F.ev rfl) (F.evs rfl) (Cal.mono (Cal.to (valid_c 2 s e _) (by rw [hv])) ?_)); clear F; clear a; rintro _ w ⟨rfl, hE⟩ a F; replace M := M.later hE; clear hE)
      refine stepD rfl F rfl (o_not (F.ev rfl) ?_); clear F; clear a; intro a F
      with_reducible refine l_nil ?_
      with_reducible refine q_then ?_
      refine c_false F rfl rfl ?_
      with_reducible refine c_skip ?_
      with_reducible refine q_then ?_
      with_reducible refine c_seq ?_
      with_reducible refine c_seq ?_
      with_reducible refine c_region ?_
      refine stepD rfl F rfl (o_fieldAddr (F.ev rfl) ?_); clear F; clear a; intro a F
      refine stepD rfl F rfl (o_load1 M (F.ev rfl) (by repeat (first | exact .here | apply Has.there)) (by first | assumption | rfl) ?_); clear F; clear a; intro a F
      with_reducible refine l_nil ?_
      with_reducible refine q_then ?_
      with_reducible refine c_block ?_
      with_reducible refine c_seq ?_
      with_reducible refine c_region ?_
      refine stepD rfl F rfl (o_eqlT (F.ev rfl) (F.ev rfl) (by omega) ?_); clear F; clear a; intro a F
      refine stepD rfl F rfl (o_assign (F.ev rfl) ?_); clear F; clear a; intro a F
      with_reducible refine l_nil ?_
      with_reducible refine q_then ?_
      refine c_true F rfl rfl ?_
      with_reducible refine c_seq ?_
      with_reducible refine c_region ?_
      refine stepD rfl F rfl (o_fieldAddr (F.ev rfl) ?_); clear F; clear a; intro a F
      refine stepD rfl F rfl (o_load1 M (F.ev rfl) (by repeat (first | exact .here | apply Has.there)) (by first | assumption | rfl) ?_); clear F; clear a; intro a F
      refine stepD rfl F rfl (o_conv (F.ev rfl) (w_u64 (by omega) (by omega)) ?_); clear F; clear a; intro a F
      refine stepD rfl F rfl (o_add (F.ev rfl) (F.ev rfl) (w_u64 (by omega) (by omega)) ?_); clear F; clear a; intro a F
      refine stepD rfl F rfl (o_assign (F.ev rfl) ?_); clear F; clear a; intro a F
      refine stepD rfl F rfl (o_assign (F.ev rfl) ?_); clear F; clear a; intro a F
      with_reducible refine l_nil ?_
      with_reducible refine q_then ?_
      with_reducible refine c_ret ?_
      with_reducible refine q_inBR ?_
      with_reducible refine q_thenR ?_
      refine p_ret F rfl (.cons (.tmp (F.ev rfl)) (.cons (.tmp (F.ev rfl)) .nil)) ?_
      exact ⟨by simp [oneOr, optU, iidA, hv], M.ext⟩
    · by_cases h3 : m = 3
      · subst h3
        refine fn_ofM (n := 20) [] Tryd.func39 rfl rfl rfl ?_
        intro a w F M hwW
        refine c_seq ?_
        refine c_region ?_
        (refine stepD rfl F rfl (o_box M (F.ev rfl) rfl ?_); clear F; clear M; intro b1 w M a F)
        refine stepD rfl F rfl (o_assign (F.ev rfl) ?_); clear F; clear a; intro a F
        refine stepD rfl F rfl (o_assign (F.ev rfl) ?_); clear F; clear a; intro a F
        with_reducible refine l_nil ?_
        with_reducible refine q_then ?_
        with_reducible refine c_seq ?_
        with_reducible refine c_seq ?_
        with_reducible refine c_region ?_
        refine stepD rfl F rfl (o_loadA M (F.ev rfl) (by repeat (first | exact .here | apply Has.there)) (by first | assumption | rfl) ?_); clear F; clear a; intro a F
        (refine stepD rfl F rfl (o_call (F.ev rfl) (F.evs rfl) (Cal.mono (Cal.to (valid_c 3 s e _) (by rw [hv])) ?_)); clear F; clear a; rintro _ w ⟨rfl, hE⟩ a F; replace M := M.later hE; clear hE)
        refine stepD rfl F rfl (o_not (F.ev rfl) ?_); clear F; clear a; intro a F
        with_reducible refine l_nil ?_
        with_reducible refine q_then ?_
        refine c_false F rfl rfl ?_
        with_reducible refine c_skip ?_
        with_reducible refine q_then ?_
        with_reducible refine c_seq ?_
        with_reducible refine c_seq ?_
        with_reducible refine c_region ?_
        refine stepD rfl F rfl (o_fieldAddr (F.ev rfl) ?_); clear F; clear a; intro a F
        refine stepD rfl F rfl (o_load1 M (F.ev rfl) (by repeat (first | exact .here | apply Has.there)) (by first | assumption | rfl) ?_); clear F; clear a; intro a F
        with_reducible refine l_nil ?_
        with_reducible refine q_then ?_
        with_reducible refine c_block ?_
        with_reducible refine c_seq ?_
        with_reducible refine c_region ?_
        refine stepD rfl F rfl (o_eqlF (F.ev rfl) (F.ev rfl) (by omega) ?_); clear F; clear a; intro a F
        refine stepD rfl F rfl (o_assign (F.ev rfl) ?_); clear F; clear a; intro a F
        with_reducible refine l_nil ?_
        with_reducible refine q_then ?_
        refine c_false F rfl rfl ?_
        with_reducible refine c_seq ?_
        with_reducible refine c_region ?_
        refine stepD rfl F rfl (o_eqlT (F.ev rfl) (F.ev rfl) (by omega) ?_); clear F; clear a; intro a F
        refine stepD rfl F rfl (o_assign (F.ev rfl) ?_); clear F; clear a; intro a F
        with_reducible refine l_nil ?_
        with_reducible refine q_then ?_
        refine c_true F rfl rfl ?_
        with_reducible refine c_seq ?_
        with_reducible refine c_region ?_
        refine stepD rfl F rfl (o_fieldAddr (F.ev rfl) ?_); clear F; clear a; intro a F
        refine stepD rfl F rfl (o_load1 M (F.ev rfl) (by repeat (first | exact .here | apply Has.there)) (by first | assumption | rfl) ?_); clear F; clear a; intro a F
        refine stepD rfl F rfl (o_xor (F.ev rfl) (F.ev rfl) rfl ?_); clear F; clear a; intro a F
        refine stepD rfl F rfl (o_assign (F.ev rfl) ?_); clear F; clear a; intro a F
        refine stepD rfl F rfl (o_assign (F.ev rfl) ?_); clear F; clear a; intro a F
        with_reducible refine l_nil ?_
        with_reducible refine q_then ?_
        with_reducible refine c_ret ?_
        with_reducible refine q_inBR ?_
        with_reducible refine q_thenR ?_
        refine p_ret F rfl (.cons (.tmp (F.ev rfl)) (.cons (.tmp (F.ev rfl)) .nil)) ?_
        exact ⟨by simp [oneOr, optU, iidA, hv], M.ext⟩
      · refine fn_ofM (n := 20) [] Tryd.func39 rfl rfl rfl ?_
        intro a w F M hwW
        refine c_seq ?_
        refine c_region ?_
        (refine stepD rfl F rfl (o_box M (F.ev rfl) rfl ?_); clear F; clear M; intro b1 w M a F)
        refine stepD rfl F rfl (o_assign (F.ev rfl) ?_); clear F; clear a; intro a F
        refine stepD rfl F rfl (o_assign (F.ev rfl) ?_); clear F; clear a; intro a F
        with_reducible refine l_nil ?_
        with_reducible refine q_then ?_
        with_reducible refine c_seq ?_
        with_reducible refine c_seq ?_
        with_reducible refine c_region ?_
        refine stepD rfl F rfl (o_loadA M (F.ev rfl) (by repeat (first | exact .here | apply Has.there)) (by first | assumption | rfl) ?_); clear F; clear a; intro a F
        (refine stepD rfl F rfl (o_call (F.ev rfl) (F.evs rfl) (Cal.mono (Cal.to (valid_c m s e _) (by rw [hv])) ?_)); clear F; clear a; rintro _ w ⟨rfl, hE⟩ a F; replace M := M.later hE; clear hE)
        refine stepD rfl F rfl (o_not (F.ev rfl) ?_); clear F; clear a; intro a F
        with_reducible refine l_nil ?_
        with_reducible refine q_then ?_
        refine c_false F rfl rfl ?_
        with_reducible refine c_skip ?_
        with_reducible refine q_then ?_
        with_reducible refine c_seq ?_
        with_reducible refine c_seq ?_
        with_reducible refine c_region ?_
        refine stepD rfl F rfl (o_fieldAddr (F.ev rfl) ?_); clear F; clear a; intro a F
        refine stepD rfl F rfl (o_load1 M (F.ev rfl) (by repeat (first | exact .here | apply Has.there)) (by first | assumption | rfl) ?_); clear F; clear a; intro a F
        with_reducible refine l_nil ?_
        with_reducible refine q_then ?_
        with_reducible refine c_block ?_
        with_reducible refine c_seq ?_
        with_reducible refine c_region ?_
        refine stepD rfl F rfl (o_eqlF (F.ev rfl) (F.ev rfl) (by omega) ?_); clear F; clear a; intro a F
        refine stepD rfl F rfl (o_assign (F.ev rfl) ?_); clear F; clear a; intro a F
        with_reducible refine l_nil ?_
        with_reducible refine q_then ?_
        refine c_false F rfl rfl ?_
        with_reducible refine c_seq ?_
        with_reducible refine c_region ?_
        refine stepD rfl F rfl (o_eqlF (F.ev rfl) (F.ev rfl) (by omega) ?_); clear F; clear a; intro a F
        refine stepD rfl F rfl (o_assign (F.ev rfl) ?_); clear F; clear a; intro a F
        with_reducible refine l_nil ?_
        with_reducible refine q_then ?_
        refine c_false F rfl rfl ?_
        with_reducible refine c_skip ?_
        with_reducible refine q_inB ?_
        with_reducible refine q_then ?_
        with_reducible refine c_seq ?_
        with_reducible refine c_region ?_
        refine stepD rfl F rfl (o_assign (F.ev rfl) ?_); clear F; clear a; intro a F
        refine stepD rfl F rfl (o_assign (F.ev rfl) ?_); clear F; clear a; intro a F
        with_reducible refine l_nil ?_
        with_reducible refine q_then ?_
        with_reducible refine c_ret ?_
        refine p_ret F rfl (.cons (.tmp (F.ev rfl)) (.cons (.tmp (F.ev rfl)) .nil)) ?_
        exact ⟨by simp [oneOr, optU, iidA, hv, h2, h3], M.ext⟩
end Go.Proofs.YtadnpidadcgdcaaDoor

/-! Open -/
/-
  The arguments of this seat's laws, opened.
-/
namespace Go.Proofs.YtadnpidadcgdcaaDoor
set_option linter.unusedVariables false
set_option linter.unusedSimpArgs false
open Go.ChangeShapes Go.WideShapes Go.ChangeAt Go.RowKit

def loK : IntKind → Int
  | .i64 => -9223372036854775808 | .u64 => 0 | .u32 => 0 | .u16 => 0 | .u8 => 0 | .i32 => -2147483648 | k => k.min
def hiK : IntKind → Int
  | .i64 => 9223372036854775807 | .u64 => 18446744073709551615 | .u32 => 4294967295 | .u16 => 65535 | .u8 => 255 | .i32 => 2147483647 | k => k.max
theorem int_bd {k : IntKind} {n : Int} (h : (Lit.int k n).wf = true) : loK k ≤ n ∧ n ≤ hiK k := by
  have := wf_bd h
  cases k <;> simp [IntKind.min, IntKind.max, IntKind.signed, IntKind.bits, loK, hiK] at this ⊢ <;> omega
theorem wfV_int {k : IntKind} {v : Value} (h : wfV (.i k) v = true) : ∃ n, v = .int k n ∧ loK k ≤ n ∧ n ≤ hiK k := by
  cases v <;> simp [wfV] at h
  rename_i k' n
  obtain ⟨rfl, hw⟩ := h
  exact ⟨n, rfl, int_bd hw⟩
theorem wfK_cons {k : LK} {ks : List LK} {xs : List Value} (h : wfK (k :: ks) xs = true) : ∃ x ys, xs = x :: ys ∧ wfV k x = true ∧ wfK ks ys = true := by
  cases xs with
  | nil => cases h
  | cons x ys => simp only [wfK, Bool.and_eq_true] at h; exact ⟨x, ys, rfl, h.1, h.2⟩
theorem wfK_nil {xs : List Value} (h : wfK [] xs = true) : xs = [] := by
  cases xs with
  | nil => rfl
  | cons x ys => cases h
theorem ip_wf : ∀ (xs : List Value) (n : Nat), wfK (List.replicate n (.i .u8)) xs = true → ∃ a : List Int, xs = ipC a ∧ a.length = n ∧ ∀ x ∈ a, 0 ≤ x ∧ x < 256
  | [], 0, _ => ⟨[], rfl, rfl, by simp⟩
  | [], n + 1, h => by simp [List.replicate_succ, wfK] at h
  | _ :: _, 0, h => by simp [wfK] at h
  | x :: xs, n + 1, h => by
    simp only [List.replicate_succ, wfK, Bool.and_eq_true] at h
    obtain ⟨a, rfl, hl, hb⟩ := ip_wf xs n h.2
    obtain ⟨m, rfl, h0, h1⟩ := wfV_int h.1
    refine ⟨m :: a, rfl, by simp [hl], fun y hy => ?_⟩
    rcases List.mem_cons.1 hy with rfl | hy
    · simp only [loK, hiK] at h0 h1; omega
    · exact hb y hy
section
variable {H : Type} {enc : TypeId × Value → H} {w : World} {r : Reach} {b0 base : Nat} {sp : Nat → Bool} {held : Bool} {v : Value} {d : DataW H} {p : List MemPlace}
set_option maxRecDepth 100000 in
theorem open_ip (hval : Value.okWide Tryd.prog w r b0 23 v) (h : DataW.Trod enc Tryd.prog w base sp held 23 v d p) : ∃ a, IsIP a ∧ v = .agg (ipC a).toArray := by
  obtain ⟨xs, rfl, hw⟩ := open_lf (ks := List.replicate 16 (.i .u8)) (by kernel_rfl) hval h
  obtain ⟨a, rfl, hl, hb⟩ := ip_wf xs 16 hw
  exact ⟨a, ⟨hl, hb⟩, rfl⟩
theorem wfK_split : ∀ {ks ks' : List LK} {xs : List Value}, wfK (ks ++ ks') xs = true → ∃ ys zs, xs = ys ++ zs ∧ wfK ks ys = true ∧ wfK ks' zs = true
  | [], ks', xs, h => ⟨[], xs, rfl, rfl, h⟩
  | k :: ks, ks', [], h => by cases h
  | k :: ks, ks', x :: xs, h => by
    simp only [List.cons_append, wfK, Bool.and_eq_true] at h
    obtain ⟨ys, zs, rfl, h1, h2⟩ := wfK_split h.2
    exact ⟨x :: ys, zs, rfl, by simp [wfK, h.1, h1], h2⟩
set_option maxRecDepth 100000 in
theorem open_pf (hval : Value.okWide Tryd.prog w r b0 35 v) (h : DataW.Trod enc Tryd.prog w base sp held 35 v d p) : ∃ a n, IsIP a ∧ (-9223372036854775808 ≤ n ∧ n ≤ 9223372036854775807) ∧ v = .agg (pfC a n).toArray := by
  obtain ⟨xs, rfl, hw⟩ := open_lf (ks := List.replicate 16 (.i .u8) ++ [.i .i64]) (by kernel_rfl) hval h
  obtain ⟨ys, zs, rfl, h1, h2⟩ := wfK_split hw
  obtain ⟨a, rfl, hl, hb⟩ := ip_wf ys 16 h1
  obtain ⟨z, zs, rfl, h3, h4⟩ := wfK_cons h2
  obtain rfl := wfK_nil h4
  obtain ⟨n, rfl, h5, h6⟩ := wfV_int h3
  exact ⟨a, n, ⟨hl, hb⟩, ⟨h5, h6⟩, rfl⟩
/-- a link address's numbers fit -/
def IsAd (m s e : Int) : Prop := (-9223372036854775808 ≤ m ∧ m ≤ 9223372036854775807) ∧ (0 ≤ s ∧ s ≤ 65535) ∧ (0 ≤ e ∧ e ≤ 18446744073709551615)
set_option maxRecDepth 100000 in
theorem open_ad (hval : Value.okWide Tryd.prog w r b0 47 v) (h : DataW.Trod enc Tryd.prog w base sp held 47 v d p) : ∃ m s e, IsAd m s e ∧ v = .agg (adC m s e).toArray := by
  obtain ⟨xs, rfl, hw⟩ := open_lf (ks := [.i .i64, .i .u16, .i .u64]) (by kernel_rfl) hval h
  obtain ⟨x, xs, rfl, h1, hw⟩ := wfK_cons hw
  obtain ⟨y, xs, rfl, h2, hw⟩ := wfK_cons hw
  obtain ⟨z, xs, rfl, h3, hw⟩ := wfK_cons hw
  obtain rfl := wfK_nil hw
  obtain ⟨m, rfl, a1, a2⟩ := wfV_int h1
  obtain ⟨s, rfl, a3, a4⟩ := wfV_int h2
  obtain ⟨e, rfl, a5, a6⟩ := wfV_int h3
  exact ⟨m, s, e, ⟨⟨a1, a2⟩, ⟨a3, a4⟩, ⟨a5, a6⟩⟩, rfl⟩
end
end Go.Proofs.YtadnpidadcgdcaaDoor

/-! T1 -/
/-
  A tape of numbers: Next.
-/
namespace Go.Proofs.YtadnpidadcgdcaaDoor
set_option linter.unusedVariables false
set_option linter.unusedSimpArgs false
open Go.RowKit
attribute [local irreducible] OpTo wpListIn Code.wpIn MW Cal

/-- Fewer blocks, of which those that are left out have not been turned. -/
theorem Mem.less {S S' : List Nat} {W w : World} {l new : List (Nat × Obj)} (M : Mem S W w l) (h : ∀ k ∈ S, k ∈ S' ∨ ∃ o, Has l k o ∧ W.heap[k]? = some o) (hs : new.Sublist l) (hn : ∀ p ∈ new, p.1 ∈ S → p.1 ∈ S') : Mem S' W w new :=
  ⟨⟨M.ext.os, M.ext.tape, M.ext.output, M.ext.size, fun k hk hS' => by
    by_cases hS : k ∈ S
    · rcases h k hS with h1 | ⟨o, h1, h2⟩
      · exact absurd h1 hS'
      · rw [M.heap h1, h2]
    · exact M.ext.block k hk hS⟩, fun p hp => M.at_ p (hs.subset hp), M.nd.sublist (hs.map _), fun p hp => (M.own p (hs.subset hp)).imp_left (hn p hp)⟩

/-- the tape's block -/
def tobj (p : Option Addr) (len cap k : Nat) : Obj := .cells [.slice p len cap, .int .i64 k].toArray 95 (0, 0)
def i64C (xs : List Int) : List Value := xs.map (Value.int .i64)
/-- what its numbers are -/
structure TapeS (W : World) (bt : Nat) (p : Option Addr) (len : Nat) (xs : List Int) : Prop where
  lenE : xs.length = len
  small : len ≤ 400
  bd : ∀ x ∈ xs, -9223372036854775808 ≤ x ∧ x ≤ 9223372036854775807
  mem : 0 < len → ∃ b o cs t fz, p = some ⟨b, o, none⟩ ∧ b ≠ bt ∧ W.heap[b]? = some (.cells cs t fz) ∧ seg cs.toList o len = some (i64C xs)
theorem TapeS.later {W w : World} {bt : Nat} {p : Option Addr} {len : Nat} {xs : List Int} (h : TapeS W bt p len xs) (E : Ext [bt] W w) : TapeS w bt p len xs :=
  ⟨h.lenE, h.small, h.bd, fun hl => by
    obtain ⟨b, o, cs, t, fz, h1, h2, h3, h4⟩ := h.mem hl
    exact ⟨b, o, cs, t, fz, h1, h2, by rw [E.block b (Array.getElem?_eq_some_iff.1 h3).1 (by simpa using h2)]; exact h3, h4⟩⟩
def nxV (xs : List Int) (k : Nat) (n : Int) : Int := if k < xs.length then modI (xs.getD k 0) n else 0
def nxK (xs : List Int) (k : Nat) : Nat := if k < xs.length then k + 1 else k
theorem nxK_le {xs : List Int} {k : Nat} (h : k ≤ xs.length) : nxK xs k ≤ xs.length := by unfold nxK; split <;> omega
theorem nxV_bd (xs : List Int) (k : Nat) {n : Int} (hn : 0 < n) : 0 ≤ nxV xs k n ∧ nxV xs k n < n := by
  unfold nxV
  split
  · exact modI_bd _ hn
  · omega

set_option maxHeartbeats 1000000 in
theorem next_c {bt : Nat} {p : Option Addr} {len cap k : Nat} {xs : List Int} (n : Int) (hn : 0 < n) (hn2 : n ≤ 9223372036854775807) (W : World) (hT : TapeS W bt p len xs) (hb : W.heap[bt]? = some (tobj p len cap k)) :
    Cal Tryd.prog 56 [.pointer (some ⟨bt, 0, none⟩), .int .i64 n].toArray W fun v w' => v = .int .i64 (nxV xs k n) ∧ Mem [bt] W w' [(bt, tobj p len cap (nxK xs k))] := by
  have hlen := hT.lenE
  by_cases hk : k < len
  · obtain ⟨b, o, cs, t, fz, rfl, hne, hbb, hs⟩ := hT.mem (by omega)
    have hnt : nth cs.toList (o + (k : Int).toNat * 1) = some (.int .i64 (xs.getD k 0)) := by
      obtain ⟨h1, h2⟩ := seg_spec _ _ _ _ hs
      have h3 := h2 k hk
      rw [nth_spec, show o + (k : Int).toNat * 1 = o + k by omega, h3]
      have hl : k < xs.length := by omega
      simp [i64C, hl]
    have hxk := hT.bd (xs.getD k 0) (by rw [List.getD_eq_getElem?_getD, List.getElem?_eq_getElem (by omega)]; exact List.getElem_mem _)
    have hr := Int.tmod_lt_of_pos (xs.getD k 0) hn
    have hr2 : -n < (xs.getD k 0).tmod n := by have := Int.tmod_lt_of_pos (-(xs.getD k 0)) hn; rw [Int.neg_tmod] at this; omega
    have hsm := hT.small
    have hv : nxV xs k n = modI (xs.getD k 0) n := by unfold nxV; rw [if_pos (by omega)]
    have hkk : nxK xs k = k + 1 := by unfold nxK; rw [if_pos (by omega)]
    rw [hv, hkk]
    unfold modI
    refine fn_ofM (n := 41) [bt,b] Tryd.func56 rfl rfl rfl ?_
    intro a w F M hwW
    replace M := M.came hwW hb (by simp) (by simp)
    replace M := M.came hwW (o := .cells cs.toList.toArray t fz) (by simpa using hbb) (by simp) (by simp; exact fun h => hne h.symm)
    unfold tobj at M
    with_reducible refine c_seq ?_
    with_reducible refine c_region ?_
    refine stepD rfl F rfl (o_assign (F.ev rfl) ?_); clear F; clear a; intro a F
    with_reducible refine l_nil ?_
    with_reducible refine q_then ?_
    with_reducible refine c_seq ?_
    with_reducible refine c_seq ?_
    refine c_draw 10 F (by kernel_rfl) ?_
    intro w1 hE hok
    have M1 := M.later hE
    refine mK hok rfl rfl (fun a' w' F' E' => o_move (F'.ev rfl) ⟨Ext.refl _ _, rfl⟩) ?_
    refine mK hok rfl rfl (fun a' w' F' E' => o_nilCheck (F'.ev rfl) rfl ⟨Ext.refl _ _, rfl⟩) ?_
    refine mK hok rfl rfl (fun a' w' F' E' => o_fieldAddr (F'.ev rfl) ⟨Ext.refl _ _, rfl⟩) ?_
    refine mK hok rfl rfl (fun a' w' F' E' => o_load1 (M1.later E') (F'.ev rfl) (by repeat (first | exact .here | apply Has.there)) (by first | assumption | rfl) ⟨Ext.refl _ _, rfl⟩) ?_
    refine mK hok rfl rfl (fun a' w' F' E' => o_move (F'.ev rfl) ⟨Ext.refl _ _, rfl⟩) ?_
    refine mK hok rfl rfl (fun a' w' F' E' => o_nilCheck (F'.ev rfl) rfl ⟨Ext.refl _ _, rfl⟩) ?_
    refine mK hok rfl rfl (fun a' w' F' E' => o_fieldAddr (F'.ev rfl) ⟨Ext.refl _ _, rfl⟩) ?_
    refine mK hok rfl rfl (fun a' w' F' E' => o_load1 (M1.later E') (F'.ev rfl) (by repeat (first | exact .here | apply Has.there)) (by first | assumption | rfl) ⟨Ext.refl _ _, rfl⟩) ?_
    refine mK hok rfl rfl (fun a' w' F' E' => o_lenSl (F'.ev rfl) ⟨Ext.refl _ _, rfl⟩) ?_
    refine mK hok rfl rfl (fun a' w' F' E' => o_geqF (F'.ev rfl) (F'.ev rfl) (by omega) ⟨Ext.refl _ _, rfl⟩) ?_
    (refine mDone rfl rfl ?_; clear F; clear M; intro a w F hE2 hX hTT hDD hPP; have M := M1.later hE2; clear M1; clear hX; clear hE2; clear hok; clear hE; clear hTT; clear hDD; clear hPP; (try dsimp only at F))
    with_reducible refine l_nil ?_
    with_reducible refine q_then ?_
    refine c_false F rfl rfl ?_
    with_reducible refine c_skip ?_
    with_reducible refine q_then ?_
    with_reducible refine c_seq ?_
    refine c_draw 12 F (by kernel_rfl) ?_
    intro w1 hE hok
    have M1 := M.later hE
    refine mK hok rfl rfl (fun a' w' F' E' => o_move (F'.ev rfl) ⟨Ext.refl _ _, rfl⟩) ?_
    refine mK hok rfl rfl (fun a' w' F' E' => o_nilCheck (F'.ev rfl) rfl ⟨Ext.refl _ _, rfl⟩) ?_
    refine mK hok rfl rfl (fun a' w' F' E' => o_fieldAddr (F'.ev rfl) ⟨Ext.refl _ _, rfl⟩) ?_
    refine mK hok rfl rfl (fun a' w' F' E' => o_load1 (M1.later E') (F'.ev rfl) (by repeat (first | exact .here | apply Has.there)) (by first | assumption | rfl) ⟨Ext.refl _ _, rfl⟩) ?_
    refine mK hok rfl rfl (fun a' w' F' E' => o_move (F'.ev rfl) ⟨Ext.refl _ _, rfl⟩) ?_
    refine mK hok rfl rfl (fun a' w' F' E' => o_nilCheck (F'.ev rfl) rfl ⟨Ext.refl _ _, rfl⟩) ?_
    refine mK hok rfl rfl (fun a' w' F' E' => o_fieldAddr (F'.ev rfl) ⟨Ext.refl _ _, rfl⟩) ?_
    refine mK hok rfl rfl (fun a' w' F' E' => o_load1 (M1.later E') (F'.ev rfl) (by repeat (first | exact .here | apply Has.there)) (by first | assumption | rfl) ⟨Ext.refl _ _, rfl⟩) ?_
    refine mK hok rfl rfl (fun a' w' F' E' => o_indexSl (F'.ev rfl) (F'.ev rfl) (by omega) (by omega) ⟨Ext.refl _ _, rfl⟩) ?_
    refine mK hok rfl rfl (fun a' w' F' E' => o_load1 (M1.later E') (F'.ev rfl) (by repeat (first | exact .here | apply Has.there)) (by first | assumption | rfl) ⟨Ext.refl _ _, rfl⟩) ?_
    refine mK hok rfl rfl (fun a' w' F' E' => o_move (F'.ev rfl) ⟨Ext.refl _ _, rfl⟩) ?_
    refine mK hok rfl rfl (fun a' w' F' E' => o_rem (F'.ev rfl) (F'.ev rfl) (by omega) rfl ⟨Ext.refl _ _, rfl⟩) ?_
    (refine mDone rfl rfl ?_; clear F; clear M; intro a w F hE2 hX hTT hDD hPP; have M := M1.later hE2; clear M1; clear hX; clear hE2; clear hok; clear hE; clear hTT; clear hDD; clear hPP; (try dsimp only at F))
    refine stepD rfl F rfl (o_assign (F.ev rfl) ?_); clear F; clear a; intro a F
    with_reducible refine l_nil ?_
    with_reducible refine q_then ?_
    with_reducible refine c_seq ?_
    with_reducible refine c_region ?_
    refine stepD rfl F rfl (o_move (F.ev rfl) ?_); clear F; clear a; intro a F
    refine stepD rfl F rfl (o_nilCheck (F.ev rfl) rfl ?_); clear F; clear a; intro a F
    refine stepD rfl F rfl (o_fieldAddr (F.ev rfl) ?_); clear F; clear a; intro a F
    refine stepD rfl F rfl (o_load1 M (F.ev rfl) (by repeat (first | exact .here | apply Has.there)) (by first | assumption | rfl) ?_); clear F; clear a; intro a F
    refine stepD rfl F rfl (o_add (F.ev rfl) (F.ev rfl) (w_i64 (by omega) (by omega)) ?_); clear F; clear a; intro a F
    refine stepD rfl F rfl (o_nilCheck (F.ev rfl) rfl ?_); clear F; clear a; intro a F
    refine stepD rfl F rfl (o_fieldAddr (F.ev rfl) ?_); clear F; clear a; intro a F
    (refine stepN rfl F (o_store1 M (F.ev rfl) (F.ev rfl) rfl (by repeat (first | exact .here | apply Has.there)) (by rfl) (by repeat (first | exact .here | apply Upd.there)) ?_); clear F; clear M; intro w M a F)
    with_reducible refine l_nil ?_
    with_reducible refine q_then ?_
    with_reducible refine c_seq ?_
    with_reducible refine c_seq ?_
    with_reducible refine c_region ?_
    refine stepD rfl F rfl (o_move (F.ev rfl) ?_); clear F; clear a; intro a F
    refine stepD rfl F rfl (o_lss (F.ev rfl) (F.ev rfl) ?_); clear F; clear a; intro a F
    with_reducible refine l_nil ?_
    with_reducible refine q_then ?_
    generalize (xs.getD k 0).tmod n = r at *
    have fin : ∀ w', Mem [bt, b] W w' [(b, .cells cs.toList.toArray t fz), (bt, .cells [.slice (some ⟨b, o, none⟩) len cap, .int .i64 ((k : Int) + 1)].toArray 95 (0, 0))] → Mem [bt] W w' [(bt, tobj (some ⟨b, o, none⟩) len cap (k + 1))] := fun w' M' =>
      M'.less (fun q hq => by
        simp only [List.mem_cons, List.not_mem_nil, or_false] at hq
        rcases hq with rfl | rfl
        · exact .inl (by simp)
        · exact .inr ⟨_, .here, by simpa using hbb⟩) (List.sublist_cons_self _ _) (fun q hq _ => by simp at hq; subst hq; simp)
    refine c_if F rfl (fun hc => ?_) (fun hc => ?_)
    · replace hc := of_decide_eq_true hc
      rw [if_pos hc]
      with_reducible refine c_region ?_
      refine stepD rfl F rfl (o_move (F.ev rfl) ?_); clear F; clear a; intro a F
      refine stepD rfl F rfl (o_move (F.ev rfl) ?_); clear F; clear a; intro a F
      refine stepD rfl F rfl (o_add (F.ev rfl) (F.ev rfl) (w_i64 (by omega) (by omega)) ?_); clear F; clear a; intro a F
      refine stepD rfl F rfl (o_assign (F.ev rfl) ?_); clear F; clear a; intro a F
      with_reducible refine l_nil ?_
      with_reducible refine q_then ?_
      with_reducible refine c_seq ?_
      with_reducible refine c_region ?_
      refine stepD rfl F rfl (o_move (F.ev rfl) ?_); clear F; clear a; intro a F
      refine stepD rfl F rfl (o_assign (F.ev rfl) ?_); clear F; clear a; intro a F
      with_reducible refine l_nil ?_
      with_reducible refine q_then ?_
      with_reducible refine c_ret ?_
      refine p_ret F rfl (.cons (.tmp (F.ev rfl)) .nil) ?_
      exact ⟨rfl, fin _ M⟩
    · replace hc := of_decide_eq_false hc
      rw [if_neg hc]
      with_reducible refine c_skip ?_
      with_reducible refine q_then ?_
      with_reducible refine c_seq ?_
      with_reducible refine c_region ?_
      refine stepD rfl F rfl (o_move (F.ev rfl) ?_); clear F; clear a; intro a F
      refine stepD rfl F rfl (o_assign (F.ev rfl) ?_); clear F; clear a; intro a F
      with_reducible refine l_nil ?_
      with_reducible refine q_then ?_
      with_reducible refine c_ret ?_
      refine p_ret F rfl (.cons (.tmp (F.ev rfl)) .nil) ?_
      exact ⟨rfl, fin _ M⟩
  · have hv : nxV xs k n = 0 := by unfold nxV; rw [if_neg (by omega)]
    have hkk : nxK xs k = k := by unfold nxK; rw [if_neg (by omega)]
    rw [hv, hkk]
    refine fn_ofM (n := 41) [bt] Tryd.func56 rfl rfl rfl ?_
    intro a w F M hwW
    replace M := M.came hwW hb (by simp) (by simp)
    unfold tobj at M
    with_reducible refine c_seq ?_
    with_reducible refine c_region ?_
    refine stepD rfl F rfl (o_assign (F.ev rfl) ?_); clear F; clear a; intro a F
    with_reducible refine l_nil ?_
    with_reducible refine q_then ?_
    with_reducible refine c_seq ?_
    with_reducible refine c_seq ?_
    refine c_draw 10 F (by kernel_rfl) ?_
    intro w1 hE hok
    have M1 := M.later hE
    refine mK hok rfl rfl (fun a' w' F' E' => o_move (F'.ev rfl) ⟨Ext.refl _ _, rfl⟩) ?_
    refine mK hok rfl rfl (fun a' w' F' E' => o_nilCheck (F'.ev rfl) rfl ⟨Ext.refl _ _, rfl⟩) ?_
    refine mK hok rfl rfl (fun a' w' F' E' => o_fieldAddr (F'.ev rfl) ⟨Ext.refl _ _, rfl⟩) ?_
    refine mK hok rfl rfl (fun a' w' F' E' => o_load1 (M1.later E') (F'.ev rfl) (by repeat (first | exact .here | apply Has.there)) (by first | assumption | rfl) ⟨Ext.refl _ _, rfl⟩) ?_
    refine mK hok rfl rfl (fun a' w' F' E' => o_move (F'.ev rfl) ⟨Ext.refl _ _, rfl⟩) ?_
    refine mK hok rfl rfl (fun a' w' F' E' => o_nilCheck (F'.ev rfl) rfl ⟨Ext.refl _ _, rfl⟩) ?_
    refine mK hok rfl rfl (fun a' w' F' E' => o_fieldAddr (F'.ev rfl) ⟨Ext.refl _ _, rfl⟩) ?_
    refine mK hok rfl rfl (fun a' w' F' E' => o_load1 (M1.later E') (F'.ev rfl) (by repeat (first | exact .here | apply Has.there)) (by first | assumption | rfl) ⟨Ext.refl _ _, rfl⟩) ?_
    refine mK hok rfl rfl (fun a' w' F' E' => o_lenSl (F'.ev rfl) ⟨Ext.refl _ _, rfl⟩) ?_
    refine mK hok rfl rfl (fun a' w' F' E' => o_geqT (F'.ev rfl) (F'.ev rfl) (by omega) ⟨Ext.refl _ _, rfl⟩) ?_
    (refine mDone rfl rfl ?_; clear F; clear M; intro a w F hE2 hX hTT hDD hPP; have M := M1.later hE2; clear M1; clear hX; clear hE2; clear hok; clear hE; clear hTT; clear hDD; clear hPP; (try dsimp only at F))
    with_reducible refine l_nil ?_
    with_reducible refine q_then ?_
    refine c_true F rfl rfl ?_
    with_reducible refine c_seq ?_
    with_reducible refine c_region ?_
    refine stepD rfl F rfl (o_assign (F.ev rfl) ?_); clear F; clear a; intro a F
    with_reducible refine l_nil ?_
    with_reducible refine q_then ?_
    with_reducible refine c_ret ?_
    with_reducible refine q_thenR ?_
    refine p_ret F rfl (.cons (.tmp (F.ev rfl)) .nil) ?_
    exact ⟨rfl, M⟩
end Go.Proofs.YtadnpidadcgdcaaDoor

/-! T2 -/
/-
  A tape of numbers: New, Bool, Device, Addr.
-/
namespace Go.Proofs.YtadnpidadcgdcaaDoor
set_option linter.unusedVariables false
set_option linter.unusedSimpArgs false
open Go.RowKit
attribute [local irreducible] OpTo wpListIn Code.wpIn MW Cal

/-- Behind a call that turned one block of ours. -/
theorem Mem.turn1 {S : List Nat} {W0 w w' : World} {l l' : List (Nat × Obj)} {b : Nat} {o o' : Obj} (M : Mem S W0 w l) (N : Mem [b] w w' [(b, o')]) (hu : Upd l b o o' l') : Mem S W0 w' l' := M.turned hu N.ext (N.heap .here)

def boolV (xs : List Int) (k : Nat) (n : Int) : Bool := nxV xs k n == n - 1
theorem bool_c {bt : Nat} {p : Option Addr} {len cap k : Nat} {xs : List Int} (n : Int) (hn : 0 < n) (hn2 : n ≤ 9223372036854775807) (W : World) (hT : TapeS W bt p len xs) (hb : W.heap[bt]? = some (tobj p len cap k)) :
    Cal Tryd.prog 57 [.pointer (some ⟨bt, 0, none⟩), .int .i64 n].toArray W fun v w' => v = .bool (boolV xs k n) ∧ Mem [bt] W w' [(bt, tobj p len cap (nxK xs k))] := by
  refine fn_ofM (n := 11) [bt] Tryd.func57 rfl rfl rfl ?_
  intro a w F M hwW
  replace M := M.came hwW hb (by simp) (by simp)
  with_reducible refine c_seq ?_
  with_reducible refine c_region ?_
  refine stepD rfl F rfl (o_assign (F.ev rfl) ?_); clear F; clear a; intro a F
  with_reducible refine l_nil ?_
  with_reducible refine q_then ?_
  with_reducible refine c_seq ?_
  with_reducible refine c_region ?_
  refine stepD rfl F rfl (o_move (F.ev rfl) ?_); clear F; clear a; intro a F
  refine stepD rfl F rfl (o_move (F.ev rfl) ?_); clear F; clear a; intro a F
  (refine stepD rfl F rfl (o_call (F.ev rfl) (F.evs rfl) (Cal.mono (next_c n hn hn2 _ (hT.later M.ext) (M.heap .here) ) ?_)); clear F; clear a; have M0 := M; clear M; rintro _ w ⟨rfl, N⟩ a F)
  replace M := M0.turn1 N .here
  refine stepD rfl F rfl (o_move (F.ev rfl) ?_); clear F; clear a; intro a F
  refine stepD rfl F rfl (o_sub (F.ev rfl) (F.ev rfl) (w_i64 (by omega) (by omega)) ?_); clear F; clear a; intro a F
  refine stepD rfl F rfl (o_eql (F.ev rfl) (F.ev rfl) ?_); clear F; clear a; intro a F
  refine stepD rfl F rfl (o_assign (F.ev rfl) ?_); clear F; clear a; intro a F
  with_reducible refine l_nil ?_
  with_reducible refine q_then ?_
  with_reducible refine c_ret ?_
  refine p_ret F rfl (.cons (.tmp (F.ev rfl)) .nil) ?_
  exact ⟨rfl, M⟩

/-- a device's link address, off the tape -/
def devM (xs : List Int) (k : Nat) : Int := if boolV xs (nxK xs k) 2 then 3 else 2
def devS (xs : List Int) (k : Nat) : Int := if boolV xs (nxK xs k) 2 then 0 else nxV xs k 5
def devE (xs : List Int) (k : Nat) : Int := if boolV xs (nxK xs k) 2 then 144115188075855872 + nxV xs k 5 else 0
theorem device_c {bt : Nat} {p : Option Addr} {len cap k : Nat} {xs : List Int} (W : World) (hT : TapeS W bt p len xs) (hb : W.heap[bt]? = some (tobj p len cap k)) :
    Cal Tryd.prog 65 [.pointer (some ⟨bt, 0, none⟩)].toArray W fun v w' => v = .agg (adC (devM xs k) (devS xs k) (devE xs k)).toArray ∧ Mem [bt] W w' [(bt, tobj p len cap (nxK xs (nxK xs k)))] := by
  have hv := nxV_bd xs k (n := 5) (by omega)
  cases hbv : boolV xs (nxK xs k) 2
  · refine fn_ofM (n := 15) [bt] Tryd.func65 rfl rfl rfl ?_
    intro a w F M hwW
    replace M := M.came hwW hb (by simp) (by simp)
    refine c_seq ?_
    refine c_region ?_
    (refine stepD rfl F rfl (o_alloc M ?_); clear F; clear M; intro b2 w M a F)
    with_reducible refine l_nil ?_
    with_reducible refine q_then ?_
    with_reducible refine c_seq ?_
    with_reducible refine c_region ?_
    refine stepD rfl F rfl (o_move (F.ev rfl) ?_); clear F; clear a; intro a F
    (refine stepD rfl F rfl (o_call (F.ev rfl) (F.evs rfl) (Cal.mono (next_c 5 (by omega) (by omega) _ (hT.later M.ext) (M.heap (.there .here)) ) ?_)); clear F; clear a; have M0 := M; clear M; rintro _ w ⟨rfl, N⟩ a F)
    replace M := M0.turn1 N (.there .here)
    refine stepD rfl F rfl (o_assign (F.ev rfl) ?_); clear F; clear a; intro a F
    with_reducible refine l_nil ?_
    with_reducible refine q_then ?_
    with_reducible refine c_seq ?_
    with_reducible refine c_seq ?_
    with_reducible refine c_region ?_
    refine stepD rfl F rfl (o_move (F.ev rfl) ?_); clear F; clear a; intro a F
    (refine stepD rfl F rfl (o_call (F.ev rfl) (F.evs rfl) (Cal.mono (bool_c 2 (by omega) (by omega) _ (hT.later M.ext) (M.heap (.there .here)) ) ?_)); clear F; clear a; have M0 := M; clear M; rintro _ w ⟨rfl, N⟩ a F)
    replace M := M0.turn1 N (.there .here)
    rw [hbv] at F
    with_reducible refine l_nil ?_
    with_reducible refine q_then ?_
    refine c_false F rfl rfl ?_
    with_reducible refine c_skip ?_
    with_reducible refine q_then ?_
    with_reducible refine c_seq ?_
    with_reducible refine c_region ?_
    refine stepD rfl F rfl (o_move (F.ev rfl) ?_); clear F; clear a; intro a F
    refine stepD rfl F rfl (o_conv (F.ev rfl) (w_u16 (by omega) (by omega)) ?_); clear F; clear a; intro a F
    refine stepD rfl F rfl (o_build F rfl rfl ?_); clear F; clear a; intro a F
    (refine stepN rfl F (o_storeA M (F.ev rfl) (F.ev rfl) (by rfl) (by rfl) (by repeat (first | exact .here | apply Has.there)) (by rfl) (by repeat (first | exact .here | apply Upd.there)) ?_); clear F; clear M; intro w M a F)
    with_reducible refine l_nil ?_
    with_reducible refine q_then ?_
    with_reducible refine c_ret ?_
    refine p_ret F rfl (.cons (.cell (F.ev rfl) (run_loadVar_agg TAgg.h (M.heap .here) rfl)) .nil) ⟨by simp [devM, devS, devE, hbv, adC, oneOr], M.sub (List.sublist_cons_self _ _)⟩
  · refine fn_ofM (n := 15) [bt] Tryd.func65 rfl rfl rfl ?_
    intro a w F M hwW
    replace M := M.came hwW hb (by simp) (by simp)
    refine c_seq ?_
    refine c_region ?_
    (refine stepD rfl F rfl (o_alloc M ?_); clear F; clear M; intro b2 w M a F)
    with_reducible refine l_nil ?_
    with_reducible refine q_then ?_
    with_reducible refine c_seq ?_
    with_reducible refine c_region ?_
    refine stepD rfl F rfl (o_move (F.ev rfl) ?_); clear F; clear a; intro a F
    (refine stepD rfl F rfl (o_call (F.ev rfl) (F.evs rfl) (Cal.mono (next_c 5 (by omega) (by omega) _ (hT.later M.ext) (M.heap (.there .here)) ) ?_)); clear F; clear a; have M0 := M; clear M; rintro _ w ⟨rfl, N⟩ a F)
    replace M := M0.turn1 N (.there .here)
    refine stepD rfl F rfl (o_assign (F.ev rfl) ?_); clear F; clear a; intro a F
    with_reducible refine l_nil ?_
    with_reducible refine q_then ?_
    with_reducible refine c_seq ?_
    with_reducible refine c_seq ?_
    with_reducible refine c_region ?_
    refine stepD rfl F rfl (o_move (F.ev rfl) ?_); clear F; clear a; intro a F
    (refine stepD rfl F rfl (o_call (F.ev rfl) (F.evs rfl) (Cal.mono (bool_c 2 (by omega) (by omega) _ (hT.later M.ext) (M.heap (.there .here)) ) ?_)); clear F; clear a; have M0 := M; clear M; rintro _ w ⟨rfl, N⟩ a F)
    replace M := M0.turn1 N (.there .here)
    rw [hbv] at F
    with_reducible refine l_nil ?_
    with_reducible refine q_then ?_
    refine c_true F rfl rfl ?_
    with_reducible refine c_seq ?_
    with_reducible refine c_region ?_
    refine stepD rfl F rfl (o_move (F.ev rfl) ?_); clear F; clear a; intro a F
    refine stepD rfl F rfl (o_conv (F.ev rfl) (w_u64 (by omega) (by omega)) ?_); clear F; clear a; intro a F
    refine stepD rfl F rfl (o_add (F.ev rfl) (F.ev rfl) (w_u64 (by omega) (by omega)) ?_); clear F; clear a; intro a F
    refine stepD rfl F rfl (o_build F rfl rfl ?_); clear F; clear a; intro a F
    (refine stepN rfl F (o_storeA M (F.ev rfl) (F.ev rfl) (by rfl) (by rfl) (by repeat (first | exact .here | apply Has.there)) (by rfl) (by repeat (first | exact .here | apply Upd.there)) ?_); clear F; clear M; intro w M a F)
    with_reducible refine l_nil ?_
    with_reducible refine q_then ?_
    with_reducible refine c_ret ?_
    with_reducible refine q_thenR ?_
    refine p_ret F rfl (.cons (.cell (F.ev rfl) (run_loadVar_agg TAgg.h (M.heap .here) rfl)) .nil) ⟨by simp [devM, devS, devE, hbv, adC, oneOr], M.sub (List.sublist_cons_self _ _)⟩

/-- a link address, off the tape -/
def addM (xs : List Int) (k : Nat) : Int := if nxV xs k 6 = 4 then 2 else if nxV xs k 6 = 5 then 0 else devM xs (nxK xs k)
def addS (xs : List Int) (k : Nat) : Int := if nxV xs k 6 = 4 then 65535 else if nxV xs k 6 = 5 then 0 else devS xs (nxK xs k)
def addE (xs : List Int) (k : Nat) : Int := if nxV xs k 6 = 4 then 0 else if nxV xs k 6 = 5 then 0 else devE xs (nxK xs k)
def addK (xs : List Int) (k : Nat) : Nat := if nxV xs k 6 = 4 then nxK xs k else if nxV xs k 6 = 5 then nxK xs k else nxK xs (nxK xs (nxK xs k))
theorem addr_c {bt : Nat} {p : Option Addr} {len cap k : Nat} {xs : List Int} (W : World) (hT : TapeS W bt p len xs) (hb : W.heap[bt]? = some (tobj p len cap k)) :
    Cal Tryd.prog 24 [.pointer (some ⟨bt, 0, none⟩)].toArray W fun v w' => v = .agg (adC (addM xs k) (addS xs k) (addE xs k)).toArray ∧ Mem [bt] W w' [(bt, tobj p len cap (addK xs k))] := by
  have hcell : ∀ m s e, (adC m s e).length = 3 := fun _ _ _ => rfl
  by_cases h4 : nxV xs k 6 = 4
  · refine fn_ofM (n := 13) [bt] Tryd.func24 rfl rfl rfl ?_
    intro a w F M hwW
    replace M := M.came hwW hb (by simp) (by simp)
    refine c_seq ?_
    refine c_region ?_
    (refine stepD rfl F rfl (o_alloc M ?_); clear F; clear M; intro b2 w M a F)
    with_reducible refine l_nil ?_
    with_reducible refine q_then ?_
    with_reducible refine c_seq ?_
    with_reducible refine c_seq ?_
    with_reducible refine c_region ?_
    refine stepD rfl F rfl (o_move (F.ev rfl) ?_); clear F; clear a; intro a F
    (refine stepD rfl F rfl (o_call (F.ev rfl) (F.evs rfl) (Cal.mono (next_c 6 (by omega) (by omega) _ (hT.later M.ext) (M.heap (.there .here)) ) ?_)); clear F; clear a; have M0 := M; clear M; rintro _ w ⟨rfl, N⟩ a F)
    replace M := M0.turn1 N (.there .here)
    rw [h4] at F
    with_reducible refine l_nil ?_
    with_reducible refine q_then ?_
    with_reducible refine c_block ?_
    with_reducible refine c_seq ?_
    with_reducible refine c_region ?_
    refine stepD rfl F rfl (o_eqlT (F.ev rfl) (F.ev rfl) (by omega) ?_); clear F; clear a; intro a F
    refine stepD rfl F rfl (o_assign (F.ev rfl) ?_); clear F; clear a; intro a F
    with_reducible refine l_nil ?_
    with_reducible refine q_then ?_
    refine c_true F rfl rfl ?_
    with_reducible refine c_seq ?_
    with_reducible refine c_region ?_
    refine stepD rfl F rfl (o_build F rfl rfl ?_); clear F; clear a; intro a F
    (refine stepN rfl F (o_storeA M (F.ev rfl) (F.ev rfl) (by rfl) (by rfl) (by repeat (first | exact .here | apply Has.there)) (by rfl) (by repeat (first | exact .here | apply Upd.there)) ?_); clear F; clear M; intro w M a F)
    with_reducible refine l_nil ?_
    with_reducible refine q_then ?_
    with_reducible refine c_ret ?_
    with_reducible refine q_inBR ?_
    with_reducible refine q_thenR ?_
    refine p_ret F rfl (.cons (.cell (F.ev rfl) (run_loadVar_agg TAgg.h (M.heap .here) rfl)) .nil) ⟨by simp [addM, addS, addE, h4, adC, oneOr], ?_⟩
    simp only [addK, h4, if_true]
    exact M.sub (List.sublist_cons_self _ _)
  · by_cases h5 : nxV xs k 6 = 5
    · refine fn_ofM (n := 13) [bt] Tryd.func24 rfl rfl rfl ?_
      intro a w F M hwW
      replace M := M.came hwW hb (by simp) (by simp)
      refine c_seq ?_
      refine c_region ?_
      (refine stepD rfl F rfl (o_alloc M ?_); clear F; clear M; intro b2 w M a F)
      with_reducible refine l_nil ?_
      with_reducible refine q_then ?_
      with_reducible refine c_seq ?_
      with_reducible refine c_seq ?_
      with_reducible refine c_region ?_
      refine stepD rfl F rfl (o_move (F.ev rfl) ?_); clear F; clear a; intro a F
      (refine stepD rfl F rfl (o_call (F.ev rfl) (F.evs rfl) (Cal.mono (next_c 6 (by omega) (by omega) _ (hT.later M.ext) (M.heap (.there .here)) ) ?_)); clear F; clear a; have M0 := M; clear M; rintro _ w ⟨rfl, N⟩ a F)
      replace M := M0.turn1 N (.there .here)
      rw [h5] at F
      with_reducible refine l_nil ?_
      with_reducible refine q_then ?_
      with_reducible refine c_block ?_
      with_reducible refine c_seq ?_
      with_reducible refine c_region ?_
      refine stepD rfl F rfl (o_eqlF (F.ev rfl) (F.ev rfl) (by omega) ?_); clear F; clear a; intro a F
      refine stepD rfl F rfl (o_assign (F.ev rfl) ?_); clear F; clear a; intro a F
      with_reducible refine l_nil ?_
      with_reducible refine q_then ?_
      refine c_false F rfl rfl ?_
      with_reducible refine c_seq ?_
      with_reducible refine c_region ?_
      refine stepD rfl F rfl (o_eqlT (F.ev rfl) (F.ev rfl) (by omega) ?_); clear F; clear a; intro a F
      refine stepD rfl F rfl (o_assign (F.ev rfl) ?_); clear F; clear a; intro a F
      with_reducible refine l_nil ?_
      with_reducible refine q_then ?_
      refine c_true F rfl rfl ?_
      with_reducible refine c_seq ?_
      with_reducible refine c_region ?_
      refine stepD rfl F rfl (o_build F rfl rfl ?_); clear F; clear a; intro a F
      (refine stepN rfl F (o_storeA M (F.ev rfl) (F.ev rfl) (by rfl) (by rfl) (by repeat (first | exact .here | apply Has.there)) (by rfl) (by repeat (first | exact .here | apply Upd.there)) ?_); clear F; clear M; intro w M a F)
      with_reducible refine l_nil ?_
      with_reducible refine q_then ?_
      with_reducible refine c_ret ?_
      with_reducible refine q_inBR ?_
      with_reducible refine q_thenR ?_
      refine p_ret F rfl (.cons (.cell (F.ev rfl) (run_loadVar_agg TAgg.h (M.heap .here) rfl)) .nil) ⟨by simp [addM, addS, addE, h5, adC, oneOr], ?_⟩
      simp only [addK, h4, h5, if_true, if_false]
      exact M.sub (List.sublist_cons_self _ _)
    · refine fn_ofM (n := 13) [bt] Tryd.func24 rfl rfl rfl ?_
      intro a w F M hwW
      replace M := M.came hwW hb (by simp) (by simp)
      refine c_seq ?_
      refine c_region ?_
      (refine stepD rfl F rfl (o_alloc M ?_); clear F; clear M; intro b2 w M a F)
      with_reducible refine l_nil ?_
      with_reducible refine q_then ?_
      with_reducible refine c_seq ?_
      with_reducible refine c_seq ?_
      with_reducible refine c_region ?_
      refine stepD rfl F rfl (o_move (F.ev rfl) ?_); clear F; clear a; intro a F
      (refine stepD rfl F rfl (o_call (F.ev rfl) (F.evs rfl) (Cal.mono (next_c 6 (by omega) (by omega) _ (hT.later M.ext) (M.heap (.there .here)) ) ?_)); clear F; clear a; have M0 := M; clear M; rintro _ w ⟨rfl, N⟩ a F)
      replace M := M0.turn1 N (.there .here)
      with_reducible refine l_nil ?_
      with_reducible refine q_then ?_
      with_reducible refine c_block ?_
      with_reducible refine c_seq ?_
      with_reducible refine c_region ?_
      refine stepD rfl F rfl (o_eqlF (F.ev rfl) (F.ev rfl) (by omega) ?_); clear F; clear a; intro a F
      refine stepD rfl F rfl (o_assign (F.ev rfl) ?_); clear F; clear a; intro a F
      with_reducible refine l_nil ?_
      with_reducible refine q_then ?_
      refine c_false F rfl rfl ?_
      with_reducible refine c_seq ?_
      with_reducible refine c_region ?_
      refine stepD rfl F rfl (o_eqlF (F.ev rfl) (F.ev rfl) (by omega) ?_); clear F; clear a; intro a F
      refine stepD rfl F rfl (o_assign (F.ev rfl) ?_); clear F; clear a; intro a F
      with_reducible refine l_nil ?_
      with_reducible refine q_then ?_
      refine c_false F rfl rfl ?_
      with_reducible refine c_skip ?_
      with_reducible refine q_inB ?_
      with_reducible refine q_then ?_
      with_reducible refine c_seq ?_
      with_reducible refine c_region ?_
      refine stepD rfl F rfl (o_move (F.ev rfl) ?_); clear F; clear a; intro a F
      (refine stepD rfl F rfl (o_call (F.ev rfl) (F.evs rfl) (Cal.mono (device_c _ (hT.later M.ext) (M.heap (.there .here)) ) ?_)); clear F; clear a; have M0 := M; clear M; rintro _ w ⟨rfl, N⟩ a F)
      replace M := M0.turn1 N (.there .here)
      skip
      (refine stepN rfl F (o_storeA M (F.ev rfl) (F.ev rfl) (by rfl) (by rfl) (by repeat (first | exact .here | apply Has.there)) (by rfl) (by repeat (first | exact .here | apply Upd.there)) ?_); clear F; clear M; intro w M a F)
      with_reducible refine l_nil ?_
      with_reducible refine q_then ?_
      with_reducible refine c_ret ?_
      refine p_ret F rfl (.cons (.cell (F.ev rfl) (run_loadVar_agg TAgg.h (M.heap .here) rfl)) .nil) ⟨by simp [addM, addS, addE, h4, h5, oneOr, adC], ?_⟩
      simp only [addK, h4, h5, if_false]
      exact M.sub (List.sublist_cons_self _ _)

/-! New -/
/-- a slice of int that came in: its numbers -/
structure IntsAt (W : World) (v : Value) (xs : List Int) : Prop where
  ex : ∃ p cap, v = .slice p xs.length cap ∧ xs.length ≤ cap ∧ (0 < xs.length → ∃ b o cs t fz, p = some ⟨b, o, none⟩ ∧ W.heap[b]? = some (.cells cs t fz) ∧ seg cs.toList o xs.length = some (i64C xs))
  bd : ∀ x ∈ xs, -9223372036854775808 ≤ x ∧ x ≤ 9223372036854775807
  small : xs.length ≤ 9223372036854775807
def cut400 (xs : List Int) : List Int := xs.take 400
theorem seg_eq : ∀ (cs : List Value) (off n : Nat), seg cs off n = if off + n ≤ cs.length then some ((cs.drop off).take n) else none
  | [], 0, 0 => by simp [seg]
  | _ :: _, 0, 0 => by simp [seg]
  | [], 0, n + 1 => by simp [seg]
  | [], off + 1, n => by cases n <;> simp [seg]
  | x :: xs, 0, n + 1 => by
    simp only [seg]
    rw [seg_eq xs 0 n]
    by_cases h : n ≤ xs.length
    · rw [if_pos (by omega), if_pos (by simp; omega)]; simp
    · rw [if_neg (by omega), if_neg (by simp; omega)]
  | x :: xs, off + 1, n => by
    have : seg (x :: xs) (off + 1) n = seg xs off n := by cases n <;> rfl
    rw [this, seg_eq xs off n]
    by_cases h : off + n ≤ xs.length
    · rw [if_pos h, if_pos (by simp; omega)]; simp
    · rw [if_neg h, if_neg (by simp; omega)]
theorem seg_take {cs ys : List Value} {off n m : Nat} (h : seg cs off n = some ys) (hm : m ≤ n) : seg cs off m = some (ys.take m) := by
  rw [seg_eq] at h ⊢
  split at h
  · rename_i hle
    rw [if_pos (by omega)]
    simp only [Option.some.injEq] at h
    subst h
    rw [List.take_take, Nat.min_eq_left hm]
  · cases h
theorem tape_new {W w' : World} {bt : Nat} {p : Option Addr} {xs : List Int} (hE : Ext [] W w') (hbt : W.heap.size ≤ bt) (hbd : ∀ x ∈ xs, -9223372036854775808 ≤ x ∧ x ≤ 9223372036854775807)
    (hm : 0 < xs.length → ∃ b o cs t fz, p = some ⟨b, o, none⟩ ∧ W.heap[b]? = some (.cells cs t fz) ∧ seg cs.toList o xs.length = some (i64C xs)) : TapeS w' bt p (cut400 xs).length (cut400 xs) := by
  refine ⟨rfl, by unfold cut400; rw [List.length_take]; omega, fun x hx => hbd x (List.mem_of_mem_take hx), fun hl => ?_⟩
  have hl0 : 0 < xs.length := by unfold cut400 at hl; rw [List.length_take] at hl; omega
  obtain ⟨b, o, cs, t, fz, h1, h2, h3⟩ := hm hl0
  have hlt := (Array.getElem?_eq_some_iff.1 h2).1
  refine ⟨b, o, cs, t, fz, h1, by omega, by rw [hE.block b hlt (by simp)]; exact h2, ?_⟩
  have := seg_take h3 (show (cut400 xs).length ≤ xs.length by unfold cut400; rw [List.length_take]; omega)
  rw [this]
  unfold i64C cut400
  rw [← List.map_take, List.length_take, Nat.min_comm, ← List.take_take, List.take_of_length_le (show (List.take 400 xs).length ≤ xs.length by rw [List.length_take]; omega)]
set_option maxHeartbeats 400000 in
theorem new_c {p : Option Addr} {cap : Nat} (xs : List Int) (W : World) (hI : IntsAt W (.slice p xs.length cap) xs) (hcap : xs.length ≤ cap) : Cal Tryd.prog 23 [.slice p xs.length cap].toArray W fun x w' => ∃ bt, x = .pointer (some ⟨bt, 0, none⟩) ∧ Mem [] W w' [(bt, tobj p (cut400 xs).length cap 0)] := by
  have hsm := hI.small
  by_cases h4 : 400 < xs.length
  · obtain ⟨b, o, hpp⟩ : ∃ b o, p = some ⟨b, o, none⟩ := by
      obtain ⟨p', cap', h1, _, h3⟩ := hI.ex
      cases h1
      obtain ⟨b, o, _, _, _, h5, _⟩ := h3 (by omega)
      exact ⟨b, o, h5⟩
    have hl : (cut400 xs).length = 400 := by unfold cut400; rw [List.length_take]; omega
    refine fn_ofM (n := 11) [] Tryd.func23 rfl rfl rfl ?_
    intro a w F M hwW
    with_reducible refine c_seq ?_
    with_reducible refine c_region ?_
    refine stepD rfl F rfl (o_assign (F.ev rfl) ?_); clear F; clear a; intro a F
    with_reducible refine l_nil ?_
    with_reducible refine q_then ?_
    with_reducible refine c_seq ?_
    with_reducible refine c_seq ?_
    with_reducible refine c_region ?_
    refine stepD rfl F rfl (o_move (F.ev rfl) ?_); clear F; clear a; intro a F
    refine stepD rfl F rfl (o_lenSl (F.ev rfl) ?_); clear F; clear a; intro a F
    refine stepD rfl F rfl (o_gtrT (F.ev rfl) (F.ev rfl) (by omega) ?_); clear F; clear a; intro a F
    with_reducible refine l_nil ?_
    with_reducible refine q_then ?_
    refine c_true F rfl rfl ?_
    with_reducible refine c_region ?_
    refine stepD rfl F rfl (o_move (F.ev rfl) ?_); clear F; clear a; intro a F
    (refine stepD rfl F rfl (o_slH (F.ev rfl) (F.ev rfl) (fun a ha => by rw [hpp] at ha; cases ha; rfl) (by omega) (by omega) ?_); clear F; clear a; intro a F)
    refine stepD rfl F rfl (o_assign (F.ev rfl) ?_); clear F; clear a; intro a F
    with_reducible refine l_nil ?_
    with_reducible refine q_then ?_
    with_reducible refine c_seq ?_
    with_reducible refine c_region ?_
    refine stepD rfl F rfl (o_move (F.ev rfl) ?_); clear F; clear a; intro a F
    refine stepD rfl F rfl (o_build F rfl rfl ?_); clear F; clear a; intro a F
    (refine stepD rfl F rfl (o_box M (F.ev rfl) rfl ?_); clear F; clear M; intro bt w M a F)
    refine stepD rfl F rfl (o_assign (F.ev rfl) ?_); clear F; clear a; intro a F
    with_reducible refine l_nil ?_
    with_reducible refine q_then ?_
    with_reducible refine c_ret ?_
    refine p_ret F rfl (.cons (.tmp (F.ev rfl)) .nil) ?_
    refine ⟨bt, rfl, ?_⟩
    rw [hl]; exact M
  · have hl : (cut400 xs).length = xs.length := by unfold cut400; rw [List.length_take]; omega
    refine fn_ofM (n := 11) [] Tryd.func23 rfl rfl rfl ?_
    intro a w F M hwW
    with_reducible refine c_seq ?_
    with_reducible refine c_region ?_
    refine stepD rfl F rfl (o_assign (F.ev rfl) ?_); clear F; clear a; intro a F
    with_reducible refine l_nil ?_
    with_reducible refine q_then ?_
    with_reducible refine c_seq ?_
    with_reducible refine c_seq ?_
    with_reducible refine c_region ?_
    refine stepD rfl F rfl (o_move (F.ev rfl) ?_); clear F; clear a; intro a F
    refine stepD rfl F rfl (o_lenSl (F.ev rfl) ?_); clear F; clear a; intro a F
    refine stepD rfl F rfl (o_gtrF (F.ev rfl) (F.ev rfl) (by omega) ?_); clear F; clear a; intro a F
    with_reducible refine l_nil ?_
    with_reducible refine q_then ?_
    refine c_false F rfl rfl ?_
    with_reducible refine c_skip ?_
    with_reducible refine q_then ?_
    with_reducible refine c_seq ?_
    with_reducible refine c_region ?_
    refine stepD rfl F rfl (o_move (F.ev rfl) ?_); clear F; clear a; intro a F
    refine stepD rfl F rfl (o_build F rfl rfl ?_); clear F; clear a; intro a F
    (refine stepD rfl F rfl (o_box M (F.ev rfl) rfl ?_); clear F; clear M; intro bt w M a F)
    refine stepD rfl F rfl (o_assign (F.ev rfl) ?_); clear F; clear a; intro a F
    with_reducible refine l_nil ?_
    with_reducible refine q_then ?_
    with_reducible refine c_ret ?_
    refine p_ret F rfl (.cons (.tmp (F.ev rfl)) .nil) ?_
    refine ⟨bt, rfl, ?_⟩
    rw [hl]; exact M
theorem IntsAt.later {W w : World} {v : Value} {xs : List Int} (h : IntsAt W v xs) (E : Ext [] W w) : IntsAt w v xs := by
  refine ⟨?_, h.bd, h.small⟩
  obtain ⟨p, cap, h1, h2, h3⟩ := h.ex
  refine ⟨p, cap, h1, h2, fun hl => ?_⟩
  obtain ⟨b, o, cs, t, fz, g1, g2, g3⟩ := h3 hl
  exact ⟨b, o, cs, t, fz, g1, by rw [E.block b (Array.getElem?_eq_some_iff.1 g2).1 (by simp)]; exact g2, g3⟩
end Go.Proofs.YtadnpidadcgdcaaDoor

/-! Open2 -/
/-
  Arguments that are slices of int, opened.
-/
namespace Go.Proofs.YtadnpidadcgdcaaDoor
set_option linter.unusedVariables false
set_option linter.unusedSimpArgs false
open Go.ChangeShapes Go.WideShapes Go.ChangeAt Go.RowKit

set_option maxRecDepth 100000 in
theorem open_il {H : Type} {enc : TypeId × Value → H} {w : World} {r : Reach} {b0 base : Nat} {held : Bool} {v : Value} {d : DataW H} {p : List MemPlace} (hval : Value.okWide Tryd.prog w r b0 24 v) (h : DataW.Trod enc Tryd.prog w base (fun _ => true) held 24 v d p) :
    ∃ xs q cap, v = .slice q xs.length cap ∧ xs.length ≤ cap ∧ IntsAt w v xs := by
  obtain ⟨a, len, cap, rfl⟩ := okWide_slice Tryd.underlying24 hval
  obtain ⟨fuel, hf⟩ := h
  have hone : (Value.slice a len cap).cells.toList = [Value.slice a len cap] := rfl
  rw [hone] at hf
  rcases open_ints Tryd.underlying24 Tryd.underlying3 (by kernel_rfl) hf with ⟨h1, _⟩ | ⟨a', len', cap', zs, h1, _, hlc, hcm, hzl, _, hat, hwf⟩
  · cases h1
    exact ⟨[], none, 0, rfl, by simp, ⟨⟨none, 0, rfl, by simp, fun h => absurd h (by simp)⟩, by simp, by simp⟩⟩
  · cases h1
    simp only [if_true] at hzl
    have hml : maxLen = 9223372036854775807 := rfl
    have htl : (zs.take len).length = len := by rw [List.length_take]; omega
    refine ⟨zs.take len, some a', cap, by rw [htl], by omega, ⟨⟨some a', cap, by rw [htl], by omega, fun hl => ?_⟩, fun x hx => ?_, by omega⟩⟩
    · rw [htl] at hl
      have h0 := hat 0 (by omega)
      have hsp : a'.spot = none := by
        cases hs : a'.spot with
        | none => rfl
        | some q =>
          have e0 : a'.add 0 = a' := by simp [Addr.add]
          rw [e0] at h0
          simp only [World.cell?, hs] at h0
          split at h0 <;> simp at h0
      obtain ⟨b, o, sp⟩ := a'
      simp only at hsp
      subst hsp
      have hadd : ∀ i, (⟨b, o, none⟩ : Addr).add i = ⟨b, o + i, none⟩ := fun i => addr_add b o i
      rw [hadd] at h0
      cases hb : w.heap[b]? with
      | none => simp [World.cell?, hb] at h0
      | some ob =>
        cases ob with
        | cells cs t fz =>
          refine ⟨b, o, cs, t, fz, rfl, hb, ?_⟩
          have hcell : ∀ i, i < zs.length → cs[o + i]? = some (.int .i64 (zs.getD i 0)) := fun i hi => by
            have := hat i hi
            rw [hadd] at this
            simpa [World.cell?, hb] using this
          have hle : o + len ≤ cs.toList.length := by
            have := hcell (len - 1) (by omega)
            have := (Array.getElem?_eq_some_iff.1 this).1
            simp only [Array.length_toList]
            omega
          rw [htl, seg_eq, if_pos hle]
          congr 1
          apply List.ext_getElem
          · simp only [List.length_take, List.length_drop, i64C, List.length_map]
            omega
          · intro i h1 h2
            have hi : i < len := by simp only [List.length_take] at h1; omega
            have := hcell i (by omega)
            have h3 := Array.getElem?_eq_some_iff.1 this
            obtain ⟨h4, h5⟩ := h3
            simp only [List.getElem_take, List.getElem_drop, Array.getElem_toList, h5, i64C, List.getElem_map]
            rw [List.getD_eq_getElem?_getD, List.getElem?_eq_getElem (by omega)]
            rfl
        | _ => simp [World.cell?, hb] at h0
    · have := int_bd (hwf x (List.mem_of_mem_take hx))
      exact this
end Go.Proofs.YtadnpidadcgdcaaDoor

/-! Open3 -/
/-
  Arguments that are texts, opened; the second form's bound.
-/
namespace Go.Proofs.YtadnpidadcgdcaaDoor
set_option linter.unusedVariables false
set_option linter.unusedSimpArgs false
open Go.ChangeShapes Go.WideShapes Go.ChangeAt Go.RowKit

theorem bulk_part {H : Type} {d : DataW H} {l : List (DataW H)} (h : d ∈ l) : Rows.uptoBulk d ≤ Rows.uptoBulkAll l := by
  induction l with
  | nil => cases h
  | cons x r ih =>
    simp only [Rows.uptoBulkAll]
    cases List.mem_cons.1 h with
    | inl e => subst e; omega
    | inr e => have := ih e; omega
theorem bulk_bound {H : Type} {l : List (DataW H)} (hk : Rows.uptoSmall H l = true) : Rows.uptoBulkAll l ≤ 1048576 := of_decide_eq_true hk
theorem bulk_string {H : Type} {s : List UInt8} {l : List (DataW H)} (hk : Rows.uptoSmall H l = true) (h : DataW.lit (.string s) ∈ l) : s.length ≤ 1048576 := by
  have h1 := bulk_part h
  have h2 := bulk_bound hk
  simp only [Rows.uptoBulk] at h1
  omega
set_option maxRecDepth 100000 in
theorem open_st {H : Type} {enc : TypeId × Value → H} {w : World} {r : Reach} {b0 base : Nat} {held : Bool} {sp : Nat → Bool} {v : Value} {d : DataW H} {p : List MemPlace} (hval : Value.okWide Tryd.prog w r b0 9 v) (h : DataW.Trod enc Tryd.prog w base sp held 9 v d p) :
    ∃ s : List UInt8, d = .lit (.string s) ∧ v = mkS s := by
  obtain ⟨⟨⟨l⟩⟩, rfl, hd, _, _⟩ := Go.ChangeMaps.open_string Tryd.underlying9 hval h
  exact ⟨l, hd, rfl⟩
end Go.Proofs.YtadnpidadcgdcaaDoor

/-! U1 -/
/-
  address.parseBits, FormatPrefix, ParsePrefix.
-/
namespace Go.Proofs.YtadnpidadcgdcaaDoor
set_option linter.unusedVariables false
set_option linter.unusedSimpArgs false
open Go.RowKit
attribute [local irreducible] OpTo wpListIn Code.wpIn MW Cal

def bitsGo : List UInt8 → Int → Option Int
  | [], g => some g
  | c :: cs, g => if (c.toNat : Int) < 48 ∨ 57 < (c.toNat : Int) then none else bitsGo cs (10 * g + ((c.toNat : Int) - 48))
/-- a prefix's number of bits -/
def bitsV (bs : List UInt8) : Option Int := if bs.length < 1 ∨ 3 < bs.length ∨ (1 < bs.length ∧ ((bs.getD 0 0).toNat : Int) = 48) then none else bitsGo bs 0
theorem getD0 {bs : List UInt8} (h : 0 < bs.length) : bs.getD 0 0 = bs[0] := by rw [List.getD_eq_getElem?_getD, List.getElem?_eq_getElem h]; rfl

set_option maxHeartbeats 1000000 in
theorem parseBits_c (bs : List UInt8) (W : World) :
    Cal Tryd.prog 76 [mkS bs].toArray W fun v w' => v = .tuple #[.int .i64 ((bitsV bs).getD 0), .bool (bitsV bs).isSome] ∧ Ext [] W w' := by
  by_cases h1 : bs.length < 1
  · refine fn_ofM (n := 49) [] Tryd.func76 rfl rfl rfl ?_
    intro a w F M hwW
    with_reducible refine c_seq ?_
    with_reducible refine c_region ?_
    refine stepD rfl F rfl (o_assign (F.ev rfl) ?_); clear F; clear a; intro a F
    refine stepD rfl F rfl (o_assign (F.ev rfl) ?_); clear F; clear a; intro a F
    with_reducible refine l_nil ?_
    with_reducible refine q_then ?_
    with_reducible refine c_seq ?_
    with_reducible refine c_seq ?_
    with_reducible refine c_region ?_
    refine stepD rfl F rfl (o_move (F.ev rfl) ?_); clear F; clear a; intro a F
    refine stepD rfl F rfl (s_len (F.ev rfl) ?_); clear F; clear a; intro a F
    refine stepD rfl F rfl (o_lssT (F.ev rfl) (F.ev rfl) (by omega) ?_); clear F; clear a; intro a F
    refine stepD rfl F rfl (o_move (F.ev rfl) ?_); clear F; clear a; intro a F
    refine stepOff F rfl rfl rfl rfl ?_; clear F; clear a; intro a F
    refine stepOff F rfl rfl rfl rfl ?_; clear F; clear a; intro a F
    refine stepOff F rfl rfl rfl rfl ?_; clear F; clear a; intro a F
    refine stepD rfl F rfl (o_pickT (F.ev rfl) (F.ev rfl) ?_); clear F; clear a; intro a F
    refine stepD rfl F rfl (o_move (F.ev rfl) ?_); clear F; clear a; intro a F
    refine stepOff F rfl rfl rfl rfl ?_; clear F; clear a; intro a F
    refine stepOff F rfl rfl rfl rfl ?_; clear F; clear a; intro a F
    refine stepOff F rfl rfl rfl rfl ?_; clear F; clear a; intro a F
    refine stepOff F rfl rfl rfl rfl ?_; clear F; clear a; intro a F
    refine stepOff F rfl rfl rfl rfl ?_; clear F; clear a; intro a F
    refine stepOff F rfl rfl rfl rfl ?_; clear F; clear a; intro a F
    refine stepOff F rfl rfl rfl rfl ?_; clear F; clear a; intro a F
    refine stepOff F rfl rfl rfl rfl ?_; clear F; clear a; intro a F
    refine stepD rfl F rfl (o_pickT (F.ev rfl) (F.ev rfl) ?_); clear F; clear a; intro a F
    with_reducible refine l_nil ?_
    with_reducible refine q_then ?_
    refine c_true F rfl rfl ?_
    with_reducible refine c_seq ?_
    with_reducible refine c_region ?_
    refine stepD rfl F rfl (o_assign (F.ev rfl) ?_); clear F; clear a; intro a F
    refine stepD rfl F rfl (o_assign (F.ev rfl) ?_); clear F; clear a; intro a F
    with_reducible refine l_nil ?_
    with_reducible refine q_then ?_
    with_reducible refine c_ret ?_
    with_reducible refine q_thenR ?_
    refine p_ret F rfl (.cons (.tmp (F.ev rfl)) (.cons (.tmp (F.ev rfl)) .nil)) ?_
    exact ⟨by simp [bitsV, h1, oneOr], M.ext⟩
  by_cases h3 : 3 < bs.length
  · refine fn_ofM (n := 49) [] Tryd.func76 rfl rfl rfl ?_
    intro a w F M hwW
    with_reducible refine c_seq ?_
    with_reducible refine c_region ?_
    refine stepD rfl F rfl (o_assign (F.ev rfl) ?_); clear F; clear a; intro a F
    refine stepD rfl F rfl (o_assign (F.ev rfl) ?_); clear F; clear a; intro a F
    with_reducible refine l_nil ?_
    with_reducible refine q_then ?_
    with_reducible refine c_seq ?_
    with_reducible refine c_seq ?_
    with_reducible refine c_region ?_
    refine stepD rfl F rfl (o_move (F.ev rfl) ?_); clear F; clear a; intro a F
    refine stepD rfl F rfl (s_len (F.ev rfl) ?_); clear F; clear a; intro a F
    refine stepD rfl F rfl (o_lssF (F.ev rfl) (F.ev rfl) (by omega) ?_); clear F; clear a; intro a F
    refine stepD rfl F rfl (o_move (F.ev rfl) ?_); clear F; clear a; intro a F
    refine stepG rfl F rfl rfl rfl (o_move (F.ev rfl) ?_); clear F; clear a; intro a F
    refine stepG rfl F rfl rfl rfl (s_len (F.ev rfl) ?_); clear F; clear a; intro a F
    refine stepG rfl F rfl rfl rfl (o_gtrT (F.ev rfl) (F.ev rfl) (by omega) ?_); clear F; clear a; intro a F
    refine stepD rfl F rfl (o_pickF (F.ev rfl) (F.ev rfl) ?_); clear F; clear a; intro a F
    refine stepD rfl F rfl (o_move (F.ev rfl) ?_); clear F; clear a; intro a F
    refine stepOff F rfl rfl rfl rfl ?_; clear F; clear a; intro a F
    refine stepOff F rfl rfl rfl rfl ?_; clear F; clear a; intro a F
    refine stepOff F rfl rfl rfl rfl ?_; clear F; clear a; intro a F
    refine stepOff F rfl rfl rfl rfl ?_; clear F; clear a; intro a F
    refine stepOff F rfl rfl rfl rfl ?_; clear F; clear a; intro a F
    refine stepOff F rfl rfl rfl rfl ?_; clear F; clear a; intro a F
    refine stepOff F rfl rfl rfl rfl ?_; clear F; clear a; intro a F
    refine stepOff F rfl rfl rfl rfl ?_; clear F; clear a; intro a F
    refine stepD rfl F rfl (o_pickT (F.ev rfl) (F.ev rfl) ?_); clear F; clear a; intro a F
    with_reducible refine l_nil ?_
    with_reducible refine q_then ?_
    refine c_true F rfl rfl ?_
    with_reducible refine c_seq ?_
    with_reducible refine c_region ?_
    refine stepD rfl F rfl (o_assign (F.ev rfl) ?_); clear F; clear a; intro a F
    refine stepD rfl F rfl (o_assign (F.ev rfl) ?_); clear F; clear a; intro a F
    with_reducible refine l_nil ?_
    with_reducible refine q_then ?_
    with_reducible refine c_ret ?_
    with_reducible refine q_thenR ?_
    refine p_ret F rfl (.cons (.tmp (F.ev rfl)) (.cons (.tmp (F.ev rfl)) .nil)) ?_
    exact ⟨by simp [bitsV, h3, oneOr], M.ext⟩
  have hz := getD0 (bs := bs) (by omega)
  have hp0 : 0 < bs.length := by omega
  by_cases h0 : 1 < bs.length ∧ ((bs[0]).toNat : Int) = 48
  · obtain ⟨hl1, hb0⟩ := h0
    refine fn_ofM (n := 49) [] Tryd.func76 rfl rfl rfl ?_
    intro a w F M hwW
    with_reducible refine c_seq ?_
    with_reducible refine c_region ?_
    refine stepD rfl F rfl (o_assign (F.ev rfl) ?_); clear F; clear a; intro a F
    refine stepD rfl F rfl (o_assign (F.ev rfl) ?_); clear F; clear a; intro a F
    with_reducible refine l_nil ?_
    with_reducible refine q_then ?_
    with_reducible refine c_seq ?_
    with_reducible refine c_seq ?_
    with_reducible refine c_region ?_
    refine stepD rfl F rfl (o_move (F.ev rfl) ?_); clear F; clear a; intro a F
    refine stepD rfl F rfl (s_len (F.ev rfl) ?_); clear F; clear a; intro a F
    refine stepD rfl F rfl (o_lssF (F.ev rfl) (F.ev rfl) (by omega) ?_); clear F; clear a; intro a F
    refine stepD rfl F rfl (o_move (F.ev rfl) ?_); clear F; clear a; intro a F
    refine stepG rfl F rfl rfl rfl (o_move (F.ev rfl) ?_); clear F; clear a; intro a F
    refine stepG rfl F rfl rfl rfl (s_len (F.ev rfl) ?_); clear F; clear a; intro a F
    refine stepG rfl F rfl rfl rfl (o_gtrF (F.ev rfl) (F.ev rfl) (by omega) ?_); clear F; clear a; intro a F
    refine stepD rfl F rfl (o_pickF (F.ev rfl) (F.ev rfl) ?_); clear F; clear a; intro a F
    refine stepD rfl F rfl (o_move (F.ev rfl) ?_); clear F; clear a; intro a F
    refine stepG rfl F rfl rfl rfl (o_move (F.ev rfl) ?_); clear F; clear a; intro a F
    refine stepG rfl F rfl rfl rfl (s_len (F.ev rfl) ?_); clear F; clear a; intro a F
    refine stepG rfl F rfl rfl rfl (o_gtrT (F.ev rfl) (F.ev rfl) (by omega) ?_); clear F; clear a; intro a F
    refine stepG rfl F rfl rfl rfl (o_move (F.ev rfl) ?_); clear F; clear a; intro a F
    refine stepG rfl F rfl rfl rfl (o_move (F.ev rfl) ?_); clear F; clear a; intro a F
    refine stepG rfl F rfl rfl rfl (s_idx (F.ev rfl) (F.ev rfl) rfl (by omega) ?_); clear F; clear a; intro a F
    refine stepG rfl F rfl rfl rfl (o_eqlT (F.ev rfl) (F.ev rfl) (by omega) ?_); clear F; clear a; intro a F
    refine stepG rfl F rfl rfl rfl (o_pickT (F.ev rfl) (F.ev rfl) ?_); clear F; clear a; intro a F
    refine stepD rfl F rfl (o_pickF (F.ev rfl) (F.ev rfl) ?_); clear F; clear a; intro a F
    with_reducible refine l_nil ?_
    with_reducible refine q_then ?_
    refine c_true F rfl rfl ?_
    with_reducible refine c_seq ?_
    with_reducible refine c_region ?_
    refine stepD rfl F rfl (o_assign (F.ev rfl) ?_); clear F; clear a; intro a F
    refine stepD rfl F rfl (o_assign (F.ev rfl) ?_); clear F; clear a; intro a F
    with_reducible refine l_nil ?_
    with_reducible refine q_then ?_
    with_reducible refine c_ret ?_
    with_reducible refine q_thenR ?_
    refine p_ret F rfl (.cons (.tmp (F.ev rfl)) (.cons (.tmp (F.ev rfl)) .nil)) ?_
    exact ⟨by rw [show bitsV bs = none from if_pos (.inr (.inr ⟨hl1, by rw [hz]; exact hb0⟩))]; rfl, M.ext⟩
  have hg : bitsV bs = bitsGo bs 0 := if_neg (by rw [hz]; omega)
  rw [hg]
  clear hg
  have hcase : bs.length = 1 ∨ (1 < bs.length ∧ ((bs[0]).toNat : Int) ≠ 48) := by omega
  rcases hcase with hone | ⟨hmore, hne⟩
  all_goals
    refine fn_ofM (n := 49) [] Tryd.func76 rfl rfl rfl ?_
    intro a w F M hwW
    repeat (first | (with_reducible refine c_seq ?_) | (with_reducible refine c_region ?_) | (with_reducible refine l_nil ?_) | (with_reducible refine q_then ?_) | (with_reducible refine c_block ?_) | (with_reducible refine c_skip ?_) | (refine c_false F rfl rfl ?_) | (refine stepD rfl F rfl (o_move (F.ev rfl) ?_); clear F; clear a; intro a F) | (refine stepD rfl F rfl (o_assign (F.ev rfl) ?_); clear F; clear a; intro a F) | (refine stepD rfl F rfl (o_lssF (F.ev rfl) (F.ev rfl) (by omega) ?_); clear F; clear a; intro a F) | (refine stepD rfl F rfl (o_pickF (F.ev rfl) (F.ev rfl) ?_); clear F; clear a; intro a F) | (refine stepD rfl F rfl (s_len (F.ev rfl) ?_); clear F; clear a; intro a F) | (refine stepOff F rfl rfl rfl rfl ?_; clear F; clear a; intro a F) | (refine stepG rfl F rfl rfl rfl (o_move (F.ev rfl) ?_); clear F; clear a; intro a F) | (refine stepG rfl F rfl rfl rfl (o_gtrT (F.ev rfl) (F.ev rfl) (by omega) ?_); clear F; clear a; intro a F) | (refine stepG rfl F rfl rfl rfl (o_gtrF (F.ev rfl) (F.ev rfl) (by omega) ?_); clear F; clear a; intro a F) | (refine stepG rfl F rfl rfl rfl (o_eqlF (F.ev rfl) (F.ev rfl) (by omega) ?_); clear F; clear a; intro a F) | (refine stepG rfl F rfl rfl rfl (o_pickT (F.ev rfl) (F.ev rfl) ?_); clear F; clear a; intro a F) | (refine stepG rfl F rfl rfl rfl (o_pickF (F.ev rfl) (F.ev rfl) ?_); clear F; clear a; intro a F) | (refine stepG rfl F rfl rfl rfl (s_len (F.ev rfl) ?_); clear F; clear a; intro a F) | (refine stepG rfl F rfl rfl rfl (s_idx (F.ev rfl) (F.ev rfl) rfl (by omega) ?_); clear F; clear a; intro a F))
    refine c_loop (fun k a w => ∃ (i : Nat) (g : Int), k = bs.length - i ∧ i ≤ bs.length ∧ 0 ≤ g ∧ g < 10 ^ i ∧ bitsGo bs 0 = bitsGo (bs.drop i) g ∧ Frm a 49 [] [(26, .int .i64 i), (25, .int .i64 bs.length), (4, .int .i64 g), (0, mkS bs)] ∧ Mem [] W w []) bs.length ⟨0, 0, rfl, by omega, by omega, by omega, rfl, F.only [26, 25, 4, 0] rfl, M⟩ ?_
    clear F M
    rintro k a w ⟨i, g, hk, hi, hg0, hg1, hgo, F, M⟩
    by_cases hlt : i < bs.length
    · have hpow : (10 : Int) ^ i ≤ 1000 := by
        have h3 : i = 0 ∨ i = 1 ∨ i = 2 := by omega
        rcases h3 with rfl | rfl | rfl <;> decide
      have hdrop : bs.drop i = bs[i] :: bs.drop (i + 1) := List.drop_eq_getElem_cons hlt
      have hb := byte_lt bs[i]
      have hcase : ((bs[i]).toNat : Int) < 48 ∨ 57 < ((bs[i]).toNat : Int) ∨ (48 ≤ ((bs[i]).toNat : Int) ∧ ((bs[i]).toNat : Int) ≤ 57) := by omega
      rcases hcase with hc | hc | hc
      · repeat (first | (with_reducible refine c_seq ?_) | (with_reducible refine c_region ?_) | (with_reducible refine l_nil ?_) | (with_reducible refine q_then ?_) | (with_reducible refine c_block ?_) | (with_reducible refine c_skip ?_) | (with_reducible refine c_ret ?_) | (with_reducible refine q_thenR ?_) | (with_reducible refine q_inBR ?_) | (refine c_true F rfl rfl ?_) | (refine stepD rfl F rfl (o_move (F.ev rfl) ?_); clear F; clear a; intro a F) | (refine stepD rfl F rfl (o_assign (F.ev rfl) ?_); clear F; clear a; intro a F) | (refine stepD rfl F rfl (o_lssT (F.ev rfl) (F.ev rfl) (by omega) ?_); clear F; clear a; intro a F) | (refine stepD rfl F rfl (o_pickT (F.ev rfl) (F.ev rfl) ?_); clear F; clear a; intro a F) | (refine stepD rfl F rfl (s_idx (F.ev rfl) (F.ev rfl) rfl (by omega) ?_); clear F; clear a; intro a F) | (refine stepOff F rfl rfl rfl rfl ?_; clear F; clear a; intro a F))
        refine p_ret F rfl (.cons (.tmp (F.ev rfl)) (.cons (.tmp (F.ev rfl)) .nil)) ?_
        refine ⟨?_, M.ext⟩
        rw [hgo, hdrop]; simp [bitsGo, hc, oneOr]
      · repeat (first | (with_reducible refine c_seq ?_) | (with_reducible refine c_region ?_) | (with_reducible refine l_nil ?_) | (with_reducible refine q_then ?_) | (with_reducible refine c_block ?_) | (with_reducible refine c_skip ?_) | (with_reducible refine c_ret ?_) | (with_reducible refine q_thenR ?_) | (with_reducible refine q_inBR ?_) | (refine c_true F rfl rfl ?_) | (refine stepD rfl F rfl (o_move (F.ev rfl) ?_); clear F; clear a; intro a F) | (refine stepD rfl F rfl (o_assign (F.ev rfl) ?_); clear F; clear a; intro a F) | (refine stepD rfl F rfl (o_lssT (F.ev rfl) (F.ev rfl) (by omega) ?_); clear F; clear a; intro a F) | (refine stepD rfl F rfl (o_lssF (F.ev rfl) (F.ev rfl) (by omega) ?_); clear F; clear a; intro a F) | (refine stepD rfl F rfl (o_pickF (F.ev rfl) (F.ev rfl) ?_); clear F; clear a; intro a F) | (refine stepD rfl F rfl (s_idx (F.ev rfl) (F.ev rfl) rfl (by omega) ?_); clear F; clear a; intro a F) | (refine stepG rfl F rfl rfl rfl (o_move (F.ev rfl) ?_); clear F; clear a; intro a F) | (refine stepG rfl F rfl rfl rfl (o_gtrT (F.ev rfl) (F.ev rfl) (by omega) ?_); clear F; clear a; intro a F) | (refine stepG rfl F rfl rfl rfl (s_idx (F.ev rfl) (F.ev rfl) rfl (by omega) ?_); clear F; clear a; intro a F))
        refine p_ret F rfl (.cons (.tmp (F.ev rfl)) (.cons (.tmp (F.ev rfl)) .nil)) ?_
        refine ⟨?_, M.ext⟩
        rw [hgo, hdrop]; simp [bitsGo, hc, oneOr]
      · repeat (first | (with_reducible refine c_seq ?_) | (with_reducible refine c_region ?_) | (with_reducible refine l_nil ?_) | (with_reducible refine q_then ?_) | (with_reducible refine c_block ?_) | (with_reducible refine c_skip ?_) | (with_reducible refine q_inB ?_) | (refine c_true F rfl rfl ?_) | (refine c_false F rfl rfl ?_) | (refine stepD rfl F rfl (o_move (F.ev rfl) ?_); clear F; clear a; intro a F) | (refine stepD rfl F rfl (o_assign (F.ev rfl) ?_); clear F; clear a; intro a F) | (refine stepD rfl F rfl (o_lssT (F.ev rfl) (F.ev rfl) (by omega) ?_); clear F; clear a; intro a F) | (refine stepD rfl F rfl (o_lssF (F.ev rfl) (F.ev rfl) (by omega) ?_); clear F; clear a; intro a F) | (refine stepD rfl F rfl (o_add (F.ev rfl) (F.ev rfl) (w_i64 (by omega) (by omega)) ?_); clear F; clear a; intro a F) | (refine stepD rfl F rfl (o_sub (F.ev rfl) (F.ev rfl) (w_u8 (by omega) (by omega)) ?_); clear F; clear a; intro a F) | (refine stepD rfl F rfl (o_mul (F.ev rfl) (F.ev rfl) (w_i64 (by omega) (by omega)) ?_); clear F; clear a; intro a F) | (refine stepD rfl F rfl (o_conv (F.ev rfl) (w_i64 (by omega) (by omega)) ?_); clear F; clear a; intro a F) | (refine stepD rfl F rfl (o_pickF (F.ev rfl) (F.ev rfl) ?_); clear F; clear a; intro a F) | (refine stepD rfl F rfl (s_idx (F.ev rfl) (F.ev rfl) rfl (by omega) ?_); clear F; clear a; intro a F) | (refine stepG rfl F rfl rfl rfl (o_move (F.ev rfl) ?_); clear F; clear a; intro a F) | (refine stepG rfl F rfl rfl rfl (o_gtrF (F.ev rfl) (F.ev rfl) (by omega) ?_); clear F; clear a; intro a F) | (refine stepG rfl F rfl rfl rfl (s_idx (F.ev rfl) (F.ev rfl) rfl (by omega) ?_); clear F; clear a; intro a F))
        refine ⟨_, by omega, i + 1, 10 * g + (((bs[i]).toNat : Int) - 48), rfl, by omega, by omega, by rw [Int.pow_succ]; omega, ?_, F.only [26, 25, 4, 0] rfl, M⟩
        rw [hgo, hdrop, bitsGo, if_neg (by omega)]
    · obtain rfl : i = bs.length := by omega
      repeat (first | (with_reducible refine c_seq ?_) | (with_reducible refine c_region ?_) | (with_reducible refine l_nil ?_) | (with_reducible refine q_then ?_) | (with_reducible refine c_exit ?_) | (with_reducible refine q_thenX ?_) | (with_reducible refine q_inBX ?_) | (with_reducible refine c_ret ?_) | (refine c_false F rfl rfl ?_) | (refine stepD rfl F rfl (o_move (F.ev rfl) ?_); clear F; clear a; intro a F) | (refine stepD rfl F rfl (o_assign (F.ev rfl) ?_); clear F; clear a; intro a F) | (refine stepD rfl F rfl (o_lssF (F.ev rfl) (F.ev rfl) (by omega) ?_); clear F; clear a; intro a F))
      refine p_ret F rfl (.cons (.tmp (F.ev rfl)) (.cons (.tmp (F.ev rfl)) .nil)) ?_
      refine ⟨?_, M.ext⟩
      rw [hgo]; simp [bitsGo, oneOr]

theorem cutS_c (s p : List UInt8) (hs : s.length < 4294967281) (W : World) (hG : GM W) : Cal Tryd.prog 58 [mkS s, mkS p].toArray W fun v w' => v = .tuple #[mkS (Lib.cut s p).1, mkS (Lib.cut s p).2.1, .bool (Lib.cut s p).2.2] ∧ Ext [] W w' := by
  obtain ⟨m, hm⟩ := hG
  exact Cal.of_calls (Tryd.strings_Cut ⟨s.toArray⟩ ⟨p.toArray⟩ m W (by simpa [mkS_size] using hs) hm) fun e w' ⟨he, n, hw⟩ => ⟨_, he, rfl, by rw [hw]; exact Ext.drawn _ _⟩
theorem Ext.grow (w : World) (k : Nat) (os : Array Obj) : Ext [] w (Sort.grow (w.drewN k) os) :=
  ⟨rfl, rfl, rfl, by simp [Sort.grow, World.drewN], fun j hj _ => by
    show (w.heap ++ os)[j]? = w.heap[j]?
    rw [Array.getElem?_append_left hj]⟩
/-- the table that strconv.Itoa looks at -/
def GI (W : World) : Prop := Lib.TabIs Tryd.prog W "internal/strconv.uint64pow10" .u64 Lib.pow10Tab
theorem GI.later {W w : World} (h : GI W) (e : Ext [] W w) : GI w := by
  unfold GI Lib.TabIs World.var? at *
  cases hg : Program.globalNamed Tryd.prog "internal/strconv.uint64pow10" with
  | none => simp [hg] at h
  | some g =>
    simp only [hg, Option.bind_some] at h ⊢
    cases ho : W.heap[g]? with
    | none => simp [ho] at h
    | some o => rw [e.block g (Array.getElem?_eq_some_iff.1 ho).1 (by simp)]; exact h
theorem itoa_c (n : Int) (h0 : 0 ≤ n) (h1 : n ≤ 9223372036854775807) (W : World) (hT : GI W) : Cal Tryd.prog 77 [.int .i64 n].toArray W fun v w' => v = mkS (Lib.itoa n) ∧ Ext [] W w' :=
  Cal.of_calls (Tryd.strconv_Itoa n (by omega) h1 W hT) fun e w' ⟨he, k, os, hw⟩ => ⟨_, he, rfl, by rw [hw]; exact Ext.grow _ _ _⟩
theorem formatI_len (ip : List Int) : (txt (formatI ip)).length ≤ 40 := by
  have := fall_len (zall (grps ip)).1 (zall (grps ip)).2.1 (grps ip) []
  have h8 : (grps ip).length = 8 := by simp [grps]
  rw [h8] at this
  simpa [txt, formatI, fall] using this
/-- FormatPrefix -/
def formatPV (p : List Int) (n : Int) : List UInt8 := if validP p n then txt (formatI p) ++ [47] ++ Lib.itoa n else []
set_option maxHeartbeats 2000000 in
theorem formatPrefix_c (p : List Int) (n : Int) (hp : IsIP p) (W : World) (hG : GT W) (hI : GI W) : Cal Tryd.prog 38 [.agg (pfC p n).toArray].toArray W fun v w' => v = mkS (formatPV p n) ∧ Ext [] W w' := by
  have e1 := seg_pf hp.len n
  have e2 := seg_pf0 hp.len n
  have e3 := nth_pf hp.len n
  refine fn_ofM (n := 14) [] Tryd.func38 rfl rfl rfl ?_
  intro a w F M hwW
  refine c_seq ?_
  refine c_region ?_
  (refine stepD rfl F rfl (o_box M (F.ev rfl) rfl ?_); clear F; clear M; intro b1 w M a F)
  refine stepD rfl F rfl (o_assign (F.ev rfl) ?_); clear F; clear a; intro a F
  with_reducible refine l_nil ?_
  with_reducible refine q_then ?_
  with_reducible refine c_seq ?_
  with_reducible refine c_seq ?_
  with_reducible refine c_region ?_
  refine stepD rfl F rfl (o_loadA M (F.ev rfl) (by repeat (first | exact .here | apply Has.there)) (by first | assumption | rfl) ?_); clear F; clear a; intro a F
  (refine stepD rfl F rfl (o_call (F.ev rfl) (F.evs rfl) (Cal.mono (validPrefix_c p n hp.len _) ?_)); clear F; clear a; rintro _ w ⟨rfl, hE⟩ a F; replace M := M.later hE; clear hE)
  cases hv : validP p n
  · rw [hv] at F
    refine stepD rfl F rfl (o_not (F.ev rfl) ?_); clear F; clear a; intro a F
    with_reducible refine l_nil ?_
    with_reducible refine q_then ?_
    refine c_true F rfl rfl ?_
    with_reducible refine c_seq ?_
    with_reducible refine c_region ?_
    refine stepD rfl F rfl (o_assign (F.ev rfl) ?_); clear F; clear a; intro a F
    with_reducible refine l_nil ?_
    with_reducible refine q_then ?_
    with_reducible refine c_ret ?_
    with_reducible refine q_thenR ?_
    refine p_ret F rfl (.cons (.tmp (F.ev rfl)) .nil) ?_
    exact ⟨by simp [formatPV, hv, oneOr], M.ext⟩
  · rw [hv] at F
    have hb := validP_bd hv
    have hl1 := formatI_len p
    have hl2 := Lib.itoa_length_le n (by omega) (by omega)
    refine stepD rfl F rfl (o_not (F.ev rfl) ?_); clear F; clear a; intro a F
    with_reducible refine l_nil ?_
    with_reducible refine q_then ?_
    refine c_false F rfl rfl ?_
    with_reducible refine c_skip ?_
    with_reducible refine q_then ?_
    with_reducible refine c_seq ?_
    refine c_draw 8 F (by kernel_rfl) ?_
    intro w1 hE hok
    have M1 := M.later hE
    refine mK hok rfl rfl (fun a' w' F' E' => o_fieldAddr (F'.ev rfl) ⟨Ext.refl _ _, rfl⟩) ?_
    refine mK hok rfl rfl (fun a' w' F' E' => o_loadA (M1.later E') (F'.ev rfl) (by repeat (first | exact .here | apply Has.there)) (by first | assumption | rfl) ⟨Ext.refl _ _, rfl⟩) ?_
    (refine mK hok rfl rfl (fun a' w' F' E' => o_call (F'.ev rfl) (F'.evs rfl) (Cal.mono (formatIP_c p hp _ (hG.later (M1.ext.trans E'))) fun _ _ hh => ⟨hh.2, hh.1⟩)) ?_)
    (refine mK hok rfl rfl (fun a' w' F' E' => s_add (F'.ev rfl) (F'.ev rfl) (by simp; omega) ⟨Ext.refl _ _, rfl⟩) ?_)
    refine mK hok rfl rfl (fun a' w' F' E' => o_fieldAddr (F'.ev rfl) ⟨Ext.refl _ _, rfl⟩) ?_
    refine mK hok rfl rfl (fun a' w' F' E' => o_load1 (M1.later E') (F'.ev rfl) (by repeat (first | exact .here | apply Has.there)) (by first | assumption | rfl) ⟨Ext.refl _ _, rfl⟩) ?_
    (refine mK hok rfl rfl (fun a' w' F' E' => o_call (F'.ev rfl) (F'.evs rfl) (Cal.mono (itoa_c n (by omega) (by omega) _ (hI.later (M1.ext.trans E'))) fun _ _ hh => ⟨hh.2, hh.1⟩)) ?_)
    (refine mK hok rfl rfl (fun a' w' F' E' => s_add (F'.ev rfl) (F'.ev rfl) (by simp; omega) ⟨Ext.refl _ _, rfl⟩) ?_)
    skip
    (refine mDone rfl rfl ?_; clear F; clear M; intro a w F hE2 hX hTT hDD hPP; have M := M1.later hE2; clear M1; clear hX; clear hE2; clear hok; clear hE; clear hTT; clear hDD; clear hPP; (try dsimp only at F))
    refine stepD rfl F rfl (o_assign (F.ev rfl) ?_); clear F; clear a; intro a F
    with_reducible refine l_nil ?_
    with_reducible refine q_then ?_
    with_reducible refine c_ret ?_
    refine p_ret F rfl (.cons (.tmp (F.ev rfl)) .nil) ?_
    exact ⟨by simp [formatPV, hv, oneOr], M.ext⟩

/-- ParsePrefix -/
def parsePV (s : List UInt8) : Option (List Int × Int) :=
  match bitsV (Lib.cut s [47]).2.1 with
  | none => none
  | some n => match parseIPV (Lib.cut s [47]).1 with
    | none => none
    | some a => if validP a n then some (a, n) else none
theorem rowB_len (f l : List Int) (i : Nat) : (rowB f l i).length = 16 := by simp [rowB]
theorem parseIPV_len {s : List UInt8} {a : List Int} (h : parseIPV s = some a) : a.length = 16 := by
  unfold parseIPV at h
  split at h
  · cases h
  · split at h
    · cases h
    · split at h
      · cases h
      · cases h; exact rowB_len _ _ _
theorem ip0_len : ip0.length = 16 := by simp [ip0]

set_option maxHeartbeats 2000000 in
theorem parsePrefix_c (s : List UInt8) (hs : s.length < 4294967281) (W : World) (hG : GM W) : Cal Tryd.prog 37 [mkS s].toArray W fun v w' => v = .tuple #[.agg (pfC ((parsePV s).getD (ip0, 0)).1 ((parsePV s).getD (ip0, 0)).2).toArray, .bool (parsePV s).isSome] ∧ Ext [] W w' := by
  have hc1 : (Lib.cut s [47]).1.length ≤ s.length ∧ (Lib.cut s [47]).2.1.length ≤ s.length := by
    unfold Lib.cut; split <;> simp <;> omega
  refine fn_ofM (n := 42) [] Tryd.func37 rfl rfl rfl ?_
  intro a w F M hwW
  refine c_seq ?_
  refine c_region ?_
  (refine stepD rfl F rfl (o_alloc M ?_); clear F; clear M; intro b2 w M a F)
  refine stepD rfl F rfl (o_assign (F.ev rfl) ?_); clear F; clear a; intro a F
  with_reducible refine l_nil ?_
  with_reducible refine q_then ?_
  with_reducible refine c_seq ?_
  with_reducible refine c_region ?_
  refine stepD rfl F rfl (o_move (F.ev rfl) ?_); clear F; clear a; intro a F
  (refine stepD rfl F rfl (o_call (F.ev rfl) (F.evs rfl) (Cal.mono (cutS_c s [47] hs _ (hG.later M.ext)) ?_)); clear F; clear a; rintro _ w ⟨rfl, hE⟩ a F; replace M := M.later hE; clear hE)
  obtain ⟨⟨h1, t1, short⟩, hq⟩ : ∃ q, Lib.cut s [47] = q := ⟨_, rfl⟩
  rw [hq] at F hc1
  dsimp only at F hc1
  refine stepD rfl F rfl (o_move (F.ev rfl) ?_); clear F; clear a; intro a F
  refine stepD rfl F rfl (o_extract (F.ev rfl) rfl ?_); clear F; clear a; intro a F
  refine stepD rfl F rfl (o_extract (F.ev rfl) rfl ?_); clear F; clear a; intro a F
  refine stepD rfl F rfl (o_extract (F.ev rfl) rfl ?_); clear F; clear a; intro a F
  refine stepD rfl F rfl (o_assign (F.ev rfl) ?_); clear F; clear a; intro a F
  refine stepD rfl F rfl (o_assign (F.ev rfl) ?_); clear F; clear a; intro a F
  refine stepD rfl F rfl (o_assign (F.ev rfl) ?_); clear F; clear a; intro a F
  with_reducible refine l_nil ?_
  with_reducible refine q_then ?_
  with_reducible refine c_seq ?_
  with_reducible refine c_region ?_
  refine stepD rfl F rfl (o_move (F.ev rfl) ?_); clear F; clear a; intro a F
  (refine stepD rfl F rfl (o_call (F.ev rfl) (F.evs rfl) (Cal.mono (parseBits_c t1 _) ?_)); clear F; clear a; rintro _ w ⟨rfl, hE⟩ a F; replace M := M.later hE; clear hE)
  cases hn : bitsV t1 with
  | none =>
    rw [hn] at F
    refine stepD rfl F rfl (o_move (F.ev rfl) ?_); clear F; clear a; intro a F
    refine stepD rfl F rfl (o_extract (F.ev rfl) rfl ?_); clear F; clear a; intro a F
    refine stepD rfl F rfl (o_extract (F.ev rfl) rfl ?_); clear F; clear a; intro a F
    refine stepD rfl F rfl (o_assign (F.ev rfl) ?_); clear F; clear a; intro a F
    refine stepD rfl F rfl (o_assign (F.ev rfl) ?_); clear F; clear a; intro a F
    with_reducible refine l_nil ?_
    with_reducible refine q_then ?_
    with_reducible refine c_seq ?_
    with_reducible refine c_seq ?_
    with_reducible refine c_region ?_
    refine stepD rfl F rfl (o_move (F.ev rfl) ?_); clear F; clear a; intro a F
    refine stepD rfl F rfl (o_not (F.ev rfl) ?_); clear F; clear a; intro a F
    with_reducible refine l_nil ?_
    with_reducible refine q_then ?_
    refine c_true F rfl rfl ?_
    with_reducible refine c_seq ?_
    with_reducible refine c_region ?_
    refine stepD rfl F rfl (o_build F rfl rfl ?_); clear F; clear a; intro a F
    (refine stepN rfl F (o_storeA M (F.ev rfl) (F.ev rfl) (by rfl) (by rfl) (by repeat (first | exact .here | apply Has.there)) (by rfl) (by repeat (first | exact .here | apply Upd.there)) ?_); clear F; clear M; intro w M a F)
    refine stepD rfl F rfl (o_assign (F.ev rfl) ?_); clear F; clear a; intro a F
    with_reducible refine l_nil ?_
    with_reducible refine q_then ?_
    with_reducible refine c_ret ?_
    with_reducible refine q_thenR ?_
    refine p_ret F rfl (.cons (.cell (F.ev rfl) (run_loadVar_agg TAgg.h (M.heap .here) rfl)) (.cons (.tmp (F.ev rfl)) .nil)) ⟨by rw [show parsePV s = none from (by simp [parsePV, hq, hn])]; rfl, M.ext⟩
  | some n =>
    rw [hn] at F
    refine stepD rfl F rfl (o_move (F.ev rfl) ?_); clear F; clear a; intro a F
    refine stepD rfl F rfl (o_extract (F.ev rfl) rfl ?_); clear F; clear a; intro a F
    refine stepD rfl F rfl (o_extract (F.ev rfl) rfl ?_); clear F; clear a; intro a F
    refine stepD rfl F rfl (o_assign (F.ev rfl) ?_); clear F; clear a; intro a F
    refine stepD rfl F rfl (o_assign (F.ev rfl) ?_); clear F; clear a; intro a F
    with_reducible refine l_nil ?_
    with_reducible refine q_then ?_
    with_reducible refine c_seq ?_
    with_reducible refine c_seq ?_
    with_reducible refine c_region ?_
    refine stepD rfl F rfl (o_move (F.ev rfl) ?_); clear F; clear a; intro a F
    refine stepD rfl F rfl (o_not (F.ev rfl) ?_); clear F; clear a; intro a F
    with_reducible refine l_nil ?_
    with_reducible refine q_then ?_
    refine c_false F rfl rfl ?_
    with_reducible refine c_skip ?_
    with_reducible refine q_then ?_
    with_reducible refine c_seq ?_
    with_reducible refine c_region ?_
    refine stepD rfl F rfl (o_move (F.ev rfl) ?_); clear F; clear a; intro a F
    (refine stepD rfl F rfl (o_call (F.ev rfl) (F.evs rfl) (Cal.mono (parseIP_c h1 (by omega) _ (hG.later M.ext)) ?_)); clear F; clear a; rintro _ w ⟨rfl, hE⟩ a F; replace M := M.later hE; clear hE)
    cases ha : parseIPV h1 with
    | none =>
      rw [ha] at F
      refine stepD rfl F rfl (o_move (F.ev rfl) ?_); clear F; clear a; intro a F
      refine stepD rfl F rfl (o_extract (F.ev rfl) rfl ?_); clear F; clear a; intro a F
      refine stepD rfl F rfl (o_extract (F.ev rfl) rfl ?_); clear F; clear a; intro a F
      (refine stepD rfl F rfl (o_alloc M ?_); clear F; clear M; intro b9 w M a F)
      (refine stepN rfl F (o_storeA M (F.ev rfl) (F.ev rfl) (by rfl) (by rfl) (by repeat (first | exact .here | apply Has.there)) (by rfl) (by repeat (first | exact .here | apply Upd.there)) ?_); clear F; clear M; intro w M a F)
      refine stepD rfl F rfl (o_assign (F.ev rfl) ?_); clear F; clear a; intro a F
      with_reducible refine l_nil ?_
      with_reducible refine q_then ?_
      with_reducible refine c_seq ?_
      with_reducible refine c_region ?_
      refine stepD rfl F rfl (o_loadA M (F.ev rfl) (by repeat (first | exact .here | apply Has.there)) (by first | assumption | rfl) ?_); clear F; clear a; intro a F
      refine stepD rfl F rfl (o_move (F.ev rfl) ?_); clear F; clear a; intro a F
      refine stepD rfl F rfl (o_build F rfl rfl ?_); clear F; clear a; intro a F
      (refine stepD rfl F rfl (o_alloc M ?_); clear F; clear M; intro b10 w M a F)
      (refine stepN rfl F (o_storeA M (F.ev rfl) (F.ev rfl) (by rfl) (by rfl) (by repeat (first | exact .here | apply Has.there)) (by rfl) (by repeat (first | exact .here | apply Upd.there)) ?_); clear F; clear M; intro w M a F)
      with_reducible refine l_nil ?_
      with_reducible refine q_then ?_
      with_reducible refine c_seq ?_
      with_reducible refine c_seq ?_
      with_reducible refine c_region ?_
      refine stepD rfl F rfl (o_move (F.ev rfl) ?_); clear F; clear a; intro a F
      refine stepD rfl F rfl (o_not (F.ev rfl) ?_); clear F; clear a; intro a F
      refine stepD rfl F rfl (o_move (F.ev rfl) ?_); clear F; clear a; intro a F
      refine stepOff F rfl rfl rfl rfl ?_; clear F; clear a; intro a F
      refine stepOff F rfl rfl rfl rfl ?_; clear F; clear a; intro a F
      refine stepOff F rfl rfl rfl rfl ?_; clear F; clear a; intro a F
      refine stepD rfl F rfl (o_pickT (F.ev rfl) (F.ev rfl) ?_); clear F; clear a; intro a F
      with_reducible refine l_nil ?_
      with_reducible refine q_then ?_
      refine c_true F rfl rfl ?_
      with_reducible refine c_seq ?_
      with_reducible refine c_region ?_
      refine stepD rfl F rfl (o_build F rfl rfl ?_); clear F; clear a; intro a F
      (refine stepN rfl F (o_storeA M (F.ev rfl) (F.ev rfl) (by rfl) (by rfl) (by repeat (first | exact .here | apply Has.there)) (by rfl) (by repeat (first | exact .here | apply Upd.there)) ?_); clear F; clear M; intro w M a F)
      refine stepD rfl F rfl (o_assign (F.ev rfl) ?_); clear F; clear a; intro a F
      with_reducible refine l_nil ?_
      with_reducible refine q_then ?_
      with_reducible refine c_ret ?_
      with_reducible refine q_thenR ?_
      refine p_ret F rfl (.cons (.cell (F.ev rfl) (run_loadVar_agg TAgg.h (M.heap (.there (.there .here))) rfl)) (.cons (.tmp (F.ev rfl)) .nil)) ⟨by rw [show parsePV s = none from (by simp [parsePV, hq, hn, ha])]; rfl, M.ext⟩
    | some av =>
      have hl := parseIPV_len ha
      rw [ha] at F
      simp only [Option.getD_some, Option.isSome_some] at F
      have e0 : seg (ipC av) 0 16 = some (ipC av) := seg_all (ipC_len hl)
      have e1 := seg_pf hl n
      refine stepD rfl F rfl (o_move (F.ev rfl) ?_); clear F; clear a; intro a F
      refine stepD rfl F rfl (o_extract (F.ev rfl) rfl ?_); clear F; clear a; intro a F
      refine stepD rfl F rfl (o_extract (F.ev rfl) rfl ?_); clear F; clear a; intro a F
      (refine stepD rfl F rfl (o_alloc M ?_); clear F; clear M; intro b9 w M a F)
      (refine stepN rfl F (o_storeA M (F.ev rfl) (F.ev rfl) (ipC_len hl) (one_ip _)  (by repeat (first | exact .here | apply Has.there))  (put_all (by rw [ipC_len hl]; rfl)) (by repeat (first | exact .here | apply Upd.there)) ?_); clear F; clear M; intro w M a F)
      refine stepD rfl F rfl (o_assign (F.ev rfl) ?_); clear F; clear a; intro a F
      with_reducible refine l_nil ?_
      with_reducible refine q_then ?_
      with_reducible refine c_seq ?_
      with_reducible refine c_region ?_
      refine stepD rfl F rfl (o_loadA M (F.ev rfl) (by repeat (first | exact .here | apply Has.there)) (by first | assumption | rfl) ?_); clear F; clear a; intro a F
      refine stepD rfl F rfl (o_move (F.ev rfl) ?_); clear F; clear a; intro a F
      (refine stepD rfl F rfl (o_build (cs := pfC av n) F rfl (by obtain ⟨x0, x1, x2, x3, x4, x5, x6, x7, x8, x9, x10, x11, x12, x13, x14, x15, rfl⟩ := len16 hl; rfl) ?_); clear F; clear a; intro a F)
      (refine stepD rfl F rfl (o_alloc M ?_); clear F; clear M; intro b10 w M a F)
      (refine stepN rfl F (o_storeA M (F.ev rfl) (F.ev rfl) (pfC_len hl n) (one_pf _ _)  (by repeat (first | exact .here | apply Has.there))  (put_all (by rw [pfC_len hl n]; rfl)) (by repeat (first | exact .here | apply Upd.there)) ?_); clear F; clear M; intro w M a F)
      with_reducible refine l_nil ?_
      with_reducible refine q_then ?_
      with_reducible refine c_seq ?_
      with_reducible refine c_seq ?_
      with_reducible refine c_region ?_
      refine stepD rfl F rfl (o_move (F.ev rfl) ?_); clear F; clear a; intro a F
      refine stepD rfl F rfl (o_not (F.ev rfl) ?_); clear F; clear a; intro a F
      refine stepD rfl F rfl (o_move (F.ev rfl) ?_); clear F; clear a; intro a F
      refine stepG rfl F rfl rfl rfl (o_loadA M (F.ev rfl) (by repeat (first | exact .here | apply Has.there)) (by first | assumption | rfl) ?_); clear F; clear a; intro a F
      (refine stepG rfl F rfl rfl rfl (o_call (F.ev rfl) (F.evs rfl) (Cal.mono (validPrefix_c av n hl _) ?_)); clear F; clear a; rintro _ w ⟨rfl, hE⟩ a F; replace M := M.later hE; clear hE)
      cases hv : validP av n
      · rw [hv] at F
        refine stepG rfl F rfl rfl rfl (o_not (F.ev rfl) ?_); clear F; clear a; intro a F
        refine stepD rfl F rfl (o_pickF (F.ev rfl) (F.ev rfl) ?_); clear F; clear a; intro a F
        with_reducible refine l_nil ?_
        with_reducible refine q_then ?_
        refine c_true F rfl rfl ?_
        with_reducible refine c_seq ?_
        with_reducible refine c_region ?_
        refine stepD rfl F rfl (o_build F rfl rfl ?_); clear F; clear a; intro a F
        (refine stepN rfl F (o_storeA M (F.ev rfl) (F.ev rfl) (by rfl) (by rfl) (by repeat (first | exact .here | apply Has.there)) (by rfl) (by repeat (first | exact .here | apply Upd.there)) ?_); clear F; clear M; intro w M a F)
        refine stepD rfl F rfl (o_assign (F.ev rfl) ?_); clear F; clear a; intro a F
        with_reducible refine l_nil ?_
        with_reducible refine q_then ?_
        with_reducible refine c_ret ?_
        with_reducible refine q_thenR ?_
        refine p_ret F rfl (.cons (.cell (F.ev rfl) (run_loadVar_agg TAgg.h (M.heap (.there (.there .here))) rfl)) (.cons (.tmp (F.ev rfl)) .nil)) ⟨by rw [show parsePV s = none from (by simp [parsePV, hq, hn, ha, hv])]; rfl, M.ext⟩
      · rw [hv] at F
        refine stepG rfl F rfl rfl rfl (o_not (F.ev rfl) ?_); clear F; clear a; intro a F
        refine stepD rfl F rfl (o_pickF (F.ev rfl) (F.ev rfl) ?_); clear F; clear a; intro a F
        with_reducible refine l_nil ?_
        with_reducible refine q_then ?_
        refine c_false F rfl rfl ?_
        with_reducible refine c_skip ?_
        with_reducible refine q_then ?_
        with_reducible refine c_seq ?_
        with_reducible refine c_region ?_
        refine stepD rfl F rfl (o_loadA M (F.ev rfl) (by repeat (first | exact .here | apply Has.there)) (by first | assumption | rfl) ?_); clear F; clear a; intro a F
        (refine stepN rfl F (o_storeA M (F.ev rfl) (F.ev rfl) (pfC_len hl n) (one_pf _ _)  (by repeat (first | exact .here | apply Has.there))  (put_all (by rw [pfC_len hl n]; rfl)) (by repeat (first | exact .here | apply Upd.there)) ?_); clear F; clear M; intro w M a F)
        refine stepD rfl F rfl (o_assign (F.ev rfl) ?_); clear F; clear a; intro a F
        with_reducible refine l_nil ?_
        with_reducible refine q_then ?_
        with_reducible refine c_ret ?_
        refine p_ret F rfl (.cons (.cell (F.ev rfl) (run_loadVar_agg TAgg.h (M.heap (.there (.there .here))) e1)) (.cons (.tmp (F.ev rfl)) .nil)) ⟨by rw [show parsePV s = some (av, n) from (by simp [parsePV, hq, hn, ha, hv])]; rfl, M.ext⟩
end Go.Proofs.YtadnpidadcgdcaaDoor

/-! V1 -/
/-
  Plain: ParseIP undoes FormatIP. No program in sight.
-/
namespace Go.Proofs.YtadnpidadcgdcaaDoor
set_option linter.unusedVariables false
set_option linter.unusedSimpArgs false
open Go.RowKit

/-! a group -/
theorem hexD_bd {d : Int} (h0 : 0 ≤ d) (h1 : d < 16) : (48 ≤ hexD d ∧ hexD d ≤ 57) ∨ (97 ≤ hexD d ∧ hexD d ≤ 102) := by unfold hexD; split <;> omega
theorem digV_hexD {d : Int} (h0 : 0 ≤ d) (h1 : d < 16) : digV (hexD d) = some d := by
  unfold hexD digV
  by_cases h : d < 10
  · rw [if_pos h, if_pos (by omega)]; congr 1; omega
  · rw [if_neg h, if_neg (by omega), if_pos (by omega)]; congr 1; omega
theorem hexI_bd {g : Int} (h0 : 0 ≤ g) (h1 : g < 65536) : ∀ x ∈ hexI g, (48 ≤ x ∧ x ≤ 57) ∨ (97 ≤ x ∧ x ≤ 102) := by
  unfold hexI
  split
  · intro x hx; simp at hx; subst hx; exact hexD_bd h0 (by omega)
  · split
    · intro x hx; simp at hx; rcases hx with rfl | rfl <;> exact hexD_bd (by omega) (by omega)
    · split
      · intro x hx; simp at hx; rcases hx with rfl | rfl | rfl <;> exact hexD_bd (by omega) (by omega)
      · intro x hx; simp at hx; rcases hx with rfl | rfl | rfl | rfl <;> exact hexD_bd (by omega) (by omega)
theorem byteBack {x : Int} (h0 : 0 ≤ x) (h1 : x < 256) : (((UInt8.ofNat x.toNat).toNat : Nat) : Int) = x := by
  rw [UInt8.toNat_ofNat', Nat.mod_eq_of_lt (by omega)]; omega
theorem grpGo_cons {x g d : Int} {cs : List UInt8} (h0 : 0 ≤ x) (h1 : x < 256) (hd : digV x = some d) : grpGo (UInt8.ofNat x.toNat :: cs) g = grpGo cs (16 * g + d) := by
  simp only [grpGo]
  rw [byteBack h0 h1, hd]
theorem hexD_b {d : Int} (h0 : 0 ≤ d) (h1 : d < 16) : 0 ≤ hexD d ∧ hexD d < 256 := by have := hexD_bd h0 h1; omega
theorem grpGo_hex {d g : Int} {cs : List UInt8} (h0 : 0 ≤ d) (h1 : d < 16) : grpGo (UInt8.ofNat (hexD d).toNat :: cs) g = grpGo cs (16 * g + d) := grpGo_cons (hexD_b h0 h1).1 (hexD_b h0 h1).2 (digV_hexD h0 h1)
theorem grpV_hex {g : Int} (h0 : 0 ≤ g) (h1 : g < 65536) : grpV (txt (hexI g)) = some g := by
  have hl := hexI_len g
  unfold grpV
  rw [if_neg (by simp only [txt, List.length_map]; omega)]
  unfold hexI
  split
  · simp only [txt, List.map]; rw [grpGo_hex (by omega) (by omega)]; simp [grpGo]
  · split
    · simp only [txt, List.map]; rw [grpGo_hex (by omega) (by omega), grpGo_hex (by omega) (by omega)]; simp only [grpGo]; congr 1; omega
    · split
      · simp only [txt, List.map]; rw [grpGo_hex (by omega) (by omega), grpGo_hex (by omega) (by omega), grpGo_hex (by omega) (by omega)]; simp only [grpGo]; congr 1; omega
      · simp only [txt, List.map]; rw [grpGo_hex (by omega) (by omega), grpGo_hex (by omega) (by omega), grpGo_hex (by omega) (by omega), grpGo_hex (by omega) (by omega)]; simp only [grpGo]; congr 1; omega

/-! groups with colons between -/
def colonI : List Int → List Int
  | [] => []
  | g :: r => r.foldl (fun b x => b ++ 58 :: hexI x) (hexI g)
theorem colonI_snoc (g : Int) (r : List Int) (x : Int) : colonI (g :: r ++ [x]) = colonI (g :: r) ++ 58 :: hexI x := by simp [colonI]
/-- a property of all groups' texts, group by group from the right -/
theorem snocI {p : List Int → Prop} (h0 : p []) (h1 : ∀ g, p [g]) (h2 : ∀ g r x, p (g :: r) → p (g :: r ++ [x])) (l : List Int) : p l := by
  cases l with
  | nil => exact h0
  | cons g r =>
    have : ∀ n (r : List Int), r.length = n → p (g :: r) := by
      intro n
      induction n with
      | zero => intro r hr; rw [List.length_eq_zero_iff.1 hr]; exact h1 g
      | succ n ih =>
        intro r hr
        have hne : r ≠ [] := by intro h; subst h; simp at hr
        have := h2 g r.dropLast (r.getLast hne) (ih r.dropLast (by simp [hr]))
        rw [List.cons_append, List.dropLast_concat_getLast hne] at this
        exact this
    exact this _ r rfl
theorem splitC_app : ∀ (a b : List UInt8), splitC (a ++ 58 :: b) = splitC a ++ splitC b
  | [], b => by simp [splitC]
  | c :: a, b => by
    have ih := splitC_app a b
    simp only [List.cons_append, splitC]
    by_cases hc : c = 58
    · rw [if_pos hc, if_pos hc, ih]; rfl
    · rw [if_neg hc, if_neg hc, ih]
      cases hs : splitC a with
      | nil => exact absurd hs (splitC_ne a)
      | cons x xs => rfl
theorem splitC_one : ∀ {h : List UInt8}, (∀ x ∈ h, x ≠ 58) → splitC h = [h]
  | [], _ => by simp [splitC]
  | c :: a, hn => by
    have ih := splitC_one (h := a) (fun x hx => hn x (List.mem_cons_of_mem _ hx))
    simp only [splitC]
    rw [if_neg (hn c (List.mem_cons_self ..)), ih]
def Small (gs : List Int) : Prop := ∀ g ∈ gs, 0 ≤ g ∧ g < 65536
theorem u8_ne {x : Int} {c : UInt8} (h0 : 0 ≤ x) (h1 : x < 256) (h : x ≠ c.toNat) : UInt8.ofNat x.toNat ≠ c := by
  intro e
  have := byteBack h0 h1
  rw [e] at this
  exact h this.symm
theorem txt_hex_ne {g : Int} (h0 : 0 ≤ g) (h1 : g < 65536) {c : UInt8} (hc : c = 58 ∨ c = 47) : ∀ x ∈ txt (hexI g), x ≠ c := by
  intro x hx
  simp only [txt, List.mem_map] at hx
  obtain ⟨y, hy, rfl⟩ := hx
  have := hexI_bd h0 h1 y hy
  rcases hc with rfl | rfl
  · exact u8_ne (by omega) (by omega) (by show y ≠ 58; omega)
  · exact u8_ne (by omega) (by omega) (by show y ≠ 47; omega)
theorem txt_append (a b : List Int) : txt (a ++ b) = txt a ++ txt b := by simp [txt]
theorem txt_58 (b : List Int) : txt (58 :: b) = 58 :: txt b := rfl
theorem Small.head {g : Int} {r : List Int} (h : Small (g :: r)) : 0 ≤ g ∧ g < 65536 := h g (List.mem_cons_self ..)
theorem Small.init {l : List Int} {x : Int} (h : Small (l ++ [x])) : Small l ∧ (0 ≤ x ∧ x < 65536) := ⟨fun g hg => h g (List.mem_append.2 (.inl hg)), h x (by simp)⟩
theorem split_colon (gs : List Int) : Small gs → gs ≠ [] → splitC (txt (colonI gs)) = gs.map fun g => txt (hexI g) := by
  refine snocI (p := fun gs => Small gs → gs ≠ [] → splitC (txt (colonI gs)) = gs.map fun g => txt (hexI g)) ?_ ?_ ?_ gs
  · intro _ h; exact absurd rfl h
  · intro g hs _
    have h := hs.head
    exact splitC_one (txt_hex_ne h.1 h.2 (.inl rfl))
  · intro g r x ih hs _
    have h := hs.init
    rw [colonI_snoc, txt_append, txt_58, splitC_app, ih h.1 (by simp), splitC_one (txt_hex_ne h.2.1 h.2.2 (.inl rfl))]
    simp
theorem groupsGo_hex : ∀ (gs r : List Int), Small gs → r.length + gs.length ≤ 8 → groupsGo (gs.map fun g => txt (hexI g)) r = some (r ++ gs)
  | [], r, _, _ => by simp [groupsGo]
  | g :: gs, r, hs, hl => by
    have h := hs.head
    simp only [List.map_cons, groupsGo]
    rw [grpV_hex h.1 h.2]
    simp only [List.length_cons] at hl
    dsimp only
    rw [if_neg (by omega), groupsGo_hex gs (r ++ [g]) (fun x hx => hs x (List.mem_cons_of_mem _ hx)) (by simp; omega)]
    simp
/-- a text that has no two colons side by side, and none at its end -/
def okC : List UInt8 → Prop
  | [] => True
  | [b] => b ≠ 58
  | b :: c :: l => ¬ (b = 58 ∧ c = 58) ∧ okC (c :: l)
theorem okC_all : ∀ {h : List UInt8}, (∀ x ∈ h, x ≠ 58) → okC h
  | [], _ => trivial
  | [b], h => h b (by simp)
  | b :: c :: l, h => ⟨fun e => h b (by simp) e.1, okC_all (h := c :: l) (fun x hx => h x (List.mem_cons_of_mem _ hx))⟩
theorem okC_snoc : ∀ {s h : List UInt8}, okC s → (∀ x ∈ h, x ≠ 58) → h ≠ [] → okC (s ++ 58 :: h)
  | [], c :: h, _, ha, _ => ⟨fun e => ha c (by simp) e.2, okC_all ha⟩
  | [b], c :: h, hs, ha, hn => ⟨fun e => hs e.1, ⟨fun e => ha c (by simp) e.2, okC_all ha⟩⟩
  | b :: c :: l, h, hs, ha, hn => ⟨hs.1, okC_snoc (s := c :: l) hs.2 ha hn⟩
  | [], [], _, _, hn => absurd rfl hn
  | [_], [], _, _, hn => absurd rfl hn
theorem txt_hexne (g : Int) : txt (hexI g) ≠ [] := by
  intro h
  have := hexI_len g
  have h2 := congrArg List.length h
  simp [txt] at h2
  rw [h2] at this; simp at this
theorem okC_join (gs : List Int) : Small gs → okC (txt (colonI gs)) := by
  refine snocI (p := fun gs => Small gs → okC (txt (colonI gs))) ?_ ?_ ?_ gs
  · intro _; trivial
  · intro g hs
    have h := hs.head
    exact okC_all (txt_hex_ne h.1 h.2 (.inl rfl))
  · intro g r x ih hs
    have h := hs.init
    rw [colonI_snoc, txt_append, txt_58]
    exact okC_snoc (ih h.1) (txt_hex_ne h.2.1 h.2.2 (.inl rfl)) (txt_hexne x)
theorem join_ne {gs : List Int} (h : gs ≠ []) : txt (colonI gs) ≠ [] := by
  revert h
  refine snocI (p := fun gs => gs ≠ [] → txt (colonI gs) ≠ []) ?_ ?_ ?_ gs
  · intro h; exact absurd rfl h
  · intro g _; exact txt_hexne g
  · intro g r x _ _; rw [colonI_snoc, txt_append]; simp [txt_58]
theorem groupsV_join {gs : List Int} (hs : Small gs) (hl : gs.length ≤ 8) : groupsV (txt (colonI gs)) = some gs := by
  by_cases hn : gs = []
  · subst hn; rfl
  · unfold groupsV
    rw [if_neg (join_ne hn), split_colon gs hs hn, groupsGo_hex gs [] hs (by simpa using hl)]
    simp

/-! where the two colons are -/
theorem pre2 (b c : UInt8) (l : List UInt8) : [58, 58].isPrefixOf (b :: c :: l) = decide (b = 58 ∧ c = 58) := by
  simp only [List.isPrefixOf, Bool.and_true]
  rw [Bool.eq_iff_iff, Bool.and_eq_true, beq_iff_eq, beq_iff_eq, decide_eq_true_iff]
  exact ⟨fun h => ⟨h.1.symm, h.2.symm⟩, fun h => ⟨h.1.symm, h.2.symm⟩⟩
theorem index_ok : ∀ {s : List UInt8}, okC s → Lib.index s [58, 58] = -1
  | [], _ => by simp [Lib.index]
  | [b], _ => by simp [Lib.index, List.isPrefixOf]
  | b :: c :: l, h => by
    have ih := index_ok (s := c :: l) h.2
    rw [Lib.index, pre2, ih, decide_eq_false h.1]; rfl
theorem index_cc (t : List UInt8) : ∀ {s : List UInt8}, okC s → Lib.index (s ++ 58 :: 58 :: t) [58, 58] = s.length
  | [], _ => by rw [List.nil_append, Lib.index, pre2]; simp
  | [b], h => by
    have ih := index_cc t (s := []) trivial
    rw [List.nil_append] at ih
    rw [List.cons_append, List.nil_append, Lib.index, pre2, decide_eq_false (fun e => h e.1), ih]; rfl
  | b :: c :: l, h => by
    have ih := index_cc t (s := c :: l) h.2
    rw [List.cons_append, List.cons_append] at *
    rw [Lib.index, pre2, decide_eq_false h.1, ih]
    have : (((c :: l).length : Int) == -1) = false := by rw [beq_eq_false_iff_ne]; omega
    rw [this]; simp
theorem cut_ok {s : List UInt8} (h : okC s) : Lib.cut s [58, 58] = (s, [], false) := by
  unfold Lib.cut; rw [index_ok h]; rfl
theorem cut_cc {s : List UInt8} (t : List UInt8) (h : okC s) : Lib.cut (s ++ 58 :: 58 :: t) [58, 58] = (s, t, true) := by
  unfold Lib.cut
  rw [index_cc t h, if_pos (by omega)]
  simp
theorem index_one {p : UInt8} (t : List UInt8) : ∀ {s : List UInt8}, (∀ x ∈ s, x ≠ p) → Lib.index (s ++ p :: t) [p] = s.length
  | [], _ => by simp [Lib.index, List.isPrefixOf]
  | b :: l, h => by
    have ih := index_one t (s := l) (fun x hx => h x (List.mem_cons_of_mem _ hx))
    have hb : (p == b) = false := by rw [beq_eq_false_iff_ne]; exact fun e => h b (by simp) e.symm
    have : ((l.length : Int) == -1) = false := by rw [beq_eq_false_iff_ne]; omega
    rw [List.cons_append, Lib.index, ih, this]
    simp [List.isPrefixOf, hb]
theorem cut_one {p : UInt8} {s : List UInt8} (t : List UInt8) (h : ∀ x ∈ s, x ≠ p) : Lib.cut (s ++ p :: t) [p] = (s, t, true) := by
  unfold Lib.cut
  rw [index_one t h, if_pos (by omega)]
  simp
end Go.Proofs.YtadnpidadcgdcaaDoor

/-! V2 -/
/-
  Plain: what FormatIP's text looks like; ParseIP and ParsePrefix undo FormatIP and FormatPrefix. No program in sight.
-/
namespace Go.Proofs.YtadnpidadcgdcaaDoor
set_option linter.unusedVariables false
set_option linter.unusedSimpArgs false
open Go.RowKit

/-- the groups from a up to b -/
def gseg (ip : List Int) (a b : Nat) : List Int := (List.range (b - a)).map fun k => grpAt ip (a + k)
theorem gseg_len (ip : List Int) (a b : Nat) : (gseg ip a b).length = b - a := by simp [gseg]
theorem gseg_snoc (ip : List Int) {a b : Nat} (h : a ≤ b) : gseg ip a (b + 1) = gseg ip a b ++ [grpAt ip b] := by
  unfold gseg
  rw [show b + 1 - a = (b - a) + 1 by omega, List.range_succ, List.map_append]
  simp
  congr 1; omega
theorem gseg_self (ip : List Int) (a : Nat) : gseg ip a a = [] := by simp [gseg]
theorem gseg_small {ip : List Int} (h : IsIP ip) (a b : Nat) : Small (gseg ip a b) := by
  intro g hg
  simp only [gseg, List.mem_map] at hg
  obtain ⟨k, _, rfl⟩ := hg
  exact h.grp _
theorem gseg_get (ip : List Int) (a b i : Nat) (h : i < b - a) : (gseg ip a b).getD i 0 = grpAt ip (a + i) := by
  simp [gseg, h]

/-! the run of zeros -/
structure ZRun (ip : List Int) (k : Nat) (s : Nat × Nat × Nat) : Prop where
  le : s.1 + s.2.1 ≤ k
  cur : s.2.2 ≤ k
  z : ∀ j, s.1 ≤ j → j < s.1 + s.2.1 → grpAt ip j = 0
  zc : ∀ j, k - s.2.2 ≤ j → j < k → grpAt ip j = 0
theorem zall_take (ip : List Int) : ∀ k, k ≤ 8 → ZRun ip k (((grps ip).take k).foldl zstep (0, 0, 0))
  | 0, _ => ⟨Nat.le_refl _, Nat.le_refl _, fun j _ h => by simp at h, fun j _ h => absurd h (by omega)⟩
  | k + 1, hk => by
    have ih := zall_take ip k (by omega)
    rw [← grps_take (by omega), List.foldl_append]
    generalize ((grps ip).take k).foldl zstep (0, 0, 0) = s at *
    obtain ⟨h1, h2, h3, h4⟩ := ih
    simp only [List.foldl_cons, List.foldl_nil]
    unfold zstep
    by_cases hz : grpAt ip k ≠ 0
    · rw [if_pos hz]
      exact ⟨by simp only; omega, by simp, h3, fun j hj1 hj2 => by simp only at hj1; omega⟩
    · rw [if_neg hz]
      have hz0 : grpAt ip k = 0 := Classical.not_not.1 hz
      by_cases hg : s.2.2 + 1 > s.2.1
      · rw [if_pos hg]
        refine ⟨by simp only; omega, by simp only; omega, fun j hj1 hj2 => ?_, fun j hj1 hj2 => ?_⟩
        · simp only at hj1 hj2
          by_cases e : j = k
          · subst e; exact hz0
          · exact h4 j (by omega) (by omega)
        · simp only at hj1
          by_cases e : j = k
          · subst e; exact hz0
          · exact h4 j (by omega) (by omega)
      · rw [if_neg hg]
        refine ⟨by simp only; omega, by simp only; omega, h3, fun j hj1 hj2 => ?_⟩
        simp only at hj1
        by_cases e : j = k
        · subst e; exact hz0
        · exact h4 j (by omega) (by omega)
theorem grps_all (ip : List Int) : (grps ip).take 8 = grps ip := List.take_of_length_le (by simp [grps])
theorem zall_run (ip : List Int) : ZRun ip 8 (zall (grps ip)) := by
  have := zall_take ip 8 (Nat.le_refl _)
  rwa [grps_all] at this

/-! the text -/
theorem last_join (gs : List Int) : Small gs → gs ≠ [] → colonI gs ≠ [] ∧ (colonI gs).getD ((colonI gs).length - 1) 0 ≠ 58 := by
  have hx : ∀ (b : List Int) (g : Int), 0 ≤ g → g < 65536 → b ++ hexI g ≠ [] ∧ (b ++ hexI g).getD ((b ++ hexI g).length - 1) 0 ≠ 58 := by
    intro b g h0 h1
    have hl := hexI_len g
    refine ⟨fun h => by have := congrArg List.length h; rw [List.length_append, List.length_nil] at this; omega, ?_⟩
    have hlt : (b ++ hexI g).length - 1 < (b ++ hexI g).length := by simp; omega
    rw [List.getD_eq_getElem?_getD, List.getElem?_append_right (by simp; omega)]
    have hlt2 : (b ++ hexI g).length - 1 - b.length < (hexI g).length := by simp; omega
    rw [List.getElem?_eq_getElem hlt2]
    have := hexI_bd h0 h1 _ (List.getElem_mem hlt2)
    simp only [Option.getD_some]
    omega
  refine snocI (p := fun gs => Small gs → gs ≠ [] → colonI gs ≠ [] ∧ (colonI gs).getD ((colonI gs).length - 1) 0 ≠ 58) ?_ ?_ ?_ gs
  · intro _ h; exact absurd rfl h
  · intro g hs _
    have h := hs.head
    exact hx [] g h.1 h.2
  · intro g r x _ hs _
    have h := hs.init
    rw [colonI_snoc, show colonI (g :: r) ++ 58 :: hexI x = (colonI (g :: r) ++ [58]) ++ hexI x by simp]
    exact hx _ x h.2.1 h.2.2
theorem fsep_join {gs : List Int} (hs : Small gs) (x : Int) : fsep (colonI gs) ++ hexI x = colonI (gs ++ [x]) := by
  cases gs with
  | nil => simp [colonI, fsep]
  | cons g r =>
    have := last_join (g :: r) hs (by simp)
    rw [colonI_snoc]
    unfold fsep
    rw [if_pos this]; simp
theorem fsep_cc {a gs : List Int} (hs : Small gs) (x : Int) : fsep (a ++ 58 :: 58 :: colonI gs) ++ hexI x = a ++ 58 :: 58 :: colonI (gs ++ [x]) := by
  cases gs with
  | nil =>
    unfold fsep
    rw [if_neg (by intro h; apply h.2; simp [colonI])]
    simp [colonI]
  | cons g r =>
    obtain ⟨h1, h2⟩ := last_join (g :: r) hs (by simp)
    rw [colonI_snoc]
    have hpos : 0 < (colonI (g :: r)).length := List.length_pos_iff.2 h1
    have hl : (a ++ 58 :: 58 :: colonI (g :: r)).getD ((a ++ 58 :: 58 :: colonI (g :: r)).length - 1) 0 = (colonI (g :: r)).getD ((colonI (g :: r)).length - 1) 0 := by
      rw [show a ++ 58 :: 58 :: colonI (g :: r) = (a ++ [58, 58]) ++ colonI (g :: r) by simp]
      rw [List.getD_eq_getElem?_getD, List.getElem?_append_right (by simp; omega), List.getD_eq_getElem?_getD]
      congr 2
      simp; omega
    unfold fsep
    rw [if_pos ⟨by simp, by rw [hl]; exact h2⟩]
    simp
/-- the text after k groups -/
def shape (ip : List Int) (st len k : Nat) : List Int :=
  if 2 ≤ len ∧ st < k then (if k ≤ st + len then colonI (gseg ip 0 st) ++ [58, 58] else colonI (gseg ip 0 st) ++ 58 :: 58 :: colonI (gseg ip (st + len) k)) else colonI (gseg ip 0 k)
theorem fall_take {ip : List Int} (h : IsIP ip) (st len : Nat) : ∀ k, k ≤ 8 → ((grps ip).take k).foldl (fstep st len) [] = shape ip st len k
  | 0, _ => by simp [shape, gseg_self, colonI]
  | k + 1, hk => by
    rw [← grps_take (by omega), List.foldl_append, fall_take h st len k (by omega)]
    simp only [List.foldl_cons, List.foldl_nil]
    unfold fstep
    by_cases hr : inRun st len k
    · rw [if_pos hr]
      obtain ⟨a, b, c⟩ := hr
      by_cases e : k = st
      · rw [if_pos e]
        unfold shape
        rw [if_neg (by omega), if_pos (by omega), if_pos (by omega), e]
      · rw [if_neg e]
        unfold shape
        rw [if_pos (by omega), if_pos (by omega), if_pos (by omega), if_pos (by omega)]
    · rw [if_neg hr]
      have hr' : ¬ (2 ≤ len ∧ st ≤ k ∧ k < st + len) := hr
      unfold shape
      by_cases e : 2 ≤ len ∧ st < k
      · have e3 : 2 ≤ len ∧ st < k + 1 := by omega
        rw [if_pos e, if_pos e3, if_neg (show ¬ k + 1 ≤ st + len by omega)]
        by_cases e2 : k ≤ st + len
        · obtain rfl : k = st + len := by omega
          rw [if_pos (Nat.le_refl _), gseg_snoc ip (Nat.le_refl _), gseg_self]
          have := fsep_cc (a := colonI (gseg ip 0 st)) (gs := []) (fun _ h => by cases h) (grpAt ip (st + len))
          simpa [colonI] using this
        · rw [if_neg e2, gseg_snoc ip (by omega)]
          exact fsep_cc (gseg_small h _ _) _
      · rw [if_neg e, if_neg (by omega), gseg_snoc ip (by omega)]
        exact fsep_join (gseg_small h _ _) _
theorem byteOf_grp {ip : List Int} (h : IsIP ip) {f : List Int} {a j i : Nat} (hj : j = 2 * a + i) (hf : f.getD (i / 2) 0 = grpAt ip (a + i / 2)) : byteOf f i = ip.getD j 0 := by
  unfold byteOf
  have h1 := h.at_ (2 * (a + i / 2))
  have h2 := h.at_ (2 * (a + i / 2) + 1)
  by_cases e : i % 2 = 0
  · rw [if_pos e, hf]; unfold grpAt
    rw [show j = 2 * (a + i / 2) by omega]; omega
  · rw [if_neg e, hf]; unfold grpAt
    rw [show j = 2 * (a + i / 2) + 1 by omega]; omega
theorem ip_range {ip : List Int} (h : ip.length = 16) : (List.range 16).map (fun j => ip.getD j 0) = ip := by
  apply List.ext_getElem
  · simp [h]
  · intro i h1 h2; simp [h2]
theorem grp_zero {ip : List Int} (h : IsIP ip) {i : Nat} (hz : grpAt ip i = 0) : ip.getD (2 * i) 0 = 0 ∧ ip.getD (2 * i + 1) 0 = 0 := by
  have h1 := h.at_ (2 * i)
  have h2 := h.at_ (2 * i + 1)
  unfold grpAt at hz; omega
theorem parse_format {ip : List Int} (h : IsIP ip) : parseIPV (txt (formatI ip)) = some ip := by
  have hz := zall_run ip
  unfold formatI fall
  have hf := fall_take h (zall (grps ip)).1 (zall (grps ip)).2.1 8 (Nat.le_refl _)
  rw [grps_all] at hf
  rw [hf]
  clear hf
  generalize (zall (grps ip)) = s at *
  obtain ⟨st, len, cur⟩ := s
  obtain ⟨hle, _, hzz, _⟩ := hz
  simp only at *
  by_cases h2 : 2 ≤ len
  · have hsh : shape ip st len 8 = colonI (gseg ip 0 st) ++ 58 :: 58 :: colonI (gseg ip (st + len) 8) := by
      unfold shape
      rw [if_pos (by omega)]
      by_cases e : 8 ≤ st + len
      · obtain e8 : st + len = 8 := by omega
        rw [if_pos e, e8, gseg_self]; simp [colonI]
      · rw [if_neg e]
    have hl1 := gseg_len ip 0 st
    have hl2 := gseg_len ip (st + len) 8
    rw [hsh, txt_append, txt_58, txt_58]
    unfold parseIPV
    rw [cut_cc _ (okC_join _ (gseg_small h _ _))]
    simp only
    rw [groupsV_join (gseg_small h _ _) (by omega), groupsV_join (gseg_small h _ _) (by omega)]
    simp only
    rw [if_neg (by unfold badN; intro hb; rcases hb with ⟨_, hb⟩ | ⟨hb, _⟩; { omega }; { cases hb })]
    congr 1
    conv => rhs; rw [← ip_range h.len]
    unfold rowB
    rw [hl1, hl2]
    apply List.map_congr_left
    intro j hj
    rw [List.mem_range] at hj
    by_cases e1 : j < 2 * (st - 0)
    · rw [if_pos e1]
      exact byteOf_grp h (a := 0) (by omega) (gseg_get ip 0 st _ (by omega))
    · rw [if_neg e1]
      by_cases e2 : 16 - 2 * (8 - (st + len)) ≤ j ∧ j < 16 - 2 * (8 - (st + len)) + 2 * (8 - (st + len))
      · rw [if_pos e2]
        exact byteOf_grp h (a := st + len) (by omega) (gseg_get ip (st + len) 8 _ (by omega))
      · rw [if_neg e2]
        have := grp_zero h (hzz (j / 2) (by omega) (by omega))
        by_cases e : j % 2 = 0
        · rw [show j = 2 * (j / 2) by omega]; exact this.1.symm
        · rw [show j = 2 * (j / 2) + 1 by omega]; exact this.2.symm
  · have hsh : shape ip st len 8 = colonI (gseg ip 0 8) := by unfold shape; rw [if_neg (by omega)]
    have hl1 := gseg_len ip 0 8
    rw [hsh]
    unfold parseIPV
    rw [cut_ok (okC_join _ (gseg_small h _ _))]
    simp only
    rw [groupsV_join (gseg_small h _ _) (by omega), show groupsV [] = some [] from rfl]
    simp only
    rw [if_neg (by unfold badN; rw [hl1]; intro hb; rcases hb with ⟨hb, _⟩ | ⟨_, hb⟩; { cases hb }; { simp at hb })]
    congr 1
    conv => rhs; rw [← ip_range h.len]
    unfold rowB
    apply List.map_congr_left
    intro j hj
    rw [List.mem_range] at hj
    rw [hl1, if_pos (by omega)]
    exact byteOf_grp h (a := 0) (by omega) (gseg_get ip 0 8 _ (by omega))
end Go.Proofs.YtadnpidadcgdcaaDoor

/-! V3 -/
/-
  Plain: ParsePrefix undoes FormatPrefix. No program in sight.
-/
namespace Go.Proofs.YtadnpidadcgdcaaDoor
set_option linter.unusedVariables false
set_option linter.unusedSimpArgs false
open Go.RowKit

theorem bits_itoa (n : Int) (h0 : 0 ≤ n) (h1 : n ≤ 128) : bitsV (Lib.itoa n) = some n := by
  have : ∀ k : Fin 129, bitsV (Lib.itoa (k.val : Int)) = some (k.val : Int) := by decide +kernel
  have h := this ⟨n.toNat, by omega⟩
  simp only at h
  rwa [show ((n.toNat : Nat) : Int) = n by omega] at h
theorem join_47 (gs : List Int) : Small gs → ∀ x ∈ txt (colonI gs), x ≠ 47 := by
  refine snocI (p := fun gs => Small gs → ∀ x ∈ txt (colonI gs), x ≠ 47) ?_ ?_ ?_ gs
  · intro _ x hx; simp [colonI, txt] at hx
  · intro g hs
    have h := hs.head
    exact txt_hex_ne h.1 h.2 (.inr rfl)
  · intro g r x ih hs y hy
    have h := hs.init
    rw [colonI_snoc, txt_append, txt_58] at hy
    rcases List.mem_append.1 hy with hy | hy
    · exact ih h.1 y hy
    · rcases List.mem_cons.1 hy with rfl | hy
      · decide
      · exact txt_hex_ne h.2.1 h.2.2 (.inr rfl) y hy
theorem shape_47 {ip : List Int} (h : IsIP ip) (st len k : Nat) : ∀ x ∈ txt (shape ip st len k), x ≠ 47 := by
  intro x hx
  unfold shape at hx
  split at hx
  · split at hx
    · rw [txt_append] at hx
      rcases List.mem_append.1 hx with hx | hx
      · exact join_47 _ (gseg_small h _ _) x hx
      · simp [txt] at hx; subst hx; decide
    · rw [txt_append, txt_58, txt_58] at hx
      rcases List.mem_append.1 hx with hx | hx
      · exact join_47 _ (gseg_small h _ _) x hx
      · rcases List.mem_cons.1 hx with rfl | hx
        · decide
        · rcases List.mem_cons.1 hx with rfl | hx
          · decide
          · exact join_47 _ (gseg_small h _ _) x hx
  · exact join_47 _ (gseg_small h _ _) x hx
theorem format_47 {ip : List Int} (h : IsIP ip) : ∀ x ∈ txt (formatI ip), x ≠ 47 := by
  unfold formatI fall
  have hf := fall_take h (zall (grps ip)).1 (zall (grps ip)).2.1 8 (Nat.le_refl _)
  rw [grps_all] at hf
  rw [hf]
  exact shape_47 h _ _ _
theorem parseP_format {p : List Int} {n : Int} (h : IsIP p) (hv : validP p n = true) : parsePV (formatPV p n) = some (p, n) := by
  have hb := validP_bd hv
  unfold formatPV
  rw [if_pos hv, List.append_assoc, List.singleton_append]
  unfold parsePV
  rw [cut_one _ (format_47 h)]
  dsimp only
  rw [bits_itoa n hb.1 hb.2]
  dsimp only
  rw [parse_format h]
  dsimp only
  rw [if_pos hv]
end Go.Proofs.YtadnpidadcgdcaaDoor

/-! V4 -/
/-
  Plain: the reference's reading of groups and addresses is ParseIP's. No program in sight.
-/
namespace Go.Proofs.YtadnpidadcgdcaaDoor
set_option linter.unusedVariables false
set_option linter.unusedSimpArgs false
open Go.RowKit

/-- the reference's loop over a text: what is read, the digits of the group under way, its value -/
def rgGo : List UInt8 → List Int → Nat → Int → Option (List Int)
  | [], out, n, v => if n < 1 ∨ 4 < n then none else some (out ++ [v])
  | c :: cs, out, n, v => if c = 58 then (if n < 1 ∨ 4 < n then none else rgGo cs (out ++ [v]) 0 0) else
    match digV c.toNat with
    | none => none
    | some d => if n = 4 then none else rgGo cs out (n + 1) (16 * v + d)
def rgV (s : List UInt8) : Option (List Int) := if s = [] then some [] else rgGo s [] 0 0
def allG : List (List UInt8) → List Int → Option (List Int)
  | [], r => some r
  | p :: ps, r => match grpV p with
    | none => none
    | some g => allG ps (r ++ [g])
theorem grpGo_app : ∀ (p q : List UInt8) (g : Int), grpGo (p ++ q) g = (grpGo p g).bind (grpGo q)
  | [], q, g => rfl
  | c :: p, q, g => by
    simp only [List.cons_append, grpGo]
    cases digV c.toNat with
    | none => rfl
    | some d => exact grpGo_app p q _
theorem splitC_in {c : UInt8} (hc : c ≠ 58) (cs : List UInt8) : ∀ (p : List UInt8), (∀ x ∈ p, x ≠ 58) → ∃ h t, splitC (p ++ c :: cs) = (p ++ c :: h) :: t
  | [], _ => by
    simp only [List.nil_append, splitC]
    rw [if_neg hc]
    cases hs : splitC cs with
    | nil => exact absurd hs (splitC_ne cs)
    | cons x xs => exact ⟨x, xs, rfl⟩
  | b :: p, hp => by
    obtain ⟨h, t, e⟩ := splitC_in hc cs p (fun x hx => hp x (List.mem_cons_of_mem _ hx))
    refine ⟨h, t, ?_⟩
    simp only [List.cons_append, splitC]
    rw [if_neg (hp b (by simp)), e]
theorem rgGo_split : ∀ (cs : List UInt8) (out : List Int) (p : List UInt8) (v : Int), (∀ x ∈ p, x ≠ 58) → p.length ≤ 4 → grpGo p 0 = some v → rgGo cs out p.length v = allG (splitC (p ++ cs)) out
  | [], out, p, v, hp, hl, hg => by
    rw [List.append_nil, splitC_one hp]
    simp only [rgGo, allG, grpV]
    by_cases h : p.length < 1 ∨ 4 < p.length
    · rw [if_pos h, if_pos h]
    · rw [if_neg h, if_neg h, hg]
  | c :: cs, out, p, v, hp, hl, hg => by
    by_cases hc : c = 58
    · subst hc
      rw [splitC_app, splitC_one hp]
      simp only [rgGo, allG, grpV, List.singleton_append, if_true]
      by_cases h : p.length < 1 ∨ 4 < p.length
      · rw [if_pos h, if_pos h]
      · rw [if_neg h, if_neg h, hg]
        simp only
        exact rgGo_split cs (out ++ [v]) [] 0 (by simp) (by simp) rfl
    · simp only [rgGo]
      rw [if_neg hc]
      cases hd : digV c.toNat with
      | none =>
        obtain ⟨h, t, e⟩ := splitC_in hc cs p hp
        rw [e]
        have : grpV (p ++ c :: h) = none := by
          unfold grpV
          split
          · rfl
          · rw [grpGo_app, hg]; simp [grpGo, hd]
        simp only [allG, this]
      | some d =>
        simp only
        by_cases h4 : p.length = 4
        · rw [if_pos h4]
          obtain ⟨h, t, e⟩ := splitC_in hc cs p hp
          rw [e]
          have : grpV (p ++ c :: h) = none := by
            unfold grpV
            rw [if_pos (by right; simp; omega)]
          simp only [allG, this]
        · rw [if_neg h4]
          have := rgGo_split cs out (p ++ [c]) (16 * v + d) (fun x hx => by
            rcases List.mem_append.1 hx with h | h
            · exact hp x h
            · simp at h; subst h; exact hc) (by simp; omega) (by rw [grpGo_app, hg]; simp [grpGo, hd])
          simp only [List.length_append, List.length_singleton, List.append_assoc, List.singleton_append] at this
          exact this
theorem allG_len : ∀ (ps : List (List UInt8)) (r l : List Int), allG ps r = some l → r.length ≤ l.length
  | [], r, l, h => by simp [allG] at h; subst h; omega
  | p :: ps, r, l, h => by
    simp only [allG] at h
    cases hp : grpV p with
    | none => simp [hp] at h
    | some g =>
      rw [hp] at h
      have := allG_len ps (r ++ [g]) l h
      simp at this; omega
theorem groupsGo_all : ∀ (ps : List (List UInt8)) (r : List Int), r.length ≤ 8 → groupsGo ps r = (allG ps r).bind fun l => if l.length ≤ 8 then some l else none
  | [], r, h => by simp [groupsGo, allG, h]
  | p :: ps, r, h => by
    simp only [groupsGo, allG]
    cases hp : grpV p with
    | none => rfl
    | some g =>
      simp only
      by_cases h8 : r.length = 8
      · rw [if_pos h8]
        cases ha : allG ps (r ++ [g]) with
        | none => rfl
        | some l =>
          have := allG_len _ _ _ ha
          simp at this
          simp only [Option.bind_some]
          rw [if_neg (by omega)]
      · rw [if_neg h8]; exact groupsGo_all ps (r ++ [g]) (by simp; omega)
theorem rgV_groups (s : List UInt8) : groupsV s = (rgV s).bind fun l => if l.length ≤ 8 then some l else none := by
  unfold groupsV rgV
  by_cases h : s = []
  · rw [if_pos h, if_pos h]; rfl
  · rw [if_neg h, if_neg h]
    have := rgGo_split s [] [] 0 (by simp) (by simp) rfl
    simp only [List.length_nil, List.nil_append] at this
    rw [this]
    exact groupsGo_all _ _ (by simp)
/-- the groups are numbers of sixteen bits -/
theorem rgGo_bd : ∀ (cs : List UInt8) (out : List Int) (n : Nat) (v : Int) (l : List Int), n ≤ 4 → (0 ≤ v ∧ v < 16 ^ n) → (∀ g ∈ out, 0 ≤ g ∧ g ≤ 65535) → rgGo cs out n v = some l → ∀ g ∈ l, 0 ≤ g ∧ g ≤ 65535
  | [], out, n, v, l, hn, hv, ho, h => by
    simp only [rgGo] at h
    split at h
    · cases h
    · cases h
      intro g hg
      rcases List.mem_append.1 hg with h1 | h1
      · exact ho g h1
      · simp at h1; subst h1
        have : (16 : Int) ^ n ≤ 65536 := by
          have h4 : n = 0 ∨ n = 1 ∨ n = 2 ∨ n = 3 ∨ n = 4 := by omega
          rcases h4 with e | e | e | e | e <;> rw [e] <;> decide
        omega
  | c :: cs, out, n, v, l, hn, hv, ho, h => by
    have h16 : (16 : Int) ^ n ≤ 65536 := by
      have h4 : n = 0 ∨ n = 1 ∨ n = 2 ∨ n = 3 ∨ n = 4 := by omega
      rcases h4 with e | e | e | e | e <;> rw [e] <;> decide
    simp only [rgGo] at h
    split at h
    · split at h
      · cases h
      · refine rgGo_bd cs _ 0 0 l (by omega) ⟨by omega, by decide⟩ (fun g hg => ?_) h
        rcases List.mem_append.1 hg with h1 | h1
        · exact ho g h1
        · simp at h1; subst h1; omega
    · cases hd : digV c.toNat with
      | none => simp [hd] at h
      | some d =>
        rw [hd] at h
        simp only at h
        have hb := digV_bd hd
        split at h
        · cases h
        · exact rgGo_bd cs out (n + 1) (16 * v + d) l (by omega) ⟨by omega, by rw [Int.pow_succ]; omega⟩ ho h
theorem rgV_bd {s : List UInt8} {l : List Int} (h : rgV s = some l) : ∀ g ∈ l, 0 ≤ g ∧ g ≤ 65535 := by
  unfold rgV at h
  split at h
  · cases h; simp
  · exact rgGo_bd s [] 0 0 l (by omega) ⟨by omega, by decide⟩ (by simp) h
theorem rgGo_len : ∀ (cs : List UInt8) (out : List Int) (n : Nat) (v : Int) (l : List Int), rgGo cs out n v = some l → l.length ≤ out.length + cs.length + 1
  | [], out, n, v, l, h => by
    simp only [rgGo] at h
    split at h
    · cases h
    · cases h; simp
  | c :: cs, out, n, v, l, h => by
    simp only [rgGo] at h
    split at h
    · split at h
      · cases h
      · have := rgGo_len cs _ _ _ l h
        simp at this ⊢; omega
    · cases hd : digV c.toNat with
      | none => simp [hd] at h
      | some d =>
        rw [hd] at h
        simp only at h
        split at h
        · cases h
        · have := rgGo_len cs _ _ _ l h
          simp; omega
theorem rgV_len {s : List UInt8} {l : List Int} (h : rgV s = some l) : l.length ≤ s.length + 1 := by
  unfold rgV at h
  split at h
  · cases h; simp
  · simpa using rgGo_len s [] 0 0 l h
/-- the first two colons side by side, from i on -/
def pairAt (s : List UInt8) (i : Nat) : Prop := s.getD i 0 = 58 ∧ s.getD (i + 1) 0 = 58 ∧ i + 1 < s.length
theorem occ_pair (s : List UInt8) (i : Nat) : Lib.occAt s [58, 58] i = true ↔ pairAt s i := by
  unfold Lib.occAt pairAt
  constructor
  · intro h
    obtain ⟨t, ht⟩ := List.isPrefixOf_iff_prefix.1 h
    have hl : (s.drop i).length = 2 + t.length := by rw [← ht]; simp; omega
    rw [List.length_drop] at hl
    have h1 : (s.drop i)[0]? = some 58 := by rw [← ht]; rfl
    have h2 : (s.drop i)[1]? = some 58 := by rw [← ht]; rfl
    rw [List.getElem?_drop] at h1 h2
    refine ⟨?_, ?_, by omega⟩
    · rw [List.getD_eq_getElem?_getD]; rw [Nat.add_zero] at h1; rw [h1]; rfl
    · rw [List.getD_eq_getElem?_getD, h2]; rfl
  · rintro ⟨h1, h2, h3⟩
    rw [List.isPrefixOf_iff_prefix]
    refine ⟨s.drop (i + 2), ?_⟩
    have e1 : s[i]'(by omega) = 58 := by rw [List.getD_eq_getElem?_getD, List.getElem?_eq_getElem (by omega)] at h1; exact h1
    have e2 : s[i + 1]'h3 = 58 := by rw [List.getD_eq_getElem?_getD, List.getElem?_eq_getElem h3] at h2; exact h2
    rw [List.drop_eq_getElem_cons (by omega : i < s.length), List.drop_eq_getElem_cons (by omega : i + 1 < s.length), e1, e2]
    rfl
theorem cut_at {s : List UInt8} {i : Nat} (h : pairAt s i) (hn : ∀ j, j < i → ¬ pairAt s j) : Lib.cut s [58, 58] = (s.take i, s.drop (i + 2), true) := by
  have := Lib.index_first (s := s) (sub := [58, 58]) (i := i) (by have := h.2.2; omega) ((occ_pair s i).2 h) (fun j hj => by
    cases ho : Lib.occAt s [58, 58] j with
    | false => rfl
    | true => exact absurd ((occ_pair s j).1 ho) (hn j hj))
  unfold Lib.cut
  rw [this, if_pos (by omega)]
  simp
theorem cut_none {s : List UInt8} (hn : ∀ j, j + 1 < s.length → ¬ pairAt s j) : Lib.cut s [58, 58] = (s, [], false) := by
  have := Lib.index_none (s := s) (sub := [58, 58]) (fun j _ => by
    cases ho : Lib.occAt s [58, 58] j with
    | false => rfl
    | true => exact absurd ((occ_pair s j).1 ho) (hn j ((occ_pair s j).1 ho).2.2))
  unfold Lib.cut
  rw [this]; rfl
/-- the eight groups -/
def fill8 (l r : List Int) : List Int := l ++ List.replicate (8 - l.length - r.length) 0 ++ r
theorem fill8_len {l r : List Int} (h : l.length + r.length ≤ 8) : (fill8 l r).length = 8 := by simp [fill8]; omega
theorem fill8_row {l r : List Int} (h : l.length + r.length ≤ 8) : rowA (fill8 l r) 8 = rowB l r r.length := by
  unfold rowA rowB
  apply List.map_congr_left
  intro j hj
  rw [List.mem_range] at hj
  rw [if_pos (by omega)]
  have hz : (0 : Int) / 256 = 0 ∧ (0 : Int) % 256 = 0 := by decide
  by_cases e1 : j < 2 * l.length
  · rw [if_pos e1]
    have : (fill8 l r).getD (j / 2) 0 = l.getD (j / 2) 0 := by
      unfold fill8
      rw [List.getD_eq_getElem?_getD, List.getD_eq_getElem?_getD, List.append_assoc, List.getElem?_append_left (by omega)]
    unfold byteOf; rw [this]
  · rw [if_neg e1]
    by_cases e2 : 16 - 2 * r.length ≤ j ∧ j < 16 - 2 * r.length + 2 * r.length
    · rw [if_pos e2]
      have : (fill8 l r).getD (j / 2) 0 = r.getD ((j - (16 - 2 * r.length)) / 2) 0 := by
        unfold fill8
        rw [List.getD_eq_getElem?_getD, List.getD_eq_getElem?_getD, List.getElem?_append_right (by simp; omega)]
        congr 2; simp; omega
      unfold byteOf
      rw [this, show (j - (16 - 2 * r.length)) % 2 = j % 2 by omega]
    · rw [if_neg e2]
      have : (fill8 l r).getD (j / 2) 0 = 0 := by
        unfold fill8
        rw [List.getD_eq_getElem?_getD, List.getElem?_append_left (by simp; omega), List.getElem?_append_right (by omega), List.getElem?_replicate, if_pos (by omega)]
        rfl
      unfold byteOf; rw [this]; split <;> decide
/-- the reference's reading of a text -/
def rparseV (s : List UInt8) : Option (List Int) :=
  if (Lib.cut s [58, 58]).2.2 then
    match rgV (Lib.cut s [58, 58]).1, rgV (Lib.cut s [58, 58]).2.1 with
    | some l, some r => if 7 < l.length + r.length then none else some (rowA (fill8 l r) 8)
    | _, _ => none
  else match rgV (Lib.cut s [58, 58]).1 with
    | some l => if l.length ≠ 8 then none else some (rowA l 8)
    | none => none
theorem rparse_is (s : List UInt8) : rparseV s = parseIPV s := by
  unfold rparseV parseIPV
  rw [rgV_groups, rgV_groups]
  cases hc : (Lib.cut s [58, 58]).2.2 with
  | true =>
    simp only [if_true]
    cases h1 : rgV (Lib.cut s [58, 58]).1 with
    | none => rfl
    | some l =>
      cases h2 : rgV (Lib.cut s [58, 58]).2.1 with
      | none => simp only [Option.bind_some, Option.bind_none]; split <;> rfl
      | some r =>
        simp only [Option.bind_some]
        by_cases hb : 7 < l.length + r.length
        · rw [if_pos hb]
          by_cases hl : l.length ≤ 8
          · rw [if_pos hl]
            by_cases hr : r.length ≤ 8
            · rw [if_pos hr]; simp only; rw [if_pos (.inl ⟨rfl, hb⟩)]
            · rw [if_neg hr]
          · rw [if_neg hl]
        · rw [if_neg hb, if_pos (by omega), if_pos (by omega)]
          simp only
          rw [if_neg (by rintro (⟨_, h⟩ | ⟨h, _⟩); { exact hb h }; { cases h }), fill8_row (by omega)]
  | false =>
    simp only [Bool.false_eq_true, if_false]
    have hempty : (Lib.cut s [58, 58]).2.1 = [] := by
      unfold Lib.cut at hc ⊢
      split at hc
      · cases hc
      · rename_i h; rw [if_neg h]
    rw [hempty, show rgV [] = some [] from rfl]
    cases h1 : rgV (Lib.cut s [58, 58]).1 with
    | none => rfl
    | some l =>
      simp only [Option.bind_some, List.length_nil, Nat.zero_le, if_true]
      by_cases hl : l.length = 8
      · rw [if_neg (by simp [hl]), if_pos (by omega)]
        simp only
        rw [if_neg (by rintro (⟨h, _⟩ | ⟨_, h⟩); { cases h }; { exact h hl })]
        have := rowA_B l []
        rw [hl] at this
        rw [this]
      · rw [if_pos hl]
        by_cases hl2 : l.length ≤ 8
        · rw [if_pos hl2]; simp only; rw [if_pos (.inr ⟨rfl, hl⟩)]
        · rw [if_neg hl2]
end Go.Proofs.YtadnpidadcgdcaaDoor

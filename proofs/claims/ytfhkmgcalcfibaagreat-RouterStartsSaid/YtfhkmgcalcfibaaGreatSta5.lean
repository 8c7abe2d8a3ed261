/-
  Texts joined.
-/
import Derived.Test.YtfhkmgcalcfibaaGreatSta4
import Derived.Shelf.SlSortCmp.WholeK
import Derived.Shelf.SlSortCmp.NoneTotal
import Derived.Test.YtfhkmgcalcfibaaGreatProg
set_option linter.unusedVariables false
set_option linter.unusedSimpArgs false
set_option maxHeartbeats 64000000
namespace Go.Proofs.YtfhkmgcalcfibaaGreat
open Go.Shelf
def sortOs_ren : Go.Shelf.Ren := ⟨fun | 6 => 85 | 15 => 181 | 14 => 180 | 28 => 277 | 29 => 278 | 20 => 269 | 21 => 270 | 22 => 271 | 23 => 272 | 24 => 273 | 25 => 274 | 26 => 275 | 27 => 276 | 46 => 321 | 47 => 322 | 48 => 323 | 49 => 324 | 50 => 325 | 57 => 351 | n => n, fun | 22 => 43 | 24 => 85 | 25 => 161 | 3 => 3 | 39 => 185 | 0 => 0 | 53 => 297 | 55 => 40 | 4 => 4 | 46 => 291 | 45 => 290 | 50 => 268 | 5 => 5 | 9 => 9 | 66 => 326 | 70 => 329 | 76 => 345 | 77 => 346 | n => n, fun | n => n⟩
theorem sortOs : Go.Proofs.SlLaysF0.n6 Tryz.prog sortOs_ren := {
 mixed := by kernel_rfl
 f6 := ⟨Tryz.f85.name, by decide, Tryz.func85.trans (congrArg some (by kernel_rfl))⟩
 f14 := ⟨Tryz.f180.name, by decide, Tryz.func180.trans (congrArg some (by kernel_rfl))⟩
 f15 := Tryz.func181.trans (congrArg some (by kernel_rfl))
 f20 := ⟨Tryz.f269.name, by decide, Tryz.func269.trans (congrArg some (by kernel_rfl))⟩
 f21 := ⟨Tryz.f270.name, by decide, Tryz.func270.trans (congrArg some (by kernel_rfl))⟩
 f22 := ⟨Tryz.f271.name, by decide, Tryz.func271.trans (congrArg some (by kernel_rfl))⟩
 f23 := ⟨Tryz.f272.name, by decide, Tryz.func272.trans (congrArg some (by kernel_rfl))⟩
 f24 := ⟨Tryz.f273.name, by decide, Tryz.func273.trans (congrArg some (by kernel_rfl))⟩
 f25 := ⟨Tryz.f274.name, by decide, Tryz.func274.trans (congrArg some (by kernel_rfl))⟩
 f26 := ⟨Tryz.f275.name, by decide, Tryz.func275.trans (congrArg some (by kernel_rfl))⟩
 f27 := ⟨Tryz.f276.name, by decide, Tryz.func276.trans (congrArg some (by kernel_rfl))⟩
 f28 := Tryz.func277.trans (congrArg some (by kernel_rfl))
 f29 := Tryz.func278.trans (congrArg some (by kernel_rfl))
 f46 := ⟨Tryz.f321.name, by decide, Tryz.func321.trans (congrArg some (by kernel_rfl))⟩
 f47 := Tryz.func322.trans (congrArg some (by kernel_rfl))
 f48 := Tryz.func323.trans (congrArg some (by kernel_rfl))
 f49 := ⟨Tryz.f324.name, by decide, Tryz.func324.trans (congrArg some (by kernel_rfl))⟩
 f50 := ⟨Tryz.f325.name, by decide, Tryz.func325.trans (congrArg some (by kernel_rfl))⟩
 f57 := ⟨Tryz.f351.name, by decide, Tryz.func351.trans (congrArg some (by kernel_rfl))⟩
 t0 := Tryz.underlying0
 a0 := Tryz.isAgg0
 z0 := Tryz.sizeOf0
 v0 := Tryz.zeroValue0
 t3 := Tryz.underlying3
 a3 := Tryz.isAgg3
 z3 := Tryz.sizeOf3
 v3 := Tryz.zeroValue3
 t4 := Tryz.underlying4
 a4 := Tryz.isAgg4
 z4 := Tryz.sizeOf4
 v4 := Tryz.zeroValue4
 t5 := Tryz.underlying5
 a5 := Tryz.isAgg5
 z5 := Tryz.sizeOf5
 v5 := Tryz.zeroValue5
 t9 := Tryz.underlying9
 a9 := Tryz.isAgg9
 z9 := Tryz.sizeOf9
 v9 := Tryz.zeroValue9
 t22 := Tryz.underlying43
 a22 := Tryz.isAgg43
 z22 := Tryz.sizeOf43
 v22 := Tryz.zeroValue43
 t25 := Tryz.underlying161
 a25 := Tryz.isAgg161
 z25 := Tryz.sizeOf161
 v25 := Tryz.zeroValue161
 t39 := Tryz.underlying185
 a39 := Tryz.isAgg185
 z39 := Tryz.sizeOf185
 v39 := Tryz.zeroValue185
 t45 := Tryz.underlying290
 a45 := Tryz.isAgg290
 z45 := Tryz.sizeOf290
 v45 := Tryz.zeroValue290
 t46 := Tryz.underlying291
 a46 := Tryz.isAgg291
 z46 := Tryz.sizeOf291
 v46 := Tryz.zeroValue291
 t50 := Tryz.underlying268
 a50 := Tryz.isAgg268
 z50 := Tryz.sizeOf268
 v50 := Tryz.zeroValue268
 t53 := Tryz.underlying297
 a53 := Tryz.isAgg297
 z53 := Tryz.sizeOf297
 v53 := Tryz.zeroValue297
 t55 := Tryz.underlying40
 a55 := Tryz.isAgg40
 z55 := Tryz.sizeOf40
 v55 := Tryz.zeroValue40
 t66 := Tryz.underlying326
 a66 := Tryz.isAgg326
 z66 := Tryz.sizeOf326
 v66 := Tryz.zeroValue326
 t70 := Tryz.underlying329
 a70 := Tryz.isAgg329
 z70 := Tryz.sizeOf329
 v70 := Tryz.zeroValue329
 t76 := Tryz.underlying345
 a76 := Tryz.isAgg345
 z76 := Tryz.sizeOf345
 v76 := Tryz.zeroValue345
 t77 := Tryz.underlying346
 a77 := Tryz.isAgg346
 z77 := Tryz.sizeOf346
 v77 := Tryz.zeroValue346 }
end Go.Proofs.YtfhkmgcalcfibaaGreat
namespace Go.Proofs.YtfhkmgcalcfibaaGreat
open Go.RowKit Go.Sort Go.Shelf
section
variable {α : Type} [Inhabited α] {P : Program} {ρ : Ren} {enc : α → List Value} {k : Nat}
theorem sortW_at {w : World} {b c3 n : Nat} {dk : Array α} {os : Array Obj} {o3 : Obj} (h3 : w.heap[c3]? = some o3) (hne : b ≠ c3) : (sortWorldK enc k w b 0 n dk os).heap[c3]? = some o3 := by
 have hlt : c3 < w.heap.size := (Array.getElem?_eq_some_iff.1 h3).1
 have hs : c3 < (putRowK enc k (Go.Sort.ahead w n) b 0 dk).heap.size := by simpa [putRowK, Go.Sort.ahead] using hlt
 simp only [sortWorldK, grow]
 rw [Array.getElem?_append_left hs]
 simp only [putRowK, putRow, mapBlock, Go.Sort.ahead]
 rw [Array.getElem?_modify, if_neg hne]
 exact h3
theorem cmp_laysC {g : Nat} {cb : Array Value} {c3 : Nat} {o3 : Obj} {cf : α → α → Int} {b size : Nat} {w : World} (h : ∀ (W : World) (x y : α), W.heap[c3]? = some o3 → Cal P g (#[.agg (enc x).toArray, .agg (enc y).toArray] ++ cb) W fun v w' => v = .int .i64 (cf x y) ∧ Ext [] W w') (h3 : w.heap[c3]? = some o3) (hne : b ≠ c3) : CmpLays P g cb enc k cf b 0 size w := by
 intro m os dk _ x y
 refine ((h (sortWorldK enc k w b 0 m dk os) x y (sortW_at h3 hne)).calls).mono ?_
 rintro e w' ⟨v, rfl, rfl, hE⟩
 exact ⟨rfl, ext_grow hE⟩
theorem sort_ownC (L : SlLaysF0.n6 P ρ) (hk : ∀ x, (enc x).length = k) (h0 : 0 < k) (h1 : ∀ x, (enc x).all (·.oneCell') = true) (haE : aggTy P (ρ.t 24) k = true) (cf : α → α → Int) (hO : SWO (ltOf cf)) (hT : ∀ x y, ltOf cf x y = false → ltOf cf y x = false → x = y) {g : Nat} (hg : hasBody P g = true) {cb : Array Value} {c3 : Nat} {o3 : Obj}
  (hcmp : ∀ (W : World) (x y : α), W.heap[c3]? = some o3 → Cal P g (#[.agg (enc x).toArray, .agg (enc y).toArray] ++ cb) W fun v w' => v = .int .i64 (cf x y) ∧ Ext [] W w')
  {S : List Nat} {W0 w : World} {l : List (Nat × Obj)} {f : List (Nat × Obj) → List (Nat × Obj)} {e : TypeId} {v : Value} (ls : List α) {ent : List (Nat × Obj)} (M : Mem S W0 w l) (hOw : OwnS e k v ls.length (encL enc ls) ent) (hl : TailAt ent l f) (h3 : w.heap[c3]? = some o3) (h3n : ∀ p ∈ ent, p.1 ≠ c3) (hsz : ls.length < 4611686018427387904) :
  Cal P (ρ.f 6) [v, .func (.func g) #[] cb].toArray w fun _ w' => ∃ ent', OwnS e k v ls.length (encL enc (ls.mergeSort fun x y => !(ltOf cf) y x)) ent' ∧ Mem S W0 w' (f ent') := by
 obtain ⟨lr, rfl, hf⟩ := hl.spec
 rcases hOw with ⟨rfl, hn, _, rfl⟩ | ⟨b, cap, junk, rfl, rfl, hxl, hjl, hnc⟩
 ·have hls : ls = [] := List.length_eq_zero_iff.1 hn
  subst hls
  refine Cal.of_calls (AnyF.slices_SortFunc_none L none 0 (.func (.func g) #[] cb) w) ?_
  rintro e' w' ⟨rfl, rfl⟩
  exact ⟨_, rfl, [], by simpa [encL] using OwnS.nil e k, by rw [hf];exact M⟩
 ·have hb : w.heap[b]? = some (.cells (encL enc ls ++ junk).toArray e (0, 0)) := M.at_ (b, _) (by simp)
  have hlt : b < w.heap.size := (Array.getElem?_eq_some_iff.1 hb).1
  have hH : HoldsK enc k w b 0 ls.toArray := by
   intro j hj
   rw [size_flatK] at hj
   simp only [List.size_toArray] at hj
   have hfl := flat_enc hk h0 ls.toArray
   have hjf : j < (flatK enc k ls.toArray).size := by rw [size_flatK];simpa using hj
   refine ⟨?_, by simp [World.frozen?, hb]⟩
   rw [getElem!_pos _ j hjf]
   simp only [World.cell?, hb, id]
   rw [if_neg (by simp), Nat.zero_add, List.getElem?_toArray, List.getElem?_append_left (by rw [hxl];exact hj)]
   have h2 : (flatK enc k ls.toArray).toList[j]? = (encL enc ls)[j]? := by rw [hfl]
   rw [← h2, Array.getElem?_toList, Array.getElem?_eq_getElem hjf]
  have hagg : ∀ w, (isAgg (ρ.t 24)).run P w = .ok true w := fun w => run_isAgg_agg haE
  have hszo : ∀ w, (sizeOf (ρ.t 24)).run P w = .ok k w := fun w => run_sizeOf_agg haE
  have hcon := AnyQ.slices_SortFunc_total L k hagg hszo enc hk (fun x v hv => List.all_eq_true.1 (h1 x) v hv) cf hO g cb b 0 cap ls.toArray w (fun args w => run_callFunc hg args w) (cmp_laysC hcmp h3 (h3n _ List.mem_cons_self)) hH hlt (by simpa using hsz) hT
  simp only [List.size_toArray] at hcon
  refine Cal.of_calls hcon ?_
  rintro e' w' ⟨rfl, n, os, rfl⟩
  refine ⟨_, rfl, [(b, .cells (encL enc (ls.mergeSort fun x y => !(ltOf cf) y x) ++ junk).toArray e (0, 0))], .inr ⟨b, cap, junk, rfl, rfl, by rw [encL_len (fun x _ => hk x)];simp, hjl, hnc⟩, ?_⟩
  rw [hf]
  obtain ⟨ds, hds⟩ : ∃ ds, ds = ls.mergeSort fun x y => !(ltOf cf) y x := ⟨_, rfl⟩
  rw [← hds]
  have hdl : ds.length = ls.length := by rw [hds];simp
  clear hcon hH
  have hcells : putCells id 0 (flatK enc k ds.toArray) (encL enc ls ++ junk).toArray = (encL enc ds ++ junk).toArray := by
   have hfl := flat_enc hk h0 ds.toArray
   have hfs : (flatK enc k ds.toArray).size = ls.length * k := by rw [size_flatK];simp [hdl]
   have hel : (encL enc ds).length = ls.length * k := by rw [encL_len (fun x _ => hk x), hdl]
   apply Array.ext'
   apply List.ext_getElem?
   intro i
   simp only [putCells, Array.getElem?_toList, Array.getElem?_mapIdx, List.getElem?_toArray]
   rcases Nat.lt_or_ge i (ls.length * k) with hi | hi
   ·rw [List.getElem?_append_left (by omega), List.getElem?_append_left (by omega), List.getElem?_eq_getElem (show i < (encL enc ls).length by omega)]
    simp only [Option.map_some]
    rw [if_pos ⟨Nat.zero_le _, by omega⟩, Nat.sub_zero, getElem!_pos _ i (by omega)]
    have h2 : (flatK enc k ds.toArray).toList[i]? = (encL enc ds)[i]? := by rw [hfl]
    rw [← h2, Array.getElem?_toList, Array.getElem?_eq_getElem (by omega)]
    rfl
   ·rw [List.getElem?_append_right (by omega), List.getElem?_append_right (by omega), hxl, hel]
    cases hjv : junk[i - ls.length * k]? with
    | none => rfl
    | some z =>
     simp only [Option.map_some]
     rw [if_neg (by omega)]
  have hnew : (sortWorldK enc k w b 0 n ds.toArray os).heap[b]? = some (.cells (encL enc ds ++ junk).toArray e (0, 0)) := by
   have hs : b < (putRowK enc k (Go.Sort.ahead w n) b 0 ds.toArray).heap.size := by simpa [putRowK, Go.Sort.ahead] using hlt
   simp only [sortWorldK, grow]
   rw [Array.getElem?_append_left hs]
   simp only [putRowK, putRow, mapBlock, Go.Sort.ahead]
   rw [Array.getElem?_modify]
   simp only [if_true, hb, Option.map_some, onCells, hcells]
  have hext : Ext [b] w (sortWorldK enc k w b 0 n ds.toArray os) := by
   refine ⟨rfl, rfl, rfl, ?_, ?_, fun j hj hne => ?_⟩
   ·simp [sortWorldK, grow, putRowK, putRow, mapBlock, Go.Sort.ahead]
   ·simp [sortWorldK, grow, putRowK, putRow, mapBlock, Go.Sort.ahead]
   ·have hs : j < (putRowK enc k (Go.Sort.ahead w n) b 0 ds.toArray).heap.size := by simpa [putRowK, Go.Sort.ahead] using hj
    simp only [sortWorldK, grow]
    rw [Array.getElem?_append_left hs]
    simp only [putRowK, putRow, mapBlock, Go.Sort.ahead]
    rw [Array.getElem?_modify, if_neg (by intro h;exact hne (by simp [h]))]
  exact M.turned ((Upd.here (l := [])).append lr) hext hnew
end
end Go.Proofs.YtfhkmgcalcfibaaGreat
namespace Go.Proofs.YtfhkmgcalcfibaaGreat
open Go.RowKit Go.Sort Go.Shelf
attribute [local irreducible] OpTo wpListIn Code.wpIn MW Cal
theorem st1_c (self : Int) (x y : OrgV) (hx : IsOg x) (hy : IsOg y) {c3 : Nat} (W : World) (h3 : W.heap[c3]? = some (.cells [.int .u64 self].toArray 41 (0, 0))) : Cal Tryz.prog 86 (#[.agg (ogC x).toArray, .agg (ogC y).toArray] ++ #[.pointer (some ⟨c3, 0, none⟩)]) W fun v w' => v = .int .i64 (cmpOg self x y) ∧ Ext [] W w' := by
 have g3 : ∀ w', Ext [] W w' → w'.heap[c3]? = some (.cells [.int .u64 self].toArray 41 (0, 0)) := fun w' E => ext_keep E h3
 have n3 : nth [Value.int .u64 self] 0 = some (.int .u64 self) := rfl
 have xd : IsDv (orgD self x) := hx
 have yd : IsDv (orgD self y) := hy
 show Cal _ _ [.agg (ogC x).toArray, .agg (ogC y).toArray, .pointer (some ⟨c3, 0, none⟩)].toArray _ _
 unfold cmpOg
 refine g_start (n := 13) (S := []) fldT_ok slcT_ok Tryz.func86 rfl rfl rfl (gR 2 rfl (g_box rfl rfl fun b3 => g_box rfl rfl fun b4 => gR 4 rfl (g_draw 8 13 rfl (by kernel_rfl) (fd_le1 rfl ‹_› (by with_reducible assumption) ?_))))
 refine fd_ldA 1 rfl rfl (og_all ‹_›) ?_
 refine fd_call rfl rfl (fun w M => odest_c _ _ ‹_› _) ?_
 refine fd_le1 rfl ‹_› (by with_reducible assumption) ?_
 refine fd_ldA 0 rfl rfl (og_all ‹_›) ?_
 refine fd_call rfl rfl (fun w M => odest_c _ _ ‹_› _) ?_
 refine fd_call rfl rfl (fun w M => scompare_c _ _ ‹_› ‹_› _) ?_
 exact fR 1 rfl (fd_done rfl rfl (gR 3 rfl (g_ret1 rfl rfl rfl fun w M => ⟨rfl, M.ext⟩)))
abbrev AOrg := {o : OrgV // IsOg o}
instance : Inhabited AOrg := ⟨⟨⟨nul16, 0, nul16, 0⟩, nul16_is, nul16_is⟩⟩
def oD (self : Int) (x : AOrg) : ADst := ⟨orgD self x.1, x.2⟩
def cfO (self : Int) (x y : AOrg) : Int := cmpOg self x.1 y.1
theorem ltO_f {self : Int} (x y : AOrg) : ltOf (cfO self) x y = false ↔ ¬ cmpOg self x.1 y.1 < 0 := decide_eq_false_iff_not
theorem swoO (self : Int) : SWO (ltOf (cfO self)) where
 irrefl x := swoD.irrefl (oD self x)
 trans x y z h1 h2 := swoD.trans (oD self x) (oD self y) (oD self z) h1 h2
 ntrans x y z h1 h2 := swoD.ntrans (oD self x) (oD self y) (oD self z) h1 h2
theorem orgD_inj {self : Int} {x y : OrgV} (h : orgD self x = orgD self y) : x = y := by
 obtain ⟨a, b, c, d⟩ := x
 obtain ⟨a', b', c', d'⟩ := y
 simp only [orgD, DstV.mk.injEq] at h
 obtain ⟨rfl, rfl, rfl, rfl, _⟩ := h
 rfl
theorem totO (self : Int) (x y : AOrg) (h1 : ltOf (cfO self) x y = false) (h2 : ltOf (cfO self) y x = false) : x = y := by
 have h := totD (oD self x) (oD self y) h1 h2
 exact Subtype.ext (orgD_inj (congrArg Subtype.val h))
theorem compactO_c (ls : List OrgV) (hI : ∀ a ∈ ls, IsOg a) (hlen : ls.length ≤ 100000) {S : List Nat} {W0 w0 : World} {l : List (Nat × Obj)} {f : List (Nat × Obj) → List (Nat × Obj)} {v : Value} {ent : List (Nat × Obj)} (M0 : Mem S W0 w0 l) (hOw : OwnS 85 34 v ls.length (ogsC ls) ent) (hl : TailAt ent l f) :
  Cal Tryz.prog 89 [v].toArray w0 fun r w' => ∃ ls' ent', ls' = dedA ls ∧ OwnS 85 34 r ls'.length (ogsC ls') ent' ∧ Mem S W0 w' (f ent') := by
 have hsz : ∀ x ∈ ls, (ogC x).length = 34 := fun x hx => og_len (hI x hx)
 obtain ⟨lr, rfl, hf⟩ := hl.spec
 by_cases hn2 : ls.length < 2
 ·have hd : dedA ls = ls := by
   rcases ls with _ | ⟨x, _ | ⟨y, r⟩⟩
   ·rfl
   ·simp [dedA, dedS]
   ·simp at hn2;omega
  obtain ⟨q, cap, rfl⟩ := hOw.slice
  refine fn_ofM (n := 61) [] Tryz.func89 rfl rfl rfl ?_
  intro a w F M hwW
  have hE0 : Mem S W0 w (lr ++ ent) := by rw [hwW];exact M0
  clear M
  have M := hE0
  refine c_seq (c_region ?_)
  refine sD F (o_assign (F.e rfl) ?_);clear F a;intro a F
  with_reducible refine l_nil (q_then (c_seq (c_seq (c_region ?_))))
  refine sD F (o_move (F.e rfl) fun a F => sD F (o_lenSl (F.e rfl) fun a F => sD F (o_lssT (F.e rfl) (F.e rfl) (by omega) ?_)));iterate 3 clear F a
  intro a F
  with_reducible refine l_nil (q_then ?_)
  refine c_true F rfl rfl (c_seq (c_region ?_))
  refine sD F (o_move (F.e rfl) fun a F => sD F (o_assign (F.e rfl) ?_));iterate 2 clear F a
  intro a F
  with_reducible refine l_nil (q_then (c_ret (q_thenR ?_)))
  refine p_ret F rfl (.cons (.tmp (F.e rfl)) .nil) ?_
  exact ⟨ls, ent, hd.symm, hOw, by rw [hf];exact M⟩
 rcases hOw with ⟨_, h0, _, _⟩ | ⟨b, cap, junk, rfl, rfl, hxl, hjl, hnc⟩
 ·omega
 replace M0 := M0.perm (l' := (b, .cells (ogsC ls ++ junk).toArray 85 (0, 0)) :: lr) List.perm_append_comm
 refine fn_ofM (n := 61) [] Tryz.func89 rfl rfl rfl ?_
 intro a w F M hwW
 replace M : Mem S W0 w ((b, .cells (ogsC ls ++ junk).toArray 85 (0, 0)) :: lr) := by rw [hwW];exact M0
 clear M0 hwW
 refine c_seq (c_region ?_)
 refine sD F (o_assign (F.e rfl) ?_);clear F a;intro a F
 with_reducible refine l_nil (q_then (c_seq (c_seq (c_region ?_))))
 refine sD F (o_move (F.e rfl) fun a F => sD F (o_lenSl (F.e rfl) fun a F => sD F (o_lssF (F.e rfl) (F.e rfl) (by omega) ?_)));iterate 3 clear F a
 intro a F
 with_reducible refine l_nil (q_then ?_)
 refine c_false F rfl rfl ?_
 with_reducible refine c_skip (q_then (c_seq (c_seq (c_region ?_))))
 refine sD F (o_assign (F.e rfl) ?_);clear F a;intro a F
 with_reducible refine l_nil (q_then (c_block ?_))
 refine c_loop (fun m a w => ∃ i : Nat, m = ls.length - i ∧ 1 ≤ i ∧ i ≤ ls.length ∧ dedA (ls.take i) = ls.take i ∧ Frm a 61 [] [(3, .int .i64 (i : Int)), (0, .slice (some ⟨b, 0, none⟩) ls.length cap)] ∧ Mem S W0 w ((b, .cells (ogsC ls ++ junk).toArray 85 (0, 0)) :: lr)) (ls.length - 1) ⟨1, rfl, by omega, by omega, dedA_one ls, F.only [3, 0] rfl, M⟩ ?_
 clear F M
 rintro m a w ⟨i, hm, hi1, hi, hd, F, M⟩
 by_cases hlt : i < ls.length
 ·have f1 : seg (ogsC ls ++ junk) (0 + (i : Int).toNat * 34) 34 = some (ogC ls[i]) := own_el hsz junk hlt (by omega)
  have f2 : seg (ogsC ls ++ junk) (0 + ((i : Int) - 1).toNat * 34) 34 = some (ogC ls[i - 1]) := own_el hsz junk (show i - 1 < ls.length by omega) (by omega)
  have g1 := og_fits (hI _ (List.getElem_mem hlt))
  have g2 := og_fits (hI _ (List.getElem_mem (show i - 1 < ls.length by omega)))
  have g3 : eqVs (ogC ls[i]) (ogC ls[i - 1]) = decide (ls[i] = ls[i - 1]) := og_eq (hI _ (List.getElem_mem hlt)) (hI _ (List.getElem_mem (show i - 1 < ls.length by omega)))
  have hst := dedA_step (ls := ls) (j := i) (by omega) hlt
  by_cases he : ls[i] = ls[i - 1]
  ·rw [if_pos he] at hst
   replace g3 : eqVs (ogC ls[i]) (ogC ls[i - 1]) = true := by rw [g3, dqT he]
   with_reducible refine c_seq (c_seq (c_region ?_))
   refine sD F (o_move (F.e rfl) fun a F => sD F (o_move (F.e rfl) fun a F => sD F (o_lenSl (F.e rfl) fun a F => sD F (o_lssT (F.e rfl) (F.e rfl) (by omega) ?_))));iterate 4 clear F a
   intro a F
   with_reducible refine l_nil (q_then ?_)
   refine c_true F rfl rfl ?_
   with_reducible refine c_skip (q_then (c_seq (c_block (c_seq ?_))))
   replace F := F.only [3, 0] rfl
   refine c_draw 9 F (by kernel_rfl) ?_
   intro w1 hE hok
   have M1 := M.later hE
   refine mK hok rfl rfl (fun a' w' F' E' => o_move (F'.e rfl) ⟨Ext.refl _ _, rfl⟩) (mK hok rfl rfl (fun a' w' F' E' => o_move (F'.e rfl) ⟨Ext.refl _ _, rfl⟩) (mK hok rfl rfl (fun a' w' F' E' => o_indexSl (F'.e rfl) (F'.e rfl) (by omega) (by omega) ⟨Ext.refl _ _, rfl⟩) (mK hok rfl rfl (fun a' w' F' E' => o_loadA (M1.later E') (F'.e rfl) (by repeat constructor) (by first | assumption | rfl) ⟨Ext.refl _ _, rfl⟩) ?_)))
   refine mK hok rfl rfl (fun a' w' F' E' => o_move (F'.e rfl) ⟨Ext.refl _ _, rfl⟩) (mK hok rfl rfl (fun a' w' F' E' => o_move (F'.e rfl) ⟨Ext.refl _ _, rfl⟩) (mK hok rfl rfl (fun a' w' F' E' => o_sub (F'.e rfl) (F'.e rfl) (w_i64 (by omega) (by omega)) ⟨Ext.refl _ _, rfl⟩) (mK hok rfl rfl (fun a' w' F' E' => o_indexSl (F'.e rfl) (F'.e rfl) (by omega) (by omega) ⟨Ext.refl _ _, rfl⟩) (mK hok rfl rfl (fun a' w' F' E' => o_loadA (M1.later E') (F'.e rfl) (by repeat constructor) (by first | assumption | rfl) ⟨Ext.refl _ _, rfl⟩) ?_))))
   (refine mDone rfl rfl ?_;clear F M;intro a w F hE2 hX hTT hDD hPP;have M := M1.later hE2;clear M1;clear hX;clear hE2;clear hok;clear hE;clear hTT;clear hDD;clear hPP;(try dsimp only at F))
   refine sD F (o_eqlAT (F.e rfl) (F.e rfl) (by first | assumption | rfl) (by first | assumption | rfl) ‹_› ?_);clear F a;intro a F
   with_reducible refine l_nil (q_then ?_)
   refine c_true F rfl rfl (c_seq (c_region ?_))
   refine sD F (o_move (F.e rfl) fun a F => sD F (o_move (F.e rfl) ?_));iterate 2 clear F a
   intro a F
   (refine sD F (o_slL (F.e rfl) (F.e rfl) (by omega) (by omega) (by omega) ?_);clear F a;intro a F)
   simp only [Int.toNat_natCast] at F
   refine sD F (o_assign (F.e rfl) ?_);clear F a;intro a F
   with_reducible refine l_nil (q_then (c_seq (c_seq (c_region ?_))))
   refine sD F (o_assign (F.e rfl) ?_);clear F a;intro a F
   with_reducible refine l_nil (q_then (c_block ?_))
   clear f1 f2 g1 g2 g3
   refine c_loop (fun m a w => ∃ (k i2 : Nat) (cur : List OrgV), m = ls.length - i - k ∧ 1 ≤ k ∧ i + k ≤ ls.length ∧ cur.length = ls.length ∧ (∀ a ∈ cur, IsOg a) ∧ i2 ≤ i + k - 1 ∧ cur.take i2 = dedA (ls.take (i + k)) ∧ (∀ p, i + k - 1 ≤ p → cur[p]? = ls[p]?) ∧ Frm a 61 [] [(5, .int .i64 (k : Int)), (4, .slice (some ⟨b, 0 + i * 34, none⟩) (ls.length - i) (cap - i)), (3, .int .i64 (i2 : Int)), (0, .slice (some ⟨b, 0, none⟩) ls.length cap)] ∧ Mem S W0 w ((b, .cells (ogsC cur ++ junk).toArray 85 (0, 0)) :: lr)) (ls.length - i - 1) ⟨1, i, ls, rfl, by omega, by omega, rfl, hI, by omega, by rw [hst, hd], fun p _ => rfl, F.only [5, 4, 3, 0] rfl, M⟩ ?_
   clear F M hst
   rintro m2 a w ⟨k, i2, cur, hm2, hk1, hk, hcl, hcI, hi2, hct, hcp, F, M⟩
   have hcs : ∀ x ∈ cur, (ogC x).length = 34 := fun x hx => og_len (hcI x hx)
   by_cases hlt2 : i + k < ls.length
   ·have e1 : cur[i + k] = ls[i + k] := by
     have := hcp (i + k) (by omega)
     rwa [List.getElem?_eq_getElem (by omega), List.getElem?_eq_getElem hlt2, Option.some.injEq] at this
    have e2 : cur[i + k - 1] = ls[i + k - 1] := by
     have := hcp (i + k - 1) (by omega)
     rwa [List.getElem?_eq_getElem (by omega), List.getElem?_eq_getElem (by omega), Option.some.injEq] at this
    have hx1 := hI _ (List.getElem_mem hlt2)
    have hx2 := hI _ (List.getElem_mem (show i + k - 1 < ls.length by omega))
    have f1 : seg (ogsC cur ++ junk) (0 + i * 34 + (k : Int).toNat * 34) 34 = some (ogC ls[i + k]) := by rw [← e1];exact own_el hcs junk (by omega) (by omega)
    have f2 : seg (ogsC cur ++ junk) (0 + i * 34 + ((k : Int) - 1).toNat * 34) 34 = some (ogC ls[i + k - 1]) := by rw [← e2];exact own_el hcs junk (by omega) (by omega)
    have g1 := og_fits hx1
    have g2 := og_fits hx2
    have g3 : eqVs (ogC ls[i + k]) (ogC ls[i + k - 1]) = decide (ls[i + k] = ls[i + k - 1]) := og_eq hx1 hx2
    have hst := dedA_step (ls := ls) (j := i + k) (by omega) hlt2
    clear e2
    by_cases he2 : ls[i + k] = ls[i + k - 1]
    ·rw [if_pos he2] at hst
     replace g3 : eqVs (ogC ls[i + k]) (ogC ls[i + k - 1]) = true := by rw [g3, dqT he2]
     with_reducible refine c_seq (c_seq (c_region ?_))
     refine sD F (o_move (F.e rfl) fun a F => sD F (o_move (F.e rfl) fun a F => sD F (o_lenSl (F.e rfl) fun a F => sD F (o_lssT (F.e rfl) (F.e rfl) (by omega) ?_))));iterate 4 clear F a
     intro a F
     with_reducible refine l_nil (q_then ?_)
     refine c_true F rfl rfl ?_
     with_reducible refine c_skip (q_then (c_seq (c_block (c_seq ?_))))
     replace F := F.only [5, 4, 3, 0] rfl
     refine c_draw 9 F (by kernel_rfl) ?_
     intro w1 hE hok
     have M1 := M.later hE
     refine mK hok rfl rfl (fun a' w' F' E' => o_move (F'.e rfl) ⟨Ext.refl _ _, rfl⟩) (mK hok rfl rfl (fun a' w' F' E' => o_move (F'.e rfl) ⟨Ext.refl _ _, rfl⟩) (mK hok rfl rfl (fun a' w' F' E' => o_indexSl (F'.e rfl) (F'.e rfl) (by omega) (by omega) ⟨Ext.refl _ _, rfl⟩) (mK hok rfl rfl (fun a' w' F' E' => o_loadA (M1.later E') (F'.e rfl) (by repeat constructor) (by first | assumption | rfl) ⟨Ext.refl _ _, rfl⟩) ?_)))
     refine mK hok rfl rfl (fun a' w' F' E' => o_move (F'.e rfl) ⟨Ext.refl _ _, rfl⟩) (mK hok rfl rfl (fun a' w' F' E' => o_move (F'.e rfl) ⟨Ext.refl _ _, rfl⟩) (mK hok rfl rfl (fun a' w' F' E' => o_sub (F'.e rfl) (F'.e rfl) (w_i64 (by omega) (by omega)) ⟨Ext.refl _ _, rfl⟩) (mK hok rfl rfl (fun a' w' F' E' => o_indexSl (F'.e rfl) (F'.e rfl) (by omega) (by omega) ⟨Ext.refl _ _, rfl⟩) (mK hok rfl rfl (fun a' w' F' E' => o_loadA (M1.later E') (F'.e rfl) (by repeat constructor) (by first | assumption | rfl) ⟨Ext.refl _ _, rfl⟩) ?_))))
     (refine mDone rfl rfl ?_;clear F M;intro a w F hE2 hX hTT hDD hPP;have M := M1.later hE2;clear M1;clear hX;clear hE2;clear hok;clear hE;clear hTT;clear hDD;clear hPP;(try dsimp only at F))
     refine sD F (o_neqAF (F.e rfl) (F.e rfl) (by first | assumption | rfl) (by first | assumption | rfl) ‹_› ?_);clear F a;intro a F
     with_reducible refine l_nil (q_then ?_)
     refine c_false F rfl rfl ?_
     with_reducible refine c_skip (q_inB (q_then (c_region ?_)))
     refine sD F (o_move (F.e rfl) fun a F => sD F (o_add (F.e rfl) (F.e rfl) (w_i64 (by omega) (by omega)) fun a F => sD F (o_assign (F.e rfl) ?_)));iterate 3 clear F a
     intro a F
     with_reducible refine l_nil (q_then ?_)
     exact ⟨_, by omega, k + 1, i2, cur, rfl, by omega, by omega, hcl, hcI, by omega, by rw [hct, ← Nat.add_assoc, hst], fun p hp => hcp p (by omega), F.only [5, 4, 3, 0] rfl, M⟩
    ·rw [if_neg he2] at hst
     replace g3 : eqVs (ogC ls[i + k]) (ogC ls[i + k - 1]) = false := by rw [g3, dqF he2]
     have l1 : (ogC ls[i + k]).length = 34 := og_len hx1
     have hpt : put (ogsC cur ++ junk) (0 + (i2 : Int).toNat * 34) (ogC ls[i + k]) = some (ogsC (cur.set i2 ls[i + k]) ++ junk) :=
      encL_put hcs junk (show i2 < cur.length by omega) (off := 0) (put_all (by rw [l1, hcs _ (List.getElem_mem _)])) (by omega)
     with_reducible refine c_seq (c_seq (c_region ?_))
     refine sD F (o_move (F.e rfl) fun a F => sD F (o_move (F.e rfl) fun a F => sD F (o_lenSl (F.e rfl) fun a F => sD F (o_lssT (F.e rfl) (F.e rfl) (by omega) ?_))));iterate 4 clear F a
     intro a F
     with_reducible refine l_nil (q_then ?_)
     refine c_true F rfl rfl ?_
     with_reducible refine c_skip (q_then (c_seq (c_block (c_seq ?_))))
     replace F := F.only [5, 4, 3, 0] rfl
     refine c_draw 9 F (by kernel_rfl) ?_
     intro w1 hE hok
     have M1 := M.later hE
     refine mK hok rfl rfl (fun a' w' F' E' => o_move (F'.e rfl) ⟨Ext.refl _ _, rfl⟩) (mK hok rfl rfl (fun a' w' F' E' => o_move (F'.e rfl) ⟨Ext.refl _ _, rfl⟩) (mK hok rfl rfl (fun a' w' F' E' => o_indexSl (F'.e rfl) (F'.e rfl) (by omega) (by omega) ⟨Ext.refl _ _, rfl⟩) (mK hok rfl rfl (fun a' w' F' E' => o_loadA (M1.later E') (F'.e rfl) (by repeat constructor) (by first | assumption | rfl) ⟨Ext.refl _ _, rfl⟩) ?_)))
     refine mK hok rfl rfl (fun a' w' F' E' => o_move (F'.e rfl) ⟨Ext.refl _ _, rfl⟩) (mK hok rfl rfl (fun a' w' F' E' => o_move (F'.e rfl) ⟨Ext.refl _ _, rfl⟩) (mK hok rfl rfl (fun a' w' F' E' => o_sub (F'.e rfl) (F'.e rfl) (w_i64 (by omega) (by omega)) ⟨Ext.refl _ _, rfl⟩) (mK hok rfl rfl (fun a' w' F' E' => o_indexSl (F'.e rfl) (F'.e rfl) (by omega) (by omega) ⟨Ext.refl _ _, rfl⟩) (mK hok rfl rfl (fun a' w' F' E' => o_loadA (M1.later E') (F'.e rfl) (by repeat constructor) (by first | assumption | rfl) ⟨Ext.refl _ _, rfl⟩) ?_))))
     (refine mDone rfl rfl ?_;clear F M;intro a w F hE2 hX hTT hDD hPP;have M := M1.later hE2;clear M1;clear hX;clear hE2;clear hok;clear hE;clear hTT;clear hDD;clear hPP;(try dsimp only at F))
     refine sD F (o_neqAT (F.e rfl) (F.e rfl) (by first | assumption | rfl) (by first | assumption | rfl) ‹_› ?_);clear F a;intro a F
     with_reducible refine l_nil (q_then ?_)
     refine c_true F rfl rfl (c_seq (c_region ?_))
     refine sD F (o_move (F.e rfl) fun a F => sD F (o_move (F.e rfl) fun a F => sD F (o_move (F.e rfl) fun a F => sD F (o_move (F.e rfl) fun a F => sD F (o_indexSl (F.e rfl) (F.e rfl) (by omega) (by omega) fun a F => sD F (o_loadA M (F.e rfl) (by repeat constructor) (by first | assumption | rfl) ?_))))));iterate 6 clear F a
     intro a F
     refine sD F (o_indexSl (F.e rfl) (F.e rfl) (by omega) (by omega) ?_);clear F a;intro a F
     (refine stepN rfl F (o_storeA M (F.e rfl) (F.e rfl) l1 (og_one _)  (by repeat constructor)  hpt (by repeat constructor) ?_);clear F M;intro w M a F)
     with_reducible refine l_nil (q_then (c_region ?_))
     refine sD F (o_move (F.e rfl) fun a F => sD F (o_add (F.e rfl) (F.e rfl) (w_i64 (by omega) (by omega)) fun a F => sD F (o_assign (F.e rfl) ?_)));iterate 3 clear F a
     intro a F
     with_reducible refine l_nil (q_inB (q_then (c_region ?_)))
     refine sD F (o_move (F.e rfl) fun a F => sD F (o_add (F.e rfl) (F.e rfl) (w_i64 (by omega) (by omega)) fun a F => sD F (o_assign (F.e rfl) ?_)));iterate 3 clear F a
     intro a F
     with_reducible refine l_nil (q_then ?_)
     exact ⟨_, by omega, k + 1, i2 + 1, _, rfl, by omega, by omega, by rw [List.length_set];exact hcl, fun a ha => by
      rcases List.mem_or_eq_of_mem_set ha with h | h
      ·exact hcI a h
      ·rw [h];exact hx1, by omega, by rw [take_set_succ (by omega), hct, ← Nat.add_assoc, hst], fun p hp => by rw [List.getElem?_set_ne (by omega)];exact hcp p (by omega), F.only [5, 4, 3, 0] rfl, M⟩
   ·have hkl : i + k = ls.length := by omega
    rw [hkl, List.take_length] at hct
    with_reducible refine c_seq (c_seq (c_region ?_))
    refine sD F (o_move (F.e rfl) fun a F => sD F (o_move (F.e rfl) fun a F => sD F (o_lenSl (F.e rfl) fun a F => sD F (o_lssF (F.e rfl) (F.e rfl) (by omega) ?_))));iterate 4 clear F a
    intro a F
    with_reducible refine l_nil (q_then ?_)
    refine c_false F rfl rfl ?_
    with_reducible refine c_exit (q_thenX (q_thenX (q_inBX (q_then (c_seq (c_region ?_))))))
    refine sD F (o_move (F.e rfl) fun a F => sD F (o_move (F.e rfl) ?_));iterate 2 clear F a
    intro a F
    (refine sD F (o_slL (F.e rfl) (F.e rfl) (by omega) (by omega) (by omega) ?_);clear F a;intro a F)
    simp only [Int.toNat_natCast] at F
    have hcl2 : (ogsC cur ++ junk).length = cap * 34 := by rw [List.length_append, encL_len hcs, hjl, hcl, ← Nat.add_mul];congr 1;omega
    (refine stepN rfl F (o_clear (sz := 34) M (F.e rfl) (by omega) rfl rfl .here (by rw [hcl2];omega) (fun vs => .here) ?_);clear F M;intro vs w hvs M a F)
    with_reducible refine l_nil (q_then (c_seq (c_region ?_)))
    refine sD F (o_move (F.e rfl) fun a F => sD F (o_move (F.e rfl) ?_));iterate 2 clear F a
    intro a F
    (refine sD F (o_slH (F.e rfl) (F.e rfl) (by simp) (by omega) (by omega) ?_);clear F a;intro a F)
    simp only [Int.toNat_natCast] at F
    refine sD F (o_assign (F.e rfl) ?_);clear F a;intro a F
    with_reducible refine l_nil (q_then (c_ret (q_inBR (q_thenR (q_thenR (q_inBR (q_thenR ?_)))))))
    refine p_ret F rfl (.cons (.tmp (F.e rfl)) .nil) ?_
    have hil : (dedA ls).length = i2 := by rw [← hct, List.length_take];omega
    refine ⟨dedA ls, [(b, .cells (ogsC (dedA ls) ++ (vs ++ (ogsC cur ++ junk).drop (0 + i2 * 34 + vs.length))).toArray 85 (0, 0))], rfl, .inr ⟨b, cap, _, by rw [hil];rfl, rfl, by rw [encL_len (fun x hx => hcs x (List.mem_of_mem_take (by rw [hct];exact hx)))], by rw [List.length_append, List.length_drop, hcl2, hvs, hil];omega, by omega⟩, ?_⟩
    rw [hf]
    refine Mem.perm ?_ (List.perm_append_comm (l₁ := [_]) (l₂ := lr))
    have hsp : splice (ogsC cur ++ junk) (0 + i2 * 34) vs = ogsC (dedA ls) ++ (vs ++ (ogsC cur ++ junk).drop (0 + i2 * 34 + vs.length)) := by
     unfold splice
     rw [List.take_append_of_le_length (by rw [encL_len hcs];omega), Nat.zero_add, encL_take hcs, hct]
    rw [← hsp]
    exact M
  ·rw [if_neg he] at hst
   replace g3 : eqVs (ogC ls[i]) (ogC ls[i - 1]) = false := by rw [g3, dqF he]
   with_reducible refine c_seq (c_seq (c_region ?_))
   refine sD F (o_move (F.e rfl) fun a F => sD F (o_move (F.e rfl) fun a F => sD F (o_lenSl (F.e rfl) fun a F => sD F (o_lssT (F.e rfl) (F.e rfl) (by omega) ?_))));iterate 4 clear F a
   intro a F
   with_reducible refine l_nil (q_then ?_)
   refine c_true F rfl rfl ?_
   with_reducible refine c_skip (q_then (c_seq (c_block (c_seq ?_))))
   replace F := F.only [3, 0] rfl
   refine c_draw 9 F (by kernel_rfl) ?_
   intro w1 hE hok
   have M1 := M.later hE
   refine mK hok rfl rfl (fun a' w' F' E' => o_move (F'.e rfl) ⟨Ext.refl _ _, rfl⟩) (mK hok rfl rfl (fun a' w' F' E' => o_move (F'.e rfl) ⟨Ext.refl _ _, rfl⟩) (mK hok rfl rfl (fun a' w' F' E' => o_indexSl (F'.e rfl) (F'.e rfl) (by omega) (by omega) ⟨Ext.refl _ _, rfl⟩) (mK hok rfl rfl (fun a' w' F' E' => o_loadA (M1.later E') (F'.e rfl) (by repeat constructor) (by first | assumption | rfl) ⟨Ext.refl _ _, rfl⟩) ?_)))
   refine mK hok rfl rfl (fun a' w' F' E' => o_move (F'.e rfl) ⟨Ext.refl _ _, rfl⟩) (mK hok rfl rfl (fun a' w' F' E' => o_move (F'.e rfl) ⟨Ext.refl _ _, rfl⟩) (mK hok rfl rfl (fun a' w' F' E' => o_sub (F'.e rfl) (F'.e rfl) (w_i64 (by omega) (by omega)) ⟨Ext.refl _ _, rfl⟩) (mK hok rfl rfl (fun a' w' F' E' => o_indexSl (F'.e rfl) (F'.e rfl) (by omega) (by omega) ⟨Ext.refl _ _, rfl⟩) (mK hok rfl rfl (fun a' w' F' E' => o_loadA (M1.later E') (F'.e rfl) (by repeat constructor) (by first | assumption | rfl) ⟨Ext.refl _ _, rfl⟩) ?_))))
   (refine mDone rfl rfl ?_;clear F M;intro a w F hE2 hX hTT hDD hPP;have M := M1.later hE2;clear M1;clear hX;clear hE2;clear hok;clear hE;clear hTT;clear hDD;clear hPP;(try dsimp only at F))
   refine sD F (o_eqlAF (F.e rfl) (F.e rfl) (by first | assumption | rfl) (by first | assumption | rfl) ‹_› ?_);clear F a;intro a F
   with_reducible refine l_nil (q_then ?_)
   refine c_false F rfl rfl ?_
   with_reducible refine c_skip (q_inB (q_then (c_region ?_)))
   refine sD F (o_move (F.e rfl) fun a F => sD F (o_add (F.e rfl) (F.e rfl) (w_i64 (by omega) (by omega)) fun a F => sD F (o_assign (F.e rfl) ?_)));iterate 3 clear F a
   intro a F
   with_reducible refine l_nil (q_then ?_)
   exact ⟨_, by omega, i + 1, rfl, by omega, by omega, by rw [hst, hd, List.take_add_one, List.getElem?_eq_getElem hlt];rfl, F.only [3, 0] rfl, M⟩
 ·obtain rfl : i = ls.length := by omega
  rw [List.take_length] at hd
  with_reducible refine c_seq (c_seq (c_region ?_))
  refine sD F (o_move (F.e rfl) fun a F => sD F (o_move (F.e rfl) fun a F => sD F (o_lenSl (F.e rfl) fun a F => sD F (o_lssF (F.e rfl) (F.e rfl) (by omega) ?_))));iterate 4 clear F a
  intro a F
  with_reducible refine l_nil (q_then ?_)
  refine c_false F rfl rfl ?_
  with_reducible refine c_exit (q_thenX (q_thenX (q_inBX (q_then (c_seq (c_region ?_))))))
  refine sD F (o_move (F.e rfl) fun a F => sD F (o_assign (F.e rfl) ?_));iterate 2 clear F a
  intro a F
  with_reducible refine l_nil (q_then (c_ret ?_))
  refine p_ret F rfl (.cons (.tmp (F.e rfl)) .nil) (⟨ls, _, hd.symm, .inr ⟨b, cap, junk, rfl, rfl, hxl, hjl, hnc⟩, ?_⟩)
  rw [hf]
  exact M.perm (List.perm_append_comm (l₁ := [_]) (l₂ := lr))
theorem sortO_c (self : Int) (ls : List OrgV) (hx : ∀ x ∈ ls, IsOg x) (hlen : ls.length ≤ 100000)
  {S : List Nat} {W0 w : World} {l : List (Nat × Obj)} {f : List (Nat × Obj) → List (Nat × Obj)} {v : Value} {c3 : Nat} {ent : List (Nat × Obj)} (M : Mem S W0 w l) (hO : OwnS 85 34 v ls.length (ogsC ls) ent) (hl : TailAt ent l f) (h3 : w.heap[c3]? = some (.cells [.int .u64 self].toArray 41 (0, 0))) (h3n : ∀ p ∈ ent, p.1 ≠ c3) :
  Cal Tryz.prog 85 [v, .func (.func 86) #[] #[.pointer (some ⟨c3, 0, none⟩)]].toArray w fun _ w' => ∃ ls' ent', ls'.Perm ls ∧ ls'.Pairwise (fun a b => ¬ cmpOg self b a < 0) ∧ OwnS 85 34 v ls'.length (ogsC ls') ent' ∧ Mem S W0 w' (f ent') := by
 let enc : AOrg → List Value := fun d => ogC d.1
 obtain ⟨az, haz⟩ : ∃ az : List AOrg, az.map (·.1) = ls := ⟨ls.pmap (fun a h => (⟨a, h⟩ : AOrg)) hx, by rw [List.map_pmap];simp⟩
 have henc : ∀ bz : List AOrg, encL enc bz = ogsC (bz.map (·.1)) := by
  intro bz
  induction bz with
  | nil => rfl
  | cons x xs ih => rw [encL_cons, ih];rfl
 have hlz : az.length = ls.length := by rw [← haz, List.length_map]
 rw [← hlz] at hO
 rw [← haz, ← henc] at hO
 have h := sort_ownC (P := Tryz.prog) (ρ := sortOs_ren) (enc := enc) (k := 34) (e := 85) sortOs (fun x => og_len x.2) (by omega) (fun x => og_one _) (by kernel_rfl) (cfO self) (swoO self) (totO self) (g := 86) (TBody.h (P := Tryz.prog)) (fun W x y h => st1_c self x.1 y.1 x.2 y.2 W h) az M hO hl h3 h3n (by omega)
 refine Cal.mono h ?_
 rintro _ w' ⟨ent', hO', M'⟩
 have hp := List.mergeSort_perm az fun x y => !(ltOf (cfO self)) y x
 have hs : (az.mergeSort fun x y => !(ltOf (cfO self)) y x).Pairwise fun x y => (!(ltOf (cfO self)) y x) = true := by
  refine List.pairwise_mergeSort ?_ ?_ _
  ·intro a b c h1 h2
   simp only [Bool.not_eq_true'] at h1 h2 ⊢
   exact (swoO self).ntrans c b a h2 h1
  ·intro a b
   cases h : ltOf (cfO self) b a with
   | false => simp
   | true => simp [(swoO self).asymmA h]
 generalize az.mergeSort (fun x y => !(ltOf (cfO self)) y x) = ds at *
 refine ⟨ds.map (·.1), ent', by rw [← haz];exact hp.map _, ?_, ?_, M'⟩
 ·rw [List.pairwise_map]
  refine hs.imp ?_
  intro a b h3
  simp only [Bool.not_eq_true'] at h3
  rw [ltO_f] at h3
  exact h3
 ·rw [← henc, List.length_map, hp.length_eq]
  exact hO'
end Go.Proofs.YtfhkmgcalcfibaaGreat
namespace Go.Proofs.YtfhkmgcalcfibaaGreat
open Go.RowKit
attribute [local irreducible] OpTo wpListIn Code.wpIn MW Cal
section
variable {α : Type} {c : α → Int} {x y : α} {o l R : List α} {i : Nat} {d : Bool}
theorem mg1 (h : o ++ mergeG c x d (l.drop i) = R) (hi : i < l.length) (hy : l[i] = y) (hd : d = false) (h0 : 0 ≤ c y) (h1 : ¬ c y = 0) : ((o ++ [x]) ++ [y]) ++ mergeG c x true (l.drop (i + 1)) = R := by
 rw [← h, ← List.getElem_cons_drop hi, hy, mergeG_cons, hd, dqT h0, if_neg h1]
 simp
theorem mg2 (h : o ++ mergeG c x d (l.drop i) = R) (hi : i < l.length) (hy : l[i] = y) (hd : d = false) (h1 : c y = 0) : (o ++ [x]) ++ mergeG c x true (l.drop (i + 1)) = R := by
 rw [← h, ← List.getElem_cons_drop hi, hy, mergeG_cons, hd, dqT (show 0 ≤ c y by omega), if_pos h1]
 simp
theorem mg3 (h : o ++ mergeG c x d (l.drop i) = R) (hi : i < l.length) (hy : l[i] = y) (hd : d = true ∨ c y < 0) (h1 : ¬ c y = 0) : (o ++ [y]) ++ mergeG c x d (l.drop (i + 1)) = R := by
 rw [← h, ← List.getElem_cons_drop hi, hy, mergeG_cons, if_neg h1]
 rcases hd with rfl | hd
 ·simp
 ·rw [dqF (show ¬ 0 ≤ c y by omega)]
  simp
theorem mg4 (h : o ++ mergeG c x d (l.drop i) = R) (hi : i < l.length) (hy : l[i] = y) (hd : d = true) (h1 : c y = 0) : o ++ mergeG c x d (l.drop (i + 1)) = R := by
 rw [← h, ← List.getElem_cons_drop hi, hy, mergeG_cons, hd, if_pos h1]
 simp
theorem mgE0 (h : o ++ mergeG c x d (l.drop i) = R) (hi : i = l.length) (hd : d = false) : o ++ [x] = R := by
 rw [← h, hi, List.drop_length, mergeG_nil, hd]
 rfl
theorem mgE1 (h : o ++ mergeG c x d (l.drop i) = R) (hi : i = l.length) (hd : d = true) : o = R := by
 rw [← h, hi, List.drop_length, mergeG_nil, hd]
 simp
theorem mg_len {n : Nat} (h : o ++ mergeG c x d (l.drop i) = mergeG c x false l) (hn : l.length < n) : o.length ≤ n := by
 have h1 := congrArg List.length h
 have h2 := mergeG_len c x (done := false) (l := l)
 rw [List.length_append] at h1
 simp at h2
 omega
end
abbrev AscO (self : Int) (l : List OrgV) : Prop := AscC (cmpOg self) l
structure OgIs (sf : Int) (m s : List OrgV) : Prop where
 asc : AscO sf s
 mem : ∀ y, y ∈ s ↔ y ∈ m
 len : s.length ≤ m.length
theorem OgIs.nil {self : Int} {l : List OrgV} : OgIs self (l.take 0) [] := ⟨List.Pairwise.nil, fun y => by simp, by simp⟩
theorem OgIs.og {self : Int} {l s : List OrgV} {i : Nat} (h : OgIs self (l.take i) s) (hx : ∀ x ∈ l, IsOg x) : ∀ y ∈ s, IsOg y := fun y hy => hx y (List.mem_of_mem_take ((h.mem y).1 hy))
def orgO (d : DstV) : OrgV := ⟨d.dip, d.dbits, d.sip, d.sbits⟩
def ogU (self : Int) (l : List OrgV) : List OrgV := ((l.map (orgD self)).foldr insD []).map orgO
theorem ogU_of {self : Int} {l s : List OrgV} (hx : ∀ x ∈ l, IsOg x) (h1 : AscD (s.map (orgD self))) (h2 : ∀ y, y ∈ s ↔ y ∈ l) : s = ogU self l := by
 have hd : ∀ x ∈ l.map (orgD self), IsDv x := fun x h => by
  obtain ⟨y, hy, rfl⟩ := List.mem_map.1 h
  exact hx y hy
 obtain ⟨g1, g2⟩ := foldr_insD hd
 have e := ascK_unique (fun d : DstV => d) _ _ h1 g1 fun x => by
  show x ∈ s.map (orgD self) ↔ _
  rw [g2, List.mem_map, List.mem_map]
  exact exists_congr fun y => by rw [h2]
 unfold ogU
 rw [← e, List.map_map]
 exact (List.map_id s).symm.trans (List.map_congr_left fun a _ => rfl)
theorem ascO_D {self : Int} {s : List OrgV} : AscD (s.map (orgD self)) ↔ AscO self s := by
 unfold AscD AscO AscC
 rw [List.pairwise_map]
 rfl
theorem OgIs.is {self : Int} {l s : List OrgV} (h : OgIs self l s) (hx : ∀ x ∈ l, IsOg x) : s = ogU self l := ogU_of hx (ascO_D.2 h.asc) h.mem
theorem ogU_is {self : Int} {l : List OrgV} (hx : ∀ x ∈ l, IsOg x) : AscO self (ogU self l) ∧ ∀ y, y ∈ ogU self l ↔ y ∈ l := by
 have hd : ∀ x ∈ l.map (orgD self), IsDv x := fun x h => by
  obtain ⟨y, hy, rfl⟩ := List.mem_map.1 h
  exact hx y hy
 obtain ⟨g1, g2⟩ := foldr_insD hd
 have hm : (ogU self l).map (orgD self) = (l.map (orgD self)).foldr insD [] := by
  unfold ogU
  rw [List.map_map]
  refine (List.map_congr_left (g := id) fun a ha => ?_).trans (List.map_id _)
  obtain ⟨y, hy, rfl⟩ := List.mem_map.1 ((g2 a).1 ha)
  rfl
 refine ⟨ascO_D.1 (by rw [hm];exact g1), fun y => ?_⟩
 have h : orgD self y ∈ (ogU self l).map (orgD self) ↔ orgD self y ∈ l.map (orgD self) := by rw [hm, g2]
 simp only [List.mem_map] at h
 constructor
 ·intro hy
  obtain ⟨z, hz, e⟩ := h.1 ⟨y, hy, rfl⟩
  rw [← orgD_inj e];exact hz
 ·intro hy
  obtain ⟨z, hz, e⟩ := h.2 ⟨y, hy, rfl⟩
  rw [← orgD_inj e];exact hz
theorem mgO {self : Int} {l out : List OrgV} {i : Nat} {x : OrgV} (hi : i < l.length) (hx0 : x = l[i]) (hx : ∀ x ∈ l, IsOg x) (h : OgIs self (l.take i) out) : OgIs self (l.take (i + 1)) (mergeG (fun y => cmpOg self y x) x false out) := by
 have hox := h.og hx
 have xI : IsOg x := by rw [hx0];exact hx _ (List.getElem_mem _)
 have hln := mergeG_len (fun y => cmpOg self y x) x (done := false) (l := out)
 have hl := h.len
 have e : mergeG (fun y => cmpOg self y x) x false out = out.filter (fun y => decide (cmpOg self y x < 0)) ++ ([x] ++ out.filter (fun y => decide (0 < cmpOg self y x))) := by
  rw [mergeG_is]
  ·rfl
  ·refine List.Pairwise.imp_of_mem (fun {a b} ha hb hab h0 => ?_) h.asc
   have h1 := cmpD_anti (orgD self a) (orgD self b)
   have h2 := cmpD_anti (orgD self b) (orgD self x)
   have h3 : cmpD (orgD self a) (orgD self b) < 0 := hab
   have h4 : 0 ≤ cmpD (orgD self a) (orgD self x) := h0
   show 0 < cmpD (orgD self b) (orgD self x)
   rcases Int.lt_or_le 0 (cmpD (orgD self b) (orgD self x)) with h5 | h5
   ·exact h5
   ·exfalso
    rcases Int.lt_or_eq_of_le h5 with h6 | h6
    ·have := cmpD_trans h3 h6
     omega
    ·have h7 := cmpD_zero (show IsDv (orgD self b) from hox b hb) (show IsDv (orgD self x) from xI) h6
     rw [← h7] at h4
     omega
 rw [List.take_succ_eq_append_getElem hi, ← hx0]
 refine ⟨?_, fun y => ?_, by simp at hln ⊢;rw [List.length_take] at hl;omega⟩
 ·rw [e]
  refine List.pairwise_append.2 ⟨h.asc.filter _, List.pairwise_append.2 ⟨List.pairwise_singleton _ _, h.asc.filter _, fun a ha b hb => ?_⟩, fun a ha b hb => ?_⟩
  ·simp only [List.mem_singleton, List.mem_filter, decide_eq_true_eq] at ha hb
   subst ha
   have := cmpD_anti (orgD self b) (orgD self a)
   have h2 : 0 < cmpD (orgD self b) (orgD self a) := hb.2
   show cmpD (orgD self a) (orgD self b) < 0
   omega
  ·simp only [List.mem_append, List.mem_singleton, List.mem_filter, decide_eq_true_eq] at ha hb
   rcases hb with rfl | ⟨_, hb⟩
   ·exact ha.2
   ·have := cmpD_anti (orgD self b) (orgD self x)
    have h2 : 0 < cmpD (orgD self b) (orgD self x) := hb
    exact cmpD_trans ha.2 (by omega)
 ·rw [e, List.mem_append, List.mem_append, List.mem_append, List.mem_filter, List.mem_filter, ← h.mem, List.mem_singleton]
  simp only [decide_eq_true_eq]
  constructor
  ·rintro (h1 | h1 | h1)
   ·exact .inl h1.1
   ·exact .inr h1
   ·exact .inl h1.1
  ·rintro (h1 | h1)
   ·rcases Int.lt_trichotomy (cmpOg self y x) 0 with h2 | h2 | h2
    ·exact .inl ⟨h1, h2⟩
    ·exact .inr (.inl (orgD_inj (cmpD_zero (show IsDv (orgD self y) from hox y h1) (show IsDv (orgD self x) from xI) h2)))
    ·exact .inr (.inr ⟨h1, h2⟩)
   ·exact .inr (.inl h1)
theorem mgO0 {self : Int} {l out o2 : List OrgV} {i c : Nat} {d : Bool} {x : OrgV} (hi : i < l.length) (hx0 : x = l[i]) (hx : ∀ x ∈ l, IsOg x) (h : OgIs self (l.take i) out) (hc : c = out.length) (hm : o2 ++ mergeG (fun y => cmpOg self y x) x d (out.drop c) = mergeG (fun y => cmpOg self y x) x false out) (hd : d = false) : OgIs self (l.take (i + 1)) (o2 ++ [x]) := by
 rw [mgE0 hm hc hd]
 exact mgO hi hx0 hx h
theorem mgO1 {self : Int} {l out o2 : List OrgV} {i c : Nat} {d : Bool} {x : OrgV} (hi : i < l.length) (hx0 : x = l[i]) (hx : ∀ x ∈ l, IsOg x) (h : OgIs self (l.take i) out) (hc : c = out.length) (hm : o2 ++ mergeG (fun y => cmpOg self y x) x d (out.drop c) = mergeG (fun y => cmpOg self y x) x false out) (hd : d = true) : OgIs self (l.take (i + 1)) o2 := by
 rw [mgE1 hm hc hd]
 exact mgO hi hx0 hx h
theorem dedO {self : Int} {l s : List OrgV} (hx : ∀ x ∈ l, IsOg x) (hp : s.Perm l) (hs : s.Pairwise fun a b => ¬ cmpOg self b a < 0) : dedA s = ogU self l := by
 have hm : ∀ (xs acc : List OrgV), (xs.foldl dedS acc).map (orgD self) = (xs.map (orgD self)).foldl dedS (acc.map (orgD self)) := fun xs => by
  induction xs with
  | nil => intro acc;rfl
  | cons a xs ih =>
   intro acc
   rw [List.foldl_cons, ih, List.map_cons, List.foldl_cons]
   congr 1
   unfold dedS
   rw [List.getLast?_map]
   by_cases h : acc.getLast? = some a
   ·rw [if_pos h, h, if_pos (show Option.map (orgD self) (some a) = some (orgD self a) from rfl)]
   ·rw [if_neg h, if_neg, List.map_append]
    ·rfl
    ·intro e
     cases h2 : acc.getLast? with
     | none => rw [h2] at e;cases e
     | some z =>
      rw [h2] at e h
      simp only [Option.map_some, Option.some.injEq] at e
      exact h (by rw [orgD_inj e])
 have h1 := ded_fold (s.map (orgD self)) [] (by simp [AscD, AscC]) (by simp) (fun x h => by
  obtain ⟨y, hy, rfl⟩ := List.mem_map.1 h
  exact hx y (hp.mem_iff.1 hy)) (by rw [List.pairwise_map];exact hs) (by simp)
 rw [show ([] : List DstV) = ([] : List OrgV).map (orgD self) from rfl, ← hm] at h1
 refine ogU_of hx h1.1 fun y => ?_
 have h2 := h1.2 (orgD self y)
 simp only [List.map_nil, List.not_mem_nil, false_or, List.mem_map] at h2
 show y ∈ s.foldl dedS [] ↔ _
 rw [← hp.mem_iff]
 constructor
 ·intro hy
  obtain ⟨z, hz, e⟩ := h2.1 ⟨y, hy, rfl⟩
  rw [← orgD_inj e];exact hz
 ·intro hy
  obtain ⟨z, hz, e⟩ := h2.2 ⟨y, hy, rfl⟩
  rw [← orgD_inj e];exact hz
def stRt (self now : Int) (og : List OrgV) : RtV := ⟨self, 0, now, laterV now 16, 0, now, now, og, [], [], [], [], [], []⟩
def stR (self now : Int) (l : List OrgV) : RtV × Int :=
 if (decide (self = 0) || !(l.all (org1 self))) = true then (rt0, 1) else if isTime now = false then (rt0, 2) else if 8 < (ogU self l).length then (rt0, 3) else (stRt self now (ogU self l), 0)
section
variable {self now : Int} {l : List OrgV} {x : OrgV}
theorem stR_0 (h : self = 0) : stR self now l = (rt0, 1) := by
 unfold stR
 rw [dqT h, Bool.true_or, if_pos rfl]
theorem stR_F (hm : x ∈ l) (h : org1 self x = false) : stR self now l = (rt0, 1) := by
 unfold stR
 rw [if_pos]
 rw [show l.all (org1 self) = false by rw [List.all_eq_false];exact ⟨x, hm, by rw [h];simp⟩]
 simp
theorem stR_c (h : ¬ self = 0) (ha : l.all (org1 self) = true) : ¬ (decide (self = 0) || !(l.all (org1 self))) = true := by
 rw [ha, dqF h]
 simp
theorem stR_T (h : ¬ self = 0) (ha : l.all (org1 self) = true) (ht : isTime now = false) : stR self now l = (rt0, 2) := by
 unfold stR
 rw [if_neg (stR_c h ha), if_pos ht]
theorem stR_L (h : ¬ self = 0) (ha : l.all (org1 self) = true) (ht : isTime now = true) (hl : 8 < (ogU self l).length) : stR self now l = (rt0, 3) := by
 unfold stR
 rw [if_neg (stR_c h ha), if_neg (by rw [ht];simp), if_pos hl]
theorem stR_K (h : ¬ self = 0) (ha : l.all (org1 self) = true) (ht : isTime now = true) (hl : ¬ 8 < (ogU self l).length) : stR self now l = (stRt self now (ogU self l), 0) := by
 unfold stR
 rw [if_neg (stR_c h ha), if_neg (by rw [ht];simp), if_neg hl]
theorem hno_T {i : Nat} (hi : i < l.length) (hx : x = l[i]) (h : ∀ j (h : j < i) (h2 : j < l.length), org1 self l[j] = true) (hp : org1 self x = true) : ∀ j (h : j < i + 1) (h2 : j < l.length), org1 self l[j] = true := fun j h1 h2 => by
 rcases Nat.lt_or_ge j i with h3 | h3
 ·exact h j h3 h2
 ·obtain rfl : j = i := by omega
  rw [← hx];exact hp
theorem all_T {i : Nat} (hi : l.length ≤ i) (h : ∀ j (h : j < i) (h2 : j < l.length), org1 self l[j] = true) : l.all (org1 self) = true := by
 rw [List.all_eq_true]
 intro x hx
 obtain ⟨j, hj, rfl⟩ := List.getElem_of_mem hx
 exact h j (by omega) hj
end
def PhS (self now : Int) (l : List OrgV) (r : Value) (W w' : World) : Prop := ∃ (u : Value) (ent : List (Nat × Obj)), r = .tuple #[.agg (rtC (stR self now l).1 (rxU u)).toArray, .int .i64 (stR self now l).2] ∧ OwnS 85 34 u (stR self now l).1.og.length (ogsC (stR self now l).1.og) ent ∧ Mem [] W w' ent
theorem PhS.err {self now : Int} {l : List OrgV} {c : Int} {W w : World} (h : stR self now l = (rt0, c)) (E : Ext [] W w) : PhS self now l (.tuple #[.agg (rtC rt0 rx0).toArray, .int .i64 c]) W w := ⟨.slice none 0 0, [], by rw [h];rfl, by rw [h];exact OwnS.nil _ _, Mem.nil E⟩
theorem PhS.ok {self now : Int} {l : List OrgV} {u : Value} {es : List (Nat × Obj)} {W w : World} (h : ¬ self = 0) (ha : l.all (org1 self) = true) (ht : isTime now = true) (hl : ¬ 8 < (ogU self l).length) (hO : OwnS 85 34 u (ogU self l).length (ogsC (ogU self l)) es) (M : Mem [] W w es) : PhS self now l (.tuple #[.agg (rtC (stRt self now (ogU self l)) (rxU u)).toArray, .int .i64 0]) W w := ⟨u, es, by rw [stR_K h ha ht hl], by rw [stR_K h ha ht hl];exact hO, M⟩
theorem refStartT_c (self now : Int) (l : List OrgV) (hx : ∀ x ∈ l, IsOg x) (hl : l.length ≤ 100) (v : Value) (W : World) (hS : SlAt W 34 v l.length (ogsC l)) : Cal Tryz.prog 32 [.int .u64 self, .int .i64 now, v].toArray W fun r w' => PhS self now l r W w' := by
 obtain ⟨q, cap, rfl, _⟩ := id hS
 have hm := hS.memB [] (by simp)
 refine g_start (n := 95) (S := []) fldT_ok slcT_ok Tryz.func32 rfl rfl rfl ?_
 by_cases hs0 : self = 0
 ·refine gR 2 rfl ?_
  refine g_alloc fun b6 => gR 10 rfl (g_ifT rfl (dqT (by omega)) (gR 2 rfl (g_v (fun a w F M R r => o_build F rfl rfl r) ?_)))
  refine g_stA 0 rfl rfl rfl rfl rfl rfl rfl ?_
  exact gR 5 rfl (g_retC2 0 rfl rfl rfl rfl rfl rfl fun w M => PhS.err (stR_0 hs0) M.ext)
 refine gR 2 rfl (g_alloc fun b6 => gR 10 rfl (g_ifF rfl (dqF (by omega)) (gR 11 rfl (g_loop (ι := Nat) ⟨fun (i : Nat) => l.length - i, fun (i : Nat) => i ≤ l.length ∧ (∀ j (h : j < i) (h2 : j < l.length), org1 self l[j] = true), fun (i : Nat) => [(23, .int .i64 i), (22, .int .i64 l.length), (21, .slice q l.length cap), (0, .int .u64 self), (1, .int .i64 now), (2, .slice q l.length cap), (6, .pointer (some ⟨b6, 0, none⟩))], fun (i : Nat) => [[(b6, .cells (rtC rt0 rx0).toArray 53 (0, 0))]]⟩ 0 ⟨by omega, by omega⟩ (fun a F => F.only [23, 22, 21, 0, 1, 2, 6] rfl) (by repeat (first | exact .refl _ | apply sC2 | apply sC1)) ?_))))
 rintro i ⟨hi_i, hdm⟩
 by_cases hlt_i : i < l.length
 ·obtain ⟨b, o, cs, t', fz, rfl, hb, hs⟩ := hm (by omega)
  obtain ⟨x, hx0⟩ : ∃ x, x = l[i] := ⟨_, rfl⟩
  have hxm : x ∈ l := by rw [hx0];exact List.getElem_mem hlt_i
  have hxi : IsOg x := hx _ hxm
  have f1 : seg cs (o + (i : Int).toNat * 34) 34 = some (ogC x) := by rw [hx0];exact seg_el (ogs_len hx) hs hlt_i (by omega)
  have xd : IsDv (orgD self x) := hxi
  cases ho : org1 self x
  ·refine gR 6 rfl ?_
   refine g_ifT rfl (dqT (by omega)) (gR 6 rfl (g_ixS rfl rfl (by omega) (by omega) (g_leA rfl ‹_› (by with_reducible assumption) ?_)))
   refine g_alloc fun b9 => g_stA 0 rfl rfl (og_len ‹_›) (og_one _) rfl (put_all (by rw [og_len ‹_›];first | rfl | rw [og_len ‹_›])) rfl ?_
   refine gR 5 rfl (g_ldA 0 rfl rfl (og_all ‹_›) ?_)
   refine g_call rfl rfl (fun w M => rown_c _ _ ‹_› _) ?_
   refine g_call rfl rfl (fun w M => rvalidTo_c _ ‹_› _) ?_
   refine gR 3 rfl (g_ifT rfl (notT ‹_›) ?_)
   refine gR 2 rfl (g_v (fun a w F M R r => o_build F rfl rfl r) ?_)
   refine g_stA 1 rfl rfl rfl rfl rfl rfl rfl ?_
   exact gR 6 rfl (g_outR (gR 2 rfl (g_retC2 1 rfl rfl rfl rfl rfl rfl fun w M => PhS.err (stR_F hxm ho) M.ext)))
  ·refine gR 6 rfl ?_
   refine g_ifT rfl (dqT (by omega)) (gR 6 rfl (g_ixS rfl rfl (by omega) (by omega) (g_leA rfl ‹_› (by with_reducible assumption) ?_)))
   refine g_alloc fun b9 => g_stA 0 rfl rfl (og_len ‹_›) (og_one _) rfl (put_all (by rw [og_len ‹_›];first | rfl | rw [og_len ‹_›])) rfl ?_
   refine gR 5 rfl (g_ldA 0 rfl rfl (og_all ‹_›) ?_)
   refine g_call rfl rfl (fun w M => rown_c _ _ ‹_› _) ?_
   refine g_call rfl rfl (fun w M => rvalidTo_c _ ‹_› _) ?_
   refine gR 3 rfl (g_ifF rfl (notF ‹_›) ?_)
   exact gR 4 rfl (g_add rfl rfl (w_i64 (by omega) (by omega)) (gR 2 rfl (g_next (i + 1) ⟨by omega, hno_T hlt_i hx0 hdm ho⟩ (by dsimp only;omega) (fun a F => F.only [23, 22, 21, 0, 1, 2, 6] rfl) (by (try dsimp only);repeat (first | exact .refl _ | with_reducible exact sC0 _ | with_reducible apply sC2 | apply sC1)))))
 ·have hal : l.all (org1 self) = true := all_T (by omega) hdm
  cases ht : isTime now
  ·refine gR 6 rfl ?_
   refine g_ifF rfl (dqF (by omega)) (gR 2 rfl (g_outX (gR 6 rfl (g_call rfl rfl (fun w M => risTime_c _ _) (gR 3 rfl (g_ifT rfl (notT ‹_›) ?_))))))
   refine gR 2 rfl (g_v (fun a w F M R r => o_build F rfl rfl r) ?_)
   refine g_stA 0 rfl rfl rfl rfl rfl rfl rfl ?_
   exact gR 5 rfl (g_retC2 0 rfl rfl rfl rfl rfl rfl fun w M => PhS.err (stR_T hs0 hal ht) M.ext)
  refine gR 6 rfl (g_ifF rfl (dqF (by omega)) (gR 2 rfl (g_outX (gR 6 rfl (g_call rfl rfl (fun w M => risTime_c _ _) (gR 3 rfl (g_ifF rfl (notF ‹_›) ?_)))))))
  refine gR 16 rfl (g_pad (g_loop (ι := Nat × (List OrgV) × Value × (List (Nat × Obj))) ⟨fun (i, out, u, es) => l.length - i, fun (i, out, u, es) => i ≤ l.length ∧ (OwnS 85 34 u out.length (ogsC out) es) ∧ (OgIs self (l.take i) out), fun (i, out, u, es) => [(40, .int .i64 i), (39, .int .i64 l.length), (38, .slice q l.length cap), (10, u), (0, .int .u64 self), (1, .int .i64 now), (2, .slice q l.length cap), (6, .pointer (some ⟨b6, 0, none⟩))], fun (i, out, u, es) => [es, [(b6, .cells (rtC rt0 rx0).toArray 53 (0, 0))]]⟩ (0, [], _, []) ⟨by omega, OwnS.nilL _ _ _, OgIs.nil⟩ (fun a F => F.only [40, 39, 38, 10, 0, 1, 2, 6] rfl) (by repeat (first | exact .refl _ | apply sC2 | apply sC1)) ?_))
  rintro ⟨i, out, u, es⟩ ⟨hi_i, hOs, hI⟩
  dsimp only
  by_cases hlt_i : i < l.length
  ·obtain ⟨b, o, cs, t', fz, rfl, hb, hs⟩ := hm (by omega)
   obtain ⟨x, hx0⟩ : ∃ x, x = l[i] := ⟨_, rfl⟩
   have hxm : x ∈ l := by rw [hx0];exact List.getElem_mem hlt_i
   have hxi : IsOg x := hx _ hxm
   have f1 : seg cs (o + (i : Int).toNat * 34) 34 = some (ogC x) := by rw [hx0];exact seg_el (ogs_len hx) hs hlt_i (by omega)
   have xd : IsDv (orgD self x) := hxi
   obtain ⟨q4, c4, rfl, hq4⟩ := own_q hOs
   have hol : out.length ≤ i := Nat.le_trans hI.len (by rw [List.length_take];omega)
   refine gR 6 rfl (g_ifT rfl (dqT (by omega)) (gR 6 rfl (g_ixS rfl rfl (by omega) (by omega) (g_leA rfl ‹_› (by with_reducible assumption) ?_))))
   refine g_alloc fun b12 => g_stA 0 rfl rfl (og_len ‹_›) (og_one _) rfl (put_all (by rw [og_len ‹_›];first | rfl | rw [og_len ‹_›])) rfl ?_
   refine gR 21 rfl (g_pad ?_)
   refine g_loop (ι := Nat × Bool × (List OrgV) × Value × (List (Nat × Obj))) ⟨fun (c, d, o2, u2, e2) => out.length - c, fun (c, d, o2, u2, e2) => c ≤ out.length ∧ OwnS 85 34 u2 o2.length (ogsC o2) e2 ∧ o2 ++ mergeG (fun y => cmpOg self y x) x d (out.drop c) = mergeG (fun y => cmpOg self y x) x false out, fun (c, d, o2, u2, e2) => [(46, .int .i64 c), (45, .int .i64 out.length), (44, .slice q4 out.length c4), (14, .bool d), (13, u2), (12, .pointer (some ⟨b12, 0, none⟩)), (40, .int .i64 i), (39, .int .i64 l.length), (38, .slice (some ⟨b, o, none⟩) l.length cap), (10, .slice q4 out.length c4), (0, .int .u64 self), (1, .int .i64 now), (2, .slice (some ⟨b, o, none⟩) l.length cap), (6, .pointer (some ⟨b6, 0, none⟩))], fun (c, d, o2, u2, e2) => [e2, [(b12, .cells (ogC x).toArray 85 (0, 0))], es, [(b6, .cells (rtC rt0 rx0).toArray 53 (0, 0))]]⟩ (0, false, [], _, []) ⟨by first | omega | (dsimp only;omega), OwnS.nilL _ _ _, rfl⟩ (fun a F => F.only [46, 45, 44, 14, 13, 12, 40, 39, 38, 10, 0, 1, 2, 6] rfl) (by repeat (first | exact .refl _ | apply sC2 | apply sC1)) ?_
   rintro ⟨c, d, o2, u2, e2⟩ ⟨hc, hO2, hmg⟩
   dsimp only at hc hO2 hmg ⊢
   have hol2 : o2.length ≤ 200 := mg_len hmg (by omega)
   by_cases hlc : c < out.length
   ·obtain ⟨bq, jq, rfl, rfl⟩ := hq4 (by omega)
    obtain ⟨y, hy0⟩ : ∃ y, out[c] = y := ⟨_, rfl⟩
    have yI : IsOg y := by rw [← hy0];exact hI.og hx _ (List.getElem_mem _)
    have yd : IsDv (orgD self y) := yI
    have f4 : seg (ogsC out ++ jq) (0 + (c : Int).toNat * 34) 34 = some (ogC y) := by rw [← hy0];exact own_el (fun z hz => og_len (hI.og hx _ hz)) jq hlc (by omega)
    have hol4 : (o2 ++ [x]).length = o2.length + 1 := by simp
    refine gR 6 rfl (g_ifT rfl (dqT (by omega)) (gR 6 rfl (g_ixS rfl rfl (by omega) (by omega) (g_ldA 2 rfl rfl (by with_reducible assumption) ?_))))
    refine g_alloc fun b16 => g_stA 0 rfl rfl (og_len ‹_›) (og_one _) rfl (put_all (by rw [og_len ‹_›];first | rfl | rw [og_len ‹_›])) rfl ?_
    refine gR 3 rfl (g_draw 8 95 rfl (by kernel_rfl) (fR 1 rfl (fd_ldA 0 rfl rfl (og_all ‹_›) ?_)))
    refine fd_call rfl rfl (fun w M => rown_c _ _ ‹_› _) ?_
    refine fR 1 rfl (fd_ldA 2 rfl rfl (og_all ‹_›) ?_)
    refine fd_call rfl rfl (fun w M => rown_c _ _ ‹_› _) ?_
    refine fd_call rfl rfl (fun w M => rcompare_c _ _ ‹_› ‹_› _) ?_
    refine fR 1 rfl (fd_done rfl rfl (gR 8 rfl (g_split 59 rfl (fun h1 => ?_) (fun h1 => ?_))))
    ·replace h1 := dqU h1
     refine gR 5 rfl (g_if rfl (fun h2 => ?_) (fun h2 => ?_))
     ·replace h2 := false_of_not h2
      refine gR 3 rfl (g_ldA 2 rfl rfl (og_all ‹_›) ?_)
      refine g_bs rfl rfl rfl (og_build1 ‹_›) (fun b65 => ?_)
      refine g_app 2 0 (enc := ogC) rfl rfl ‹_› rfl rfl (og_len ‹_›) (by first | omega | (simp only [List.length_nil];omega)) (fun _ => rfl) (fun v66 es66 hO66 => ?_) (og_one _)
      refine gR 13 rfl (g_if rfl (fun h3 => ?_) (fun h3 => ?_))
      ·replace h3 := ne_of_bne h3
       refine gR 2 rfl (g_ldA 1 rfl rfl (og_all ‹_›) ?_)
       refine g_bs rfl rfl rfl (og_build1 ‹_›) (fun b71 => ?_)
       refine g_app 3 0 (enc := ogC) rfl rfl ‹_› rfl rfl (og_len ‹_›) (by first | omega | (simp only [List.length_nil];omega)) (fun _ => rfl) (fun v72 es72 hO72 => ?_) (og_one _)
       refine gR 5 rfl (g_add rfl rfl (w_i64 (by omega) (by omega)) (gR 2 rfl ?_))
       exact g_next (c + 1, true, (o2 ++ [x]) ++ [y], _, _) ⟨by dsimp only;omega, by assumption, mg1 hmg hlc hy0 ‹_› (by unfold cmpOg;omega) (by unfold cmpOg;omega)⟩ (by dsimp only;omega) (fun a F => F.only [46, 45, 44, 14, 13, 12, 40, 39, 38, 10, 0, 1, 2, 6] rfl) (by (try dsimp only);repeat (first | exact .refl _ | with_reducible exact sC0 _ | with_reducible apply sC2 | apply sC1))
      ·replace h3 := eq_of_bne_false h3
       refine gR 4 rfl (g_add rfl rfl (w_i64 (by omega) (by omega)) (gR 2 rfl ?_))
       exact g_next (c + 1, true, o2 ++ [x], _, _) ⟨by dsimp only;omega, by assumption, mg2 hmg hlc hy0 ‹_› (by unfold cmpOg;omega)⟩ (by dsimp only;omega) (fun a F => F.only [46, 45, 44, 14, 13, 12, 40, 39, 38, 10, 0, 1, 2, 6] rfl) (by (try dsimp only);repeat (first | exact .refl _ | with_reducible exact sC0 _ | with_reducible apply sC2 | apply sC1))
     ·replace h2 := true_of_not h2
      refine gR 8 rfl (g_if rfl (fun h3 => ?_) (fun h3 => ?_))
      ·replace h3 := ne_of_bne h3
       refine gR 2 rfl (g_ldA 0 rfl rfl (og_all ‹_›) ?_)
       refine g_bs rfl rfl rfl (og_build1 ‹_›) (fun b71 => ?_)
       refine g_app 2 0 (enc := ogC) rfl rfl ‹_› rfl rfl (og_len ‹_›) (by first | omega | (simp only [List.length_nil];omega)) (fun _ => rfl) (fun v72 es72 hO72 => ?_) (og_one _)
       refine gR 5 rfl (g_add rfl rfl (w_i64 (by omega) (by omega)) (gR 2 rfl ?_))
       exact g_next (c + 1, d, o2 ++ [y], _, _) ⟨by dsimp only;omega, by assumption, mg3 hmg hlc hy0 (by first | exact .inl ‹_› | exact .inr (by unfold cmpOg;omega)) (by unfold cmpOg;omega)⟩ (by dsimp only;omega) (fun a F => F.only [46, 45, 44, 14, 13, 12, 40, 39, 38, 10, 0, 1, 2, 6] rfl) (by (try dsimp only);repeat (first | exact .refl _ | with_reducible exact sC0 _ | with_reducible apply sC2 | apply sC1))
      ·replace h3 := eq_of_bne_false h3
       refine gR 4 rfl (g_add rfl rfl (w_i64 (by omega) (by omega)) (gR 2 rfl ?_))
       exact g_next (c + 1, d, o2, _, _) ⟨by dsimp only;omega, by assumption, mg4 hmg hlc hy0 ‹_› (by unfold cmpOg;omega)⟩ (by dsimp only;omega) (fun a F => F.only [46, 45, 44, 14, 13, 12, 40, 39, 38, 10, 0, 1, 2, 6] rfl) (by (try dsimp only);repeat (first | exact .refl _ | with_reducible exact sC0 _ | with_reducible apply sC2 | apply sC1))
    ·replace h1 := dqV h1
     refine gR 14 rfl (g_ifT rfl (bne_iff_ne.2 (by omega)) (gR 2 rfl (g_ldA 0 rfl rfl (og_all ‹_›) ?_)))
     refine g_bs rfl rfl rfl (og_build1 ‹_›) (fun b71 => ?_)
     refine g_app 2 0 (enc := ogC) rfl rfl ‹_› rfl rfl (og_len ‹_›) (by first | omega | (simp only [List.length_nil];omega)) (fun _ => rfl) (fun v72 es72 hO72 => ?_) (og_one _)
     refine gR 5 rfl (g_add rfl rfl (w_i64 (by omega) (by omega)) (gR 2 rfl ?_))
     exact g_next (c + 1, d, o2 ++ [y], _, _) ⟨by dsimp only;omega, by assumption, mg3 hmg hlc hy0 (by first | exact .inl ‹_› | exact .inr (by unfold cmpOg;omega)) (by unfold cmpOg;omega)⟩ (by dsimp only;omega) (fun a F => F.only [46, 45, 44, 14, 13, 12, 40, 39, 38, 10, 0, 1, 2, 6] rfl) (by (try dsimp only);repeat (first | exact .refl _ | with_reducible exact sC0 _ | with_reducible apply sC2 | apply sC1))
   ·have hlq : c = out.length := by omega
    refine gR 6 rfl (g_ifF rfl (dqF (by omega)) (gR 2 rfl (g_outX (gR 9 rfl (g_if rfl (fun h1 => ?_) (fun h1 => ?_))))))
    ·replace h1 := false_of_not h1
     refine gR 2 rfl (g_ldA 1 rfl rfl (og_all ‹_›) ?_)
     refine g_bs rfl rfl rfl (og_build1 ‹_›) (fun b78 => ?_)
     refine g_app 1 0 (enc := ogC) rfl rfl ‹_› rfl rfl (og_len ‹_›) (by first | omega | (simp only [List.length_nil];omega)) (fun _ => rfl) (fun v79 es79 hO79 => ?_) (og_one _)
     refine gR 10 rfl (g_add rfl rfl (w_i64 (by omega) (by omega)) (gR 2 rfl ?_))
     exact g_next (i + 1, o2 ++ [x], _, _) ⟨by dsimp only;omega, by assumption, mgO0 hlt_i hx0 hx hI hlq hmg ‹_›⟩ (by dsimp only;omega) (fun a F => F.only [40, 39, 38, 10, 0, 1, 2, 6] rfl) (by (try dsimp only);repeat (first | exact .refl _ | with_reducible exact sC0 _ | with_reducible apply sC2 | apply sC1))
    ·replace h1 := true_of_not h1
     refine gR 9 rfl (g_add rfl rfl (w_i64 (by omega) (by omega)) (gR 2 rfl ?_))
     exact g_next (i + 1, o2, _, _) ⟨by dsimp only;omega, by assumption, mgO1 hlt_i hx0 hx hI hlq hmg ‹_›⟩ (by dsimp only;omega) (fun a F => F.only [40, 39, 38, 10, 0, 1, 2, 6] rfl) (by (try dsimp only);repeat (first | exact .refl _ | with_reducible exact sC0 _ | with_reducible apply sC2 | apply sC1))
  ·obtain ⟨hn0, hn1⟩ := isTime_bd ht
   obtain ⟨q4, c4, rfl, hq4⟩ := own_q hOs
   rw [show l.take i = l by rw [List.take_of_length_le (by omega)]] at hI
   obtain rfl := hI.is hx
   by_cases hlm : 8 < (ogU self l).length
   ·refine gR 6 rfl ?_
    refine g_ifF rfl (dqF (by omega)) (gR 2 rfl (g_outX (gR 10 rfl (g_ifT rfl (dqT (by omega)) (gR 2 rfl (g_v (fun a w F M R r => o_build F rfl rfl r) ?_))))))
    refine g_stA 1 rfl rfl rfl rfl rfl rfl rfl ?_
    exact gR 5 rfl (g_retC2 1 rfl rfl rfl rfl rfl rfl fun w M => PhS.err (stR_L hs0 hal ht hlm) M.ext)
   refine gR 6 rfl (g_ifF rfl (dqF (by omega)) (gR 2 rfl (g_outX (gR 10 rfl (g_ifF rfl (dqF (by omega)) (gR 7 rfl (g_call rfl rfl (fun w M => rafter_c _ _ ‹_› ‹_› (by omega) (by omega) _) ?_)))))))
   refine gR 3 rfl (g_v (fun a w F M R r => o_build F rfl rfl r) (g_v (fun a w F M R r => o_build F rfl rfl r) ?_))
   refine g_stA 1 rfl rfl rfl rfl rfl rfl rfl ?_
   exact gR 4 rfl (g_retC2 1 rfl rfl rfl rfl rfl rfl fun w M => PhS.ok hs0 hal ht hlm hOs (M.sub (List.sublist_append_left _ _)))
theorem stR_og {self now : Int} {l : List OrgV} (hx : ∀ x ∈ l, IsOg x) : (∀ y ∈ (stR self now l).1.og, IsOg y) ∧ validOgs self (stR self now l).1.og = true := by
 have h0 : (∀ y ∈ rt0.og, IsOg y) ∧ validOgs self rt0.og = true := ⟨fun y hy => (List.not_mem_nil hy).elim, rfl⟩
 unfold stR
 split
 ·exact h0
 rename_i h1
 split
 ·exact h0
 split
 ·exact h0
 rename_i h2
 obtain ⟨g1, g2⟩ := ogU_is (self := self) hx
 simp only [Bool.or_eq_true, Bool.not_eq_true', not_or, Bool.not_eq_false] at h1
 exact ⟨fun y hy => hx y ((g2 y).1 hy), validOgs_iff.2 ⟨Nat.le_of_not_lt h2, fun a ha => List.all_eq_true.1 h1.2 a ((g2 a).1 ha), g1⟩⟩
theorem euiB_c {bt : Nat} {p : Option Addr} {len cap k : Nat} {xs : List Int} (W : World) (hT : TapeS W bt p len xs) (hb : W.heap[bt]? = some (tobj p len cap k)) : Cal Tryz.prog 25 [.pointer (some ⟨bt, 0, none⟩)].toArray W fun r w' => ∃ x k', r = .int .u64 x ∧ (1 ≤ x ∧ x ≤ 5) ∧ Mem [bt] W w' [(bt, tobj p len cap k')] := by
 have n5 := nxV_bd xs k (n := 5) (by omega)
 exact g_startB (n := 7) [bt] hb (by simp) fldT_ok slcT_ok Tryz.func25 rfl rfl rfl (gR 8 rfl (g_callT1 0 rfl rfl rfl (fun w M => next_c _ (by omega) (by omega) w (hT.later M.ext) (M.at_ _ (nthO_mem (i := 0) rfl))) rfl (g_add rfl rfl (w_i64 (by omega) (by omega)) (g_conv rfl (w_u64 (by omega) (by omega)) (gR 4 rfl (g_ret1 rfl rfl rfl fun w M => ⟨_, _, rfl, by omega, M⟩))))))
theorem originsB_c {bt : Nat} {p : Option Addr} {len cap k : Nat} {xs : List Int} (self now : Int) (W : World) (hT : TapeS W bt p len xs) (hb : W.heap[bt]? = some (tobj p len cap k)) : Cal Tryz.prog 58 [.pointer (some ⟨bt, 0, none⟩), .int .u64 self, .int .i64 now].toArray W fun r w' => ∃ (m : List OrgV) (k' : Nat) (ent : List (Nat × Obj)), OwnS 85 34 r m.length (ogsC m) ent ∧ (∀ y ∈ m, IsOg y) ∧ validOgs self m = true ∧ Mem [bt] W w' ((bt, tobj p len cap k') :: ent) := by
 have n3 := nxV_bd xs k (n := 3) (by omega)
 refine g_startB (n := 37) [bt] hb (by simp) fldT_ok slcT_ok Tryz.func58 rfl rfl rfl (gR 14 rfl (g_callT1 0 rfl rfl rfl (fun w M => next_c _ (by omega) (by omega) w (hT.later M.ext) (M.at_ _ (nthO_mem (i := 0) rfl))) rfl (gR 4 rfl (g_pad ?_))))
 refine g_loop (ι := Int × (List OrgV) × Value × (List (Nat × Obj)) × Nat) ⟨fun (d, out, u, es, k) => d.toNat, fun (d, out, u, es, k) => d ≤ 3 ∧ OwnS 85 34 u out.length (ogsC out) es ∧ (∀ y ∈ out, IsOg y) ∧ (out.length : Int) + d ≤ 3 ∧ 0 ≤ d, fun (d, out, u, es, k) => [(8, .int .i64 d), (7, u), (0, .pointer (some ⟨bt, 0, none⟩)), (1, .int .u64 self), (2, .int .i64 now)], fun (d, out, u, es, k) => [es, [(bt, tobj p len cap k)]]⟩ (_, [], _, [], _) ⟨by first | omega | (dsimp only;omega), OwnS.nilL _ _ _, fun y hy => (List.not_mem_nil hy).elim, by first | (simp;omega) | (dsimp only;simp;omega), by first | omega | (dsimp only;omega)⟩ (fun a F => F.only [8, 7, 0, 1, 2] rfl) (by repeat (first | exact .refl _ | apply sC2 | apply sC1)) ?_
 clear n3
 rintro ⟨d, out, u, es, k⟩ ⟨hd, hOs, hI, hol, hd0⟩
 dsimp only at hd hOs hI hol hd0 ⊢
 by_cases hlt : 0 < d
 ·refine gR 7 rfl ?_
  refine g_ifT rfl (dqT (by omega)) (gR 7 rfl ?_)
  refine g_callT (ι := DstV × Nat) 1 (fun j => dvV j.1) (fun j => IsDv j.1) (fun j => tobj p len cap j.2) (fun _ => []) rfl rfl rfl (fun w M => Cal.mono (toE_c w (hT.later M.ext) (M.at_ _ (nthO_mem (i := 1) rfl))) fun r w' h => by
    obtain ⟨x, k', q, h1, _, N⟩ := h
    exact ⟨(x, k'), q, h1, by simpa using N⟩) (fun _ => rfl) ?_
  rintro ⟨x, k1⟩ xd
  dsimp only [List.nil_append] at xd ⊢
  unfold dvV
  have hol3 : out.length ≤ 2 := by omega
  have xo : IsOg (⟨x.dip, x.dbits, x.sip, x.sbits⟩ : OrgV) := xd
  refine g_alloc fun b9 => g_stA 0 rfl rfl (dv_len ‹_›) (dv_one _) rfl (put_all (by rw [dv_len ‹_›];first | rfl | rw [dv_len ‹_›])) rfl ?_
  refine gR 5 rfl (g_ldA 0 rfl rfl (dv_dst ‹_›) ?_)
  refine gR 1 rfl (g_ldA 0 rfl rfl (dv_src ‹_›) ?_)
  refine g_v (fun a w F M R r => o_build F rfl (og_mkA _ ‹_›) r) ?_
  refine g_bs rfl rfl rfl (og_build1 ‹_›) (fun b26 => ?_)
  refine g_app 2 0 (enc := ogC) rfl rfl ‹_› rfl rfl (og_len ‹_›) (by first | omega | (simp only [List.length_nil];omega)) (fun _ => rfl) (fun v27 es27 hO27 => ?_) (og_one _)
  refine gR 6 rfl (g_sub rfl rfl (w_i64 (by omega) (by omega)) (gR 2 rfl ?_))
  exact g_next (d - 1, out ++ [⟨x.dip, x.dbits, x.sip, x.sbits⟩], _, _, _) ⟨by dsimp only;omega, by assumption, app_is hI xo, by simp;omega, by dsimp only;omega⟩ (by dsimp only;omega) (fun a F => F.only [8, 7, 0, 1, 2] rfl) (by (try dsimp only);repeat (first | exact .refl _ | with_reducible exact sC0 _ | with_reducible apply sC2 | apply sC1))
 ·refine gR 7 rfl ?_
  refine g_ifF rfl (dqF (by omega)) (gR 2 rfl (g_outX (gR 7 rfl ?_)))
  obtain ⟨z, hz⟩ : ∃ z, stR self now out = z := ⟨_, rfl⟩
  have hzo := stR_og (self := self) (now := now) hI
  rw [hz] at hzo
  refine g_callN (ι := Value × List (Nat × Obj)) (fun j => .tuple #[.agg (rtC z.1 (rxU j.1)).toArray, .int .i64 z.2]) (fun j => OwnS 85 34 j.1 z.1.og.length (ogsC z.1.og) j.2) (fun j => [j.2]) rfl rfl (fun w M => Cal.mono (refStartT_c self now out hI (by omega) u w (hOs.slAt M (fun q hq => List.mem_append_left _ hq))) fun r w' h => by
   obtain ⟨u, ent, q, h1, N⟩ := h
   rw [hz] at q h1
   exact ⟨(u, ent), q, h1, by simpa using N⟩) ?_
  rintro ⟨u1, e1⟩ hO1
  dsimp only at hO1 ⊢
  obtain ⟨q4, c4, rfl, hq4⟩ := own_q hO1
  refine gR 3 rfl (g_alloc fun b10 => ?_)
  refine g_stA 0 rfl rfl rfl rfl rfl rfl rfl ?_
  exact gR 6 rfl (g_ld1 0 rfl rfl rfl (gR 4 rfl (g_ret1 rfl rfl rfl fun w M => ⟨z.1.og, _, e1, hO1, hzo.1, hzo.2, (M.sub (.cons _ ((List.Sublist.refl e1).append (List.sublist_append_right es _)))).perm List.perm_append_comm⟩)))
theorem mergeG_mem {α : Type} {c : α → Int} {x z : α} : ∀ {d : Bool} {l : List α}, z ∈ mergeG c x d l → z = x ∨ z ∈ l
 | d, [], h => by
  rw [mergeG_nil] at h
  cases d <;> simp_all
 | d, y :: l, h => by
  rw [mergeG_cons] at h
  rcases List.mem_append.1 h with h | h
  ·split at h
   ·exact .inl (by simpa using h)
   ·cases h
  ·rcases List.mem_append.1 h with h | h
   ·split at h
    ·cases h
    ·exact .inr (by simp at h;simp [h])
   ·exact (mergeG_mem h).imp_right fun h => List.mem_cons_of_mem _ h
theorem mg_valid {α : Type} {n : Nat} {e1 : α → Bool} {cm : α → α → Int} (f : α → List Int) (hf : ∀ a b, cm a b = cmpL (f a) (f b)) {l : List α} {x : α} (hv : vldL n e1 cm l = true) (hx : e1 x = true) {o : List α} (ho : o = mergeG (fun y => cm y x) x false l) (hl : o.length ≤ n) : vldL n e1 cm o = true := by
 subst ho
 have tr : ∀ a b c, cm a b < 0 → cm b c < 0 → cm a c < 0 := fun a b c h k => by
  rw [hf] at h k ⊢
  exact cmpL_lt_trans h k
 obtain ⟨_, h2, h3⟩ := (vldL_iff tr).1 hv
 have e : mergeG (fun y => cm y x) x false l = l.filter (fun y => decide (cm y x < 0)) ++ ([x] ++ l.filter (fun y => decide (0 < cm y x))) := by
  rw [mergeG_is]
  ·rfl
  ·refine h3.imp fun {a b} h k => ?_
   rw [hf] at h k ⊢
   exact cmpL_ge h k
 refine (vldL_iff tr).2 ⟨hl, fun a ha => ?_, ?_⟩
 ·rcases mergeG_mem ha with rfl | h
  ·exact hx
  ·exact h2 a h
 ·rw [e]
  have an : ∀ a b, cm b a = - cm a b := fun a b => by rw [hf, hf];exact cmpL_anti _ _
  refine List.pairwise_append.2 ⟨h3.filter _, List.pairwise_append.2 ⟨List.pairwise_singleton _ _, h3.filter _, fun a ha b hb => ?_⟩, fun a ha b hb => ?_⟩
  ·simp only [List.mem_singleton, List.mem_filter, decide_eq_true_eq] at ha hb
   subst ha
   have := an b a
   omega
  ·simp only [List.mem_append, List.mem_singleton, List.mem_filter, decide_eq_true_eq] at ha hb
   rcases hb with rfl | ⟨_, hb⟩
   ·exact ha.2
   ·have := an b x
    exact tr _ _ _ ha.2 (by omega)
theorem mg_is {α : Type} {p : α → Prop} {c : α → Int} {x : α} {l o : List α} (hl : ∀ y ∈ l, p y) (hx : p x) (ho : o = mergeG c x false l) : ∀ y ∈ o, p y := fun y hy => by
 rcases mergeG_mem (ho ▸ hy) with rfl | h
 ·exact hx
 ·exact hl y h
theorem mg_vS {l o : List SrcV} {x : SrcV} (hv : validSs l = true) (hx : src1 x = true) (ho : o = mergeG (fun y => cmpS y x) x false l) (hl : o.length ≤ 256) : validSs o = true := mg_valid (n := 256) (e1 := src1) (cm := cmpS) (fun s => keyD s.to) (fun _ _ => rfl) hv hx ho hl
theorem mg_vR {l o : List RouV} {x : RouV} (hv : validRs l = true) (hx : rou1 x = true) (ho : o = mergeG (fun y => cmpR y x) x false l) (hl : o.length ≤ 512) : validRs o = true := mg_valid (n := 512) (e1 := rou1) (cm := cmpR) keyR (fun _ _ => rfl) hv hx ho hl
theorem fin_of {d : DisV} (h : 0 ≤ d.met ∧ d.met ≤ 65534) : finD d = true := by
 unfold finD validM inf
 simp
 omega
theorem fin_m {d : DisV} (h : finD d = true) : validM d.met = true ∧ ¬ d.met = 65535 := by
 unfold finD inf at h
 simpa using h
def PhSv (r : Value) (W w' : World) : Prop := ∃ (u : Value) (m : List SrcV) (c : Int) (ent : List (Nat × Obj)), r = .tuple #[u, .int .i64 c] ∧ OwnS 166 38 u m.length (srsC m) ent ∧ (∀ y ∈ m, IsSr y) ∧ validSs m = true ∧ Mem [] W w' ent
theorem PhSv.zero {c : Int} {W w : World} (E : Ext [] W w) : PhSv (.tuple #[.slice none 0 0, .int .i64 c]) W w := ⟨_, [], c, [], rfl, OwnS.nil _ _, fun y hy => (List.not_mem_nil hy).elim, rfl, Mem.nil E⟩
def PhRv (r : Value) (W w' : World) : Prop := ∃ (u : Value) (m : List RouV) (c : Int) (ent : List (Nat × Obj)), r = .tuple #[u, .int .i64 c] ∧ OwnS 76 39 u m.length (rosC m) ent ∧ (∀ y ∈ m, IsRo y) ∧ validRs m = true ∧ Mem [] W w' ent
theorem PhRv.zero {c : Int} {W w : World} (E : Ext [] W w) : PhRv (.tuple #[.slice none 0 0, .int .i64 c]) W w := ⟨_, [], c, [], rfl, OwnS.nil _ _, fun y hy => (List.not_mem_nil hy).elim, rfl, Mem.nil E⟩
theorem src1_mk {t : DstV} {d : DisV} {n : Int} (h1 : validT t = true) (h2 : finD d = true) (h3 : isTime n = true) : src1 ⟨t, d, n⟩ = true := by
 unfold src1
 rw [h1, h2, h3]
 rfl
theorem best_low {l : List SrcV} {now : Int} {t : DstV} {d : DisV} (hv : validSs l = true) (hd : finD d = true) (hs : (rfindV l now t).isSome = true) : finD (lowQ d ((rfindV l now t).getD di0)) = true := by
 unfold lowQ
 split
 ·exact hd
 ·unfold rfindV at hs ⊢
  split at hs
  ·rename_i h
   rw [if_pos h]
   cases hb : bestS l now t with
   | none => rw [hb] at hs;cases hs
   | some b => exact best_fin hv hb
  ·cases hs
theorem recB_c (l : List SrcV) (hx : ∀ x ∈ l, IsSr x) (hv : validSs l = true) (v : Value) (now : Int) (htm : isTime now = true) (t : DstV) (ht : IsDv t) (hvt : validT t = true) (d : DisV) (hd : finD d = true) (W : World) (hS : SlAt W 38 v l.length (srsC l)) : Cal Tryz.prog 142 [v, .int .i64 now, .agg (dvC t).toArray, .agg (diC d).toArray].toArray W fun r w' => PhSv r W w' := by
 obtain ⟨q, cap, rfl, _⟩ := id hS
 have hm := hS.memB [] (by simp)
 have hl256 : l.length ≤ 256 := (validSs_iff.1 hv).1
 obtain ⟨hn0, hn1⟩ := isTime_bd htm
 obtain ⟨hd1, hd2⟩ := fin_m hd
 refine g_start (n := 92) (S := []) fldT_ok slcT_ok Tryz.func142 rfl rfl rfl (gR 2 rfl (g_box rfl rfl fun b6 => g_box rfl rfl fun b7 => gR 8 rfl (g_call rfl rfl (fun w M => refvalidS_c _ ‹_› _ _ ((by assumption : SlAt _ _ _ _ _).later M.ext)) ?_)))
 refine gR 2 rfl (g_know 21 rfl (notF ‹_›) ?_)
 refine g_ldA 1 rfl rfl (dv_all ‹_›) ?_
 refine g_call rfl rfl (fun w M => rvalidTo_c _ ‹_› _) ?_
 refine gR 3 rfl (g_know 26 rfl (notF ‹_›) ?_)
 refine g_ldA 0 rfl rfl (di_all trivial) (g_call rfl rfl (fun w M => rdvalid_c _ _) (gR 3 rfl (g_know 31 rfl (notF ‹_›) ?_)))
 refine gR 1 rfl (g_ld1 0 rfl rfl (di_met trivial) (gR 4 rfl (g_ifF rfl (dqF (by omega)) (gR 6 rfl (g_call rfl rfl (fun w M => risTime_c _ _) (gR 3 rfl (g_ifF rfl (notF ‹_›) ?_)))))))
 refine gR 6 rfl (g_ldA 1 rfl rfl (dv_all ‹_›) ?_)
 refine g_call rfl rfl (fun w M => rfind_c _ ‹_› _ _ _ ‹_› _ ((by assumption : SlAt _ _ _ _ _).later M.ext)) ?_
 refine gR 3 rfl (g_alloc fun b10 => g_stA 0 rfl rfl (di_len trivial) (di_one _) rfl (put_all (by rw [di_len trivial];first | rfl | rw [di_len ‹_›])) rfl ?_)
 refine gR 4 rfl (g_cutC (ι := DisV) ⟨fun d2 => finD d2 = true, fun _ => [(7, .pointer (some ⟨b7, 0, none⟩)), (6, .pointer (some ⟨b6, 0, none⟩)), (0, .slice q l.length cap), (1, .int .i64 now)], fun d2 => [[(b7, .cells (diC d2).toArray 72 (0, 0))], [(b6, .cells (dvC t).toArray 67 (0, 0))]]⟩ ?_ ?_)
 ·refine gR 5 rfl ?_
  refine g_if rfl (fun h1 => ?_) (fun h1 => ?_)
  ·refine gR 1 rfl (g_ldA 1 rfl rfl (di_all trivial) (g_ldA 0 rfl rfl (di_all trivial) (g_call rfl rfl (fun w M => rlower_c _ _ _) (g_stA 1 rfl rfl (di_len trivial) (di_one _) rfl (put_all (by rw [di_len trivial];first | rfl | rw [di_len ‹_›])) rfl ?_))))
   exact gR 1 rfl (g_join (lowQ d ((rfindV l now t).getD di0)) (best_low hv hd ‹_›) (fun a F => F.only [7, 6, 0, 1] rfl) (by (try dsimp only);repeat (first | exact .refl _ | with_reducible exact sC0 _ | with_reducible apply sC2 | apply sC1)))
  ·exact gR 1 rfl (g_join d hd (fun a F => F.only [7, 6, 0, 1] rfl) (by (try dsimp only);repeat (first | exact .refl _ | with_reducible exact sC0 _ | with_reducible apply sC2 | apply sC1)))
 rintro d2 hd2
 dsimp only at hd2
 have nwI : IsSr (⟨t, d2, laterV now 20⟩ : SrcV) := ⟨ht, trivial⟩
 have nwv := src1_mk hvt hd2 (later_time htm (d := 20) (by omega))
 have hmk := sr_mk t ht d2 (laterV now 20)
 refine gR 2 rfl (g_draw 6 92 rfl (by kernel_rfl) (fd_ldA 1 rfl rfl (dv_all ‹_›) ?_))
 refine fd_ldA 0 rfl rfl (di_all trivial) (fR 1 rfl (fd_call rfl rfl (fun w M => rafter_c _ _ ‹_› ‹_› (by omega) (by omega) _) ?_))
 refine fd_v (fun a w F M R r => o_build F rfl ‹_› r) ?_
 refine fd_al fun b12 => g_stA 0 rfl rfl (sr_len ‹_›) (sr_one _) rfl (put_all (by rw [sr_len ‹_›];first | rfl | rw [sr_len ‹_›])) rfl ?_
 refine gR 21 rfl (g_pad ?_)
 refine g_loop (ι := Nat × Bool × (List SrcV) × Value × (List (Nat × Obj))) ⟨fun (i, d, out, u, es) => l.length - i, fun (i, d, out, u, es) => i ≤ l.length ∧ (OwnS 166 38 u out.length (srsC out) es) ∧ (out ++ mergeG (fun y => cmpS y (⟨t, d2, laterV now 20⟩ : SrcV)) (⟨t, d2, laterV now 20⟩ : SrcV) d (l.drop i) = mergeG (fun y => cmpS y (⟨t, d2, laterV now 20⟩ : SrcV)) (⟨t, d2, laterV now 20⟩ : SrcV) false l), fun (i, d, out, u, es) => [(57, .int .i64 i), (56, .int .i64 l.length), (55, .slice q l.length cap), (13, u), (14, .bool d), (0, .slice q l.length cap), (6, .pointer (some ⟨b6, 0, none⟩)), (12, .pointer (some ⟨b12, 0, none⟩))], fun (i, d, out, u, es) => [es, [(b12, .cells (srC (⟨t, d2, laterV now 20⟩ : SrcV)).toArray 166 (0, 0))], [(b6, .cells (dvC t).toArray 67 (0, 0))]]⟩ (0, false, [], _, []) ⟨by omega, OwnS.nilL _ _ _, rfl⟩ (fun a F => F.only [57, 56, 55, 13, 14, 0, 6, 12] rfl) (by repeat (first | exact .refl _ | apply sC2 | apply sC1)) ?_
 rintro ⟨i, d, out, u, es⟩ ⟨hi_i, hOs, hmg⟩
 dsimp only
 by_cases hlt_i : i < l.length
 ·obtain ⟨b, o, cs, t', fz, rfl, hb, hs⟩ := hm (by omega)
  obtain ⟨x, hx0⟩ : ∃ x, x = l[i] := ⟨_, rfl⟩
  have hxm : x ∈ l := by rw [hx0];exact List.getElem_mem hlt_i
  have hxi : IsSr x := hx _ hxm
  have f1 : seg cs (o + (i : Int).toNat * 38) 38 = some (srC x) := by rw [hx0];exact seg_el (srs_len hx) hs hlt_i (by omega)
  have xd : IsDv x.to := hxi.1
  have hol2 : out.length ≤ 300 := mg_len hmg (by omega)
  have hol4 : (out ++ [((⟨t, d2, laterV now 20⟩ : SrcV) : SrcV)]).length = out.length + 1 := by simp
  refine gR 6 rfl (g_ifT rfl (dqT (by omega)) (gR 6 rfl (g_ixS rfl rfl (by omega) (by omega) (g_leA rfl ‹_› (by with_reducible assumption) ?_))))
  refine g_alloc fun b16 => g_stA 0 rfl rfl (sr_len ‹_›) (sr_one _) rfl (put_all (by rw [sr_len ‹_›];first | rfl | rw [sr_len ‹_›])) rfl ?_
  refine gR 5 rfl (g_ldA 0 rfl rfl (sr_to ‹_›) ?_)
  refine g_ldA 3 rfl rfl (dv_all ‹_›) ?_
  refine g_call rfl rfl (fun w M => rcompare_c _ _ ‹_› ‹_› _) ?_
  refine gR 9 rfl (g_split 67 rfl (fun h1 => ?_) (fun h1 => ?_))
  ·replace h1 := dqU h1
   refine gR 5 rfl (g_if rfl (fun h2 => ?_) (fun h2 => ?_))
   ·replace h2 := false_of_not h2
    refine gR 3 rfl (g_ldA 2 rfl rfl (sr_all ‹_›) ?_)
    refine g_bs rfl rfl rfl (sr_build1 ‹_›) (fun b73 => ?_)
    refine g_app 2 0 (enc := srC) rfl rfl ‹_› rfl rfl (sr_len ‹_›) (by first | omega | (simp only [List.length_nil];omega)) (fun _ => rfl) (fun v74 es74 hO74 => ?_) (sr_one _)
    refine gR 13 rfl (g_if rfl (fun h3 => ?_) (fun h3 => ?_))
    ·replace h3 := ne_of_bne h3
     refine gR 2 rfl (g_ldA 1 rfl rfl (sr_all ‹_›) ?_)
     refine g_bs rfl rfl rfl (sr_build1 ‹_›) (fun b79 => ?_)
     refine g_app 3 0 (enc := srC) rfl rfl ‹_› rfl rfl (sr_len ‹_›) (by first | omega | (simp only [List.length_nil];omega)) (fun _ => rfl) (fun v80 es80 hO80 => ?_) (sr_one _)
     refine gR 5 rfl (g_add rfl rfl (w_i64 (by omega) (by omega)) (gR 2 rfl ?_))
     exact g_next (i + 1, true, (out ++ [(⟨t, d2, laterV now 20⟩ : SrcV)]) ++ [x], _, _) ⟨by dsimp only;omega, by assumption, mg1 hmg hlt_i hx0.symm ‹_› (by show 0 ≤ cmpD x.to t;omega) (by show ¬ cmpD x.to t = 0;omega)⟩ (by dsimp only;omega) (fun a F => F.only [57, 56, 55, 13, 14, 0, 6, 12] rfl) (by (try dsimp only);repeat (first | exact .refl _ | with_reducible exact sC0 _ | with_reducible apply sC2 | apply sC1))
    ·replace h3 := eq_of_bne_false h3
     refine gR 4 rfl (g_add rfl rfl (w_i64 (by omega) (by omega)) (gR 2 rfl ?_))
     exact g_next (i + 1, true, out ++ [(⟨t, d2, laterV now 20⟩ : SrcV)], _, _) ⟨by dsimp only;omega, by assumption, mg2 hmg hlt_i hx0.symm ‹_› (by show cmpD x.to t = 0;omega)⟩ (by dsimp only;omega) (fun a F => F.only [57, 56, 55, 13, 14, 0, 6, 12] rfl) (by (try dsimp only);repeat (first | exact .refl _ | with_reducible exact sC0 _ | with_reducible apply sC2 | apply sC1))
   ·replace h2 := true_of_not h2
    refine gR 8 rfl (g_if rfl (fun h3 => ?_) (fun h3 => ?_))
    ·replace h3 := ne_of_bne h3
     refine gR 2 rfl (g_ldA 0 rfl rfl (sr_all ‹_›) ?_)
     refine g_bs rfl rfl rfl (sr_build1 ‹_›) (fun b79 => ?_)
     refine g_app 2 0 (enc := srC) rfl rfl ‹_› rfl rfl (sr_len ‹_›) (by first | omega | (simp only [List.length_nil];omega)) (fun _ => rfl) (fun v80 es80 hO80 => ?_) (sr_one _)
     refine gR 5 rfl (g_add rfl rfl (w_i64 (by omega) (by omega)) (gR 2 rfl ?_))
     exact g_next (i + 1, d, out ++ [x], _, _) ⟨by dsimp only;omega, by assumption, mg3 hmg hlt_i hx0.symm (by first | exact .inl ‹_› | exact .inr (by show cmpD x.to t < 0;omega)) (by show ¬ cmpD x.to t = 0;omega)⟩ (by dsimp only;omega) (fun a F => F.only [57, 56, 55, 13, 14, 0, 6, 12] rfl) (by (try dsimp only);repeat (first | exact .refl _ | with_reducible exact sC0 _ | with_reducible apply sC2 | apply sC1))
    ·replace h3 := eq_of_bne_false h3
     refine gR 4 rfl (g_add rfl rfl (w_i64 (by omega) (by omega)) (gR 2 rfl ?_))
     exact g_next (i + 1, d, out, _, _) ⟨by dsimp only;omega, by assumption, mg4 hmg hlt_i hx0.symm ‹_› (by show cmpD x.to t = 0;omega)⟩ (by dsimp only;omega) (fun a F => F.only [57, 56, 55, 13, 14, 0, 6, 12] rfl) (by (try dsimp only);repeat (first | exact .refl _ | with_reducible exact sC0 _ | with_reducible apply sC2 | apply sC1))
  ·replace h1 := dqV h1
   refine gR 14 rfl (g_ifT rfl (bne_iff_ne.2 (by omega)) (gR 2 rfl (g_ldA 0 rfl rfl (sr_all ‹_›) ?_)))
   refine g_bs rfl rfl rfl (sr_build1 ‹_›) (fun b79 => ?_)
   refine g_app 2 0 (enc := srC) rfl rfl ‹_› rfl rfl (sr_len ‹_›) (by first | omega | (simp only [List.length_nil];omega)) (fun _ => rfl) (fun v80 es80 hO80 => ?_) (sr_one _)
   refine gR 5 rfl (g_add rfl rfl (w_i64 (by omega) (by omega)) (gR 2 rfl ?_))
   exact g_next (i + 1, d, out ++ [x], _, _) ⟨by dsimp only;omega, by assumption, mg3 hmg hlt_i hx0.symm (by first | exact .inl ‹_› | exact .inr (by show cmpD x.to t < 0;omega)) (by show ¬ cmpD x.to t = 0;omega)⟩ (by dsimp only;omega) (fun a F => F.only [57, 56, 55, 13, 14, 0, 6, 12] rfl) (by (try dsimp only);repeat (first | exact .refl _ | with_reducible exact sC0 _ | with_reducible apply sC2 | apply sC1))
 ·have hli : i = l.length := by omega
  have hol2 : out.length ≤ 300 := mg_len hmg (by omega)
  obtain ⟨q4, c4, rfl, hq4⟩ := own_q hOs
  refine gR 6 rfl (g_ifF rfl (dqF (by omega)) (gR 2 rfl (g_outX (gR 9 rfl (g_if rfl (fun h1 => ?_) (fun h1 => ?_))))))
  ·replace h1 := false_of_not h1
   refine gR 2 rfl (g_ldA 1 rfl rfl (sr_all ‹_›) ?_)
   refine g_bs rfl rfl rfl (sr_build1 ‹_›) (fun b86 => ?_)
   refine g_app 1 0 (enc := srC) rfl rfl ‹_› rfl rfl (sr_len ‹_›) (by first | omega | (simp only [List.length_nil];omega)) (fun _ => rfl) (fun v87 es87 hO87 => ?_) (sr_one _)
   refine gR 7 rfl (g_len rfl ‹_› ?_)
   refine gR 3 rfl (g_if rfl (fun h2 => ?_) (fun h2 => ?_))
   ·replace h2 := dqU h2
    exact gR 8 rfl (g_ret2 rfl rfl rfl rfl fun w M => PhSv.zero M.ext)
   ·replace h2 := dqV h2
    exact gR 10 rfl (g_ret2 rfl rfl rfl rfl fun w M => ⟨_, out ++ [(⟨t, d2, laterV now 20⟩ : SrcV)], 0, _, rfl, by assumption, mg_is hx nwI (mgE0 hmg hli ‹_›), mg_vS hv nwv (mgE0 hmg hli ‹_›) (by omega), M.sub (List.sublist_flatten_of_mem (by simp))⟩)
  ·replace h1 := true_of_not h1
   refine gR 10 rfl (g_if rfl (fun h2 => ?_) (fun h2 => ?_))
   ·replace h2 := dqU h2
    exact gR 8 rfl (g_ret2 rfl rfl rfl rfl fun w M => PhSv.zero M.ext)
   ·replace h2 := dqV h2
    exact gR 10 rfl (g_ret2 rfl rfl rfl rfl fun w M => ⟨_, out, 0, _, rfl, by assumption, mg_is hx nwI (mgE1 hmg hli ‹_›), mg_vS hv nwv (mgE1 hmg hli ‹_›) (by omega), M.sub (List.sublist_flatten_of_mem (by simp))⟩)
theorem rou1_mk {t : DstV} {nb : Int} {d : DisV} {n : Int} (h1 : validT t = true) (h0 : ¬ nb = 0) (h2 : finD d = true) (h3 : isTime n = true) : rou1 ⟨t, nb, d, n⟩ = true := by
 unfold rou1
 rw [h1, h2, h3, dqF h0]
 rfl
theorem learnB_c (l : List RouV) (hx : ∀ x ∈ l, IsRo x) (hv : validRs l = true) (v : Value) (now : Int) (htm : isTime now = true) (t : DstV) (ht : IsDv t) (hvt : validT t = true) (nb : Int) (hnb : ¬ nb = 0) (dd : DisV) (hd : finD dd = true) (W : World) (hS : SlAt W 39 v l.length (rosC l)) : Cal Tryz.prog 144 [v, .int .i64 now, .agg (dvC t).toArray, .int .u64 nb, .agg (diC dd).toArray].toArray W fun r w' => PhRv r W w' := by
 obtain ⟨q, cap, rfl, _⟩ := id hS
 have hm := hS.memB [] (by simp)
 have nwI : IsRo (⟨t, nb, dd, laterV now 10⟩ : RouV) := ⟨ht, trivial⟩
 have hl512 : l.length ≤ 512 := (validRs_iff.1 hv).1
 obtain ⟨hn0, hn1⟩ := isTime_bd htm
 obtain ⟨hd1, hd2⟩ := fin_m hd
 have nwv := rou1_mk hvt hnb hd (later_time htm (d := 10) (by omega))
 have hmk := ro_mk t ht nb dd (laterV now 10)
 refine g_start (n := 83) (S := []) fldT_ok slcT_ok Tryz.func144 rfl rfl rfl (gR 2 rfl (g_box rfl rfl fun b7 => g_box rfl rfl fun b9 => gR 8 rfl (g_call rfl rfl (fun w M => refvalidR_c _ ‹_› _ _ ((by assumption : SlAt _ _ _ _ _).later M.ext)) ?_)))
 refine gR 2 rfl (g_know 21 rfl (notF ‹_›) ?_)
 refine g_ldA 1 rfl rfl (dv_all ‹_›) ?_
 refine g_call rfl rfl (fun w M => rvalidTo_c _ ‹_› _) ?_
 refine gR 3 rfl (g_know 26 rfl (notF ‹_›) ?_)
 refine g_ldA 0 rfl rfl (di_all trivial) (g_call rfl rfl (fun w M => rdvalid_c _ _) (gR 3 rfl (g_know 31 rfl (notF ‹_›) ?_)))
 refine gR 5 rfl (g_ifF rfl (dqF (by omega)) (gR 6 rfl (g_call rfl rfl (fun w M => risTime_c _ _) (gR 3 rfl (g_ifF rfl (notF ‹_›) ?_)))))
 refine gR 3 rfl (g_draw 7 83 rfl (by kernel_rfl) (fd_ldA 1 rfl rfl (dv_all ‹_›) ?_))
 refine fR 1 rfl (fd_ldA 0 rfl rfl (di_all trivial) (fR 1 rfl (fd_call rfl rfl (fun w M => rafter_c _ _ ‹_› ‹_› (by omega) (by omega) _) ?_)))
 refine fd_v (fun a w F M R r => o_build F rfl ‹_› r) ?_
 refine fd_al fun b12 => g_stA 0 rfl rfl (ro_len ‹_›) (ro_one _) rfl (put_all (by rw [ro_len ‹_›];first | rfl | rw [ro_len ‹_›])) rfl ?_
 refine gR 10 rfl (g_ld1 1 rfl rfl (di_met trivial) (gR 13 rfl (g_pad ?_)))
 refine g_loop (ι := Nat × Bool × (List RouV) × Value × (List (Nat × Obj))) ⟨fun (i, d, out, u, es) => l.length - i, fun (i, d, out, u, es) => i ≤ l.length ∧ (OwnS 76 39 u out.length (rosC out) es) ∧ (out ++ mergeG (fun y => cmpR y (⟨t, nb, dd, laterV now 10⟩ : RouV)) (⟨t, nb, dd, laterV now 10⟩ : RouV) d (l.drop i) = mergeG (fun y => cmpR y (⟨t, nb, dd, laterV now 10⟩ : RouV)) (⟨t, nb, dd, laterV now 10⟩ : RouV) false l), fun (i, d, out, u, es) => [(49, .int .i64 i), (48, .int .i64 l.length), (47, .slice q l.length cap), (13, u), (14, .bool d), (0, .slice q l.length cap), (12, .pointer (some ⟨b12, 0, none⟩))], fun (i, d, out, u, es) => [es, [(b12, .cells (roC (⟨t, nb, dd, laterV now 10⟩ : RouV)).toArray 76 (0, 0))]]⟩ (0, (decide (dd.met = 65535)), [], _, []) ⟨by omega, OwnS.nilL _ _ _, by rw [dqF hd2];rfl⟩ (fun a F => F.only [49, 48, 47, 13, 14, 0, 12] rfl) (by repeat (first | exact .refl _ | apply sC2 | apply sC1)) ?_
 rintro ⟨i, d, out, u, es⟩ ⟨hi_i, hOs, hmg⟩
 dsimp only
 by_cases hlt_i : i < l.length
 ·obtain ⟨b, o, cs, t', fz, rfl, hb, hs⟩ := hm (by omega)
  obtain ⟨x, hx0⟩ : ∃ x, x = l[i] := ⟨_, rfl⟩
  have hxm : x ∈ l := by rw [hx0];exact List.getElem_mem hlt_i
  have hxi : IsRo x := hx _ hxm
  have f1 : seg cs (o + (i : Int).toNat * 39) 39 = some (roC x) := by rw [hx0];exact seg_el (ros_len hx) hs hlt_i (by omega)
  have xd : IsDv x.to := hxi.1
  have hol2 : out.length ≤ 600 := mg_len hmg (by omega)
  have hol4 : (out ++ [((⟨t, nb, dd, laterV now 10⟩ : RouV) : RouV)]).length = out.length + 1 := by simp
  refine gR 6 rfl (g_ifT rfl (dqT (by omega)) (gR 6 rfl (g_ixS rfl rfl (by omega) (by omega) (g_leA rfl ‹_› (by with_reducible assumption) ?_))))
  refine g_alloc fun b16 => g_stA 0 rfl rfl (ro_len ‹_›) (ro_one _) rfl (put_all (by rw [ro_len ‹_›];first | rfl | rw [ro_len ‹_›])) rfl ?_
  refine gR 4 rfl (g_ldA 0 rfl rfl (ro_all ‹_›) ?_)
  refine g_ldA 2 rfl rfl (ro_all ‹_›) ?_
  refine g_call rfl rfl (fun w M => reforder_c _ _ ‹_› ‹_› _) ?_
  refine gR 9 rfl (g_split 58 rfl (fun h1 => ?_) (fun h1 => ?_))
  ·replace h1 := dqU h1
   refine gR 5 rfl (g_if rfl (fun h2 => ?_) (fun h2 => ?_))
   ·replace h2 := false_of_not h2
    refine gR 3 rfl (g_ldA 2 rfl rfl (ro_all ‹_›) ?_)
    refine g_bs rfl rfl rfl (ro_build1 ‹_›) (fun b64 => ?_)
    refine g_app 2 0 (enc := roC) rfl rfl ‹_› rfl rfl (ro_len ‹_›) (by first | omega | (simp only [List.length_nil];omega)) (fun _ => rfl) (fun v65 es65 hO65 => ?_) (ro_one _)
    refine gR 13 rfl (g_if rfl (fun h3 => ?_) (fun h3 => ?_))
    ·replace h3 := ne_of_bne h3
     refine gR 2 rfl (g_ldA 1 rfl rfl (ro_all ‹_›) ?_)
     refine g_bs rfl rfl rfl (ro_build1 ‹_›) (fun b70 => ?_)
     refine g_app 3 0 (enc := roC) rfl rfl ‹_› rfl rfl (ro_len ‹_›) (by first | omega | (simp only [List.length_nil];omega)) (fun _ => rfl) (fun v71 es71 hO71 => ?_) (ro_one _)
     refine gR 5 rfl (g_add rfl rfl (w_i64 (by omega) (by omega)) (gR 2 rfl ?_))
     exact g_next (i + 1, true, (out ++ [(⟨t, nb, dd, laterV now 10⟩ : RouV)]) ++ [x], _, _) ⟨by dsimp only;omega, by assumption, mg1 hmg hlt_i hx0.symm ‹_› (by show 0 ≤ cmpR x (⟨t, nb, dd, laterV now 10⟩ : RouV);omega) (by show ¬ cmpR x (⟨t, nb, dd, laterV now 10⟩ : RouV) = 0;omega)⟩ (by dsimp only;omega) (fun a F => F.only [49, 48, 47, 13, 14, 0, 12] rfl) (by (try dsimp only);repeat (first | exact .refl _ | with_reducible exact sC0 _ | with_reducible apply sC2 | apply sC1))
    ·replace h3 := eq_of_bne_false h3
     refine gR 4 rfl (g_add rfl rfl (w_i64 (by omega) (by omega)) (gR 2 rfl ?_))
     exact g_next (i + 1, true, out ++ [(⟨t, nb, dd, laterV now 10⟩ : RouV)], _, _) ⟨by dsimp only;omega, by assumption, mg2 hmg hlt_i hx0.symm ‹_› (by show cmpR x (⟨t, nb, dd, laterV now 10⟩ : RouV) = 0;omega)⟩ (by dsimp only;omega) (fun a F => F.only [49, 48, 47, 13, 14, 0, 12] rfl) (by (try dsimp only);repeat (first | exact .refl _ | with_reducible exact sC0 _ | with_reducible apply sC2 | apply sC1))
   ·replace h2 := true_of_not h2
    refine gR 8 rfl (g_if rfl (fun h3 => ?_) (fun h3 => ?_))
    ·replace h3 := ne_of_bne h3
     refine gR 2 rfl (g_ldA 0 rfl rfl (ro_all ‹_›) ?_)
     refine g_bs rfl rfl rfl (ro_build1 ‹_›) (fun b70 => ?_)
     refine g_app 2 0 (enc := roC) rfl rfl ‹_› rfl rfl (ro_len ‹_›) (by first | omega | (simp only [List.length_nil];omega)) (fun _ => rfl) (fun v71 es71 hO71 => ?_) (ro_one _)
     refine gR 5 rfl (g_add rfl rfl (w_i64 (by omega) (by omega)) (gR 2 rfl ?_))
     exact g_next (i + 1, d, out ++ [x], _, _) ⟨by dsimp only;omega, by assumption, mg3 hmg hlt_i hx0.symm (by first | exact .inl ‹_› | exact .inr (by show cmpR x (⟨t, nb, dd, laterV now 10⟩ : RouV) < 0;omega)) (by show ¬ cmpR x (⟨t, nb, dd, laterV now 10⟩ : RouV) = 0;omega)⟩ (by dsimp only;omega) (fun a F => F.only [49, 48, 47, 13, 14, 0, 12] rfl) (by (try dsimp only);repeat (first | exact .refl _ | with_reducible exact sC0 _ | with_reducible apply sC2 | apply sC1))
    ·replace h3 := eq_of_bne_false h3
     refine gR 4 rfl (g_add rfl rfl (w_i64 (by omega) (by omega)) (gR 2 rfl ?_))
     exact g_next (i + 1, d, out, _, _) ⟨by dsimp only;omega, by assumption, mg4 hmg hlt_i hx0.symm ‹_› (by show cmpR x (⟨t, nb, dd, laterV now 10⟩ : RouV) = 0;omega)⟩ (by dsimp only;omega) (fun a F => F.only [49, 48, 47, 13, 14, 0, 12] rfl) (by (try dsimp only);repeat (first | exact .refl _ | with_reducible exact sC0 _ | with_reducible apply sC2 | apply sC1))
  ·replace h1 := dqV h1
   refine gR 14 rfl (g_ifT rfl (bne_iff_ne.2 (by omega)) (gR 2 rfl (g_ldA 0 rfl rfl (ro_all ‹_›) ?_)))
   refine g_bs rfl rfl rfl (ro_build1 ‹_›) (fun b70 => ?_)
   refine g_app 2 0 (enc := roC) rfl rfl ‹_› rfl rfl (ro_len ‹_›) (by first | omega | (simp only [List.length_nil];omega)) (fun _ => rfl) (fun v71 es71 hO71 => ?_) (ro_one _)
   refine gR 5 rfl (g_add rfl rfl (w_i64 (by omega) (by omega)) (gR 2 rfl ?_))
   exact g_next (i + 1, d, out ++ [x], _, _) ⟨by dsimp only;omega, by assumption, mg3 hmg hlt_i hx0.symm (by first | exact .inl ‹_› | exact .inr (by show cmpR x (⟨t, nb, dd, laterV now 10⟩ : RouV) < 0;omega)) (by show ¬ cmpR x (⟨t, nb, dd, laterV now 10⟩ : RouV) = 0;omega)⟩ (by dsimp only;omega) (fun a F => F.only [49, 48, 47, 13, 14, 0, 12] rfl) (by (try dsimp only);repeat (first | exact .refl _ | with_reducible exact sC0 _ | with_reducible apply sC2 | apply sC1))
 ·have hli : i = l.length := by omega
  have hol2 : out.length ≤ 600 := mg_len hmg (by omega)
  obtain ⟨q4, c4, rfl, hq4⟩ := own_q hOs
  refine gR 6 rfl (g_ifF rfl (dqF (by omega)) (gR 2 rfl (g_outX (gR 9 rfl (g_if rfl (fun h1 => ?_) (fun h1 => ?_))))))
  ·replace h1 := false_of_not h1
   refine gR 2 rfl (g_ldA 1 rfl rfl (ro_all ‹_›) ?_)
   refine g_bs rfl rfl rfl (ro_build1 ‹_›) (fun b77 => ?_)
   refine g_app 1 0 (enc := roC) rfl rfl ‹_› rfl rfl (ro_len ‹_›) (by first | omega | (simp only [List.length_nil];omega)) (fun _ => rfl) (fun v78 es78 hO78 => ?_) (ro_one _)
   refine gR 7 rfl (g_len rfl ‹_› ?_)
   refine gR 3 rfl (g_if rfl (fun h2 => ?_) (fun h2 => ?_))
   ·replace h2 := dqU h2
    exact gR 8 rfl (g_ret2 rfl rfl rfl rfl fun w M => PhRv.zero M.ext)
   ·replace h2 := dqV h2
    exact gR 10 rfl (g_ret2 rfl rfl rfl rfl fun w M => ⟨_, out ++ [(⟨t, nb, dd, laterV now 10⟩ : RouV)], 0, _, rfl, by assumption, mg_is hx nwI (mgE0 hmg hli ‹_›), mg_vR hv nwv (mgE0 hmg hli ‹_›) (by omega), M.sub (List.sublist_flatten_of_mem (by simp))⟩)
  ·replace h1 := true_of_not h1
   refine gR 10 rfl (g_if rfl (fun h2 => ?_) (fun h2 => ?_))
   ·replace h2 := dqU h2
    exact gR 8 rfl (g_ret2 rfl rfl rfl rfl fun w M => PhRv.zero M.ext)
   ·replace h2 := dqV h2
    exact gR 10 rfl (g_ret2 rfl rfl rfl rfl fun w M => ⟨_, out, 0, _, rfl, by assumption, mg_is hx nwI (mgE1 hmg hli ‹_›), mg_vR hv nwv (mgE1 hmg hli ‹_›) (by omega), M.sub (List.sublist_flatten_of_mem (by simp))⟩)
theorem sourcesB_c {bt : Nat} {p : Option Addr} {len cap k : Nat} {xs : List Int} (now : Int) (hnow : 0 ≤ now ∧ now ≤ 1099511627776) (W : World) (hT : TapeS W bt p len xs) (hb : W.heap[bt]? = some (tobj p len cap k)) : Cal Tryz.prog 60 [.pointer (some ⟨bt, 0, none⟩), .int .i64 now].toArray W fun r w' => ∃ (l : List SrcV) (k' : Nat) (ent : List (Nat × Obj)), OwnS 166 38 r l.length (srsC l) ent ∧ (∀ x ∈ l, IsSr x) ∧ validSs l = true ∧ Mem [bt] W w' ((bt, tobj p len cap k') :: ent) := by
 have n5 := nxV_bd xs k (n := 7) (by omega)
 refine g_startB (n := 31) [bt] hb (by simp) fldT_ok slcT_ok Tryz.func60 rfl rfl rfl (gR 14 rfl (g_callT1 0 rfl rfl rfl (fun w M => next_c _ (by omega) (by omega) w (hT.later M.ext) (M.at_ _ (nthO_mem (i := 0) rfl))) rfl (gR 4 rfl (g_pad ?_))))
 refine g_loop (ι := Int × (List SrcV) × Value × (List (Nat × Obj)) × Nat) ⟨fun (d, out, u, es, k) => d.toNat, fun (d, out, u, es, k) => d ≤ 7 ∧ OwnS 166 38 u out.length (srsC out) es ∧ (∀ y ∈ out, IsSr y) ∧ validSs out = true, fun (d, out, u, es, k) => [(6, .int .i64 d), (5, u), (0, .pointer (some ⟨bt, 0, none⟩)), (1, .int .i64 now)], fun (d, out, u, es, k) => [es, [(bt, tobj p len cap k)]]⟩ (_, [], _, [], _) ⟨by first | omega | (dsimp only;omega), OwnS.nilL _ _ _, fun y hy => (List.not_mem_nil hy).elim, rfl⟩ (fun a F => F.only [6, 5, 0, 1] rfl) (by repeat (first | exact .refl _ | apply sC2 | apply sC1)) ?_
 clear n5
 rintro ⟨d, out, u, es, k⟩ ⟨hd, hOs, hI, hov⟩
 dsimp only at hd hOs hI hov ⊢
 by_cases hlt : 0 < d
 ·refine gR 7 rfl ?_
  refine g_ifT rfl (dqT (by omega)) (gR 9 rfl ?_)
  refine g_callT (ι := Int × Nat) 1 (fun j => .int .i64 j.1) (fun j => isTime j.1 = true) (fun j => tobj p len cap j.2) (fun _ => []) rfl rfl rfl (fun w M => Cal.mono (wtimeE_c now hnow.1 hnow.2 w (hT.later M.ext) (M.at_ _ (nthO_mem (i := 1) rfl))) fun r w' h => by
    obtain ⟨x, k', q, h1, N⟩ := h
    exact ⟨(x, k'), q, h1, by simpa using N⟩) (fun _ => rfl) ?_
  rintro ⟨tm, k1⟩ tmv
  dsimp only [List.nil_append] at tmv ⊢
  refine gR 1 rfl ?_
  refine g_callT (ι := DstV × Nat) 1 (fun j => dvV j.1) (fun j => IsDv j.1 ∧ validT j.1 = true) (fun j => tobj p len cap j.2) (fun _ => []) rfl rfl rfl (fun w M => Cal.mono (toE_c w (hT.later M.ext) (M.at_ _ (nthO_mem (i := 1) rfl))) fun r w' h => by
    obtain ⟨x, k', q, h1, h2, N⟩ := h
    exact ⟨(x, k'), q, ⟨h1, h2⟩, by simpa using N⟩) (fun _ => rfl) ?_
  rintro ⟨x, k2⟩ ⟨xd, xv⟩
  dsimp only [List.nil_append] at xd xv ⊢
  unfold dvV
  refine gR 1 rfl ?_
  refine g_callT (ι := DisV × Nat) 1 (fun j => diV j.1) (fun j => finD j.1 = true) (fun j => tobj p len cap j.2) (fun _ => []) rfl rfl rfl (fun w M => Cal.mono (distE_c w (hT.later M.ext) (M.at_ _ (nthO_mem (i := 1) rfl))) fun r w' h => by
    obtain ⟨x, k', q, h1, N⟩ := h
    exact ⟨(x, k'), q, fin_of h1, by simpa using N⟩) (fun _ => rfl) ?_
  rintro ⟨di, k3⟩ div
  dsimp only [List.nil_append] at div ⊢
  unfold diV
  skip
  refine g_callN (ι := Value × (List SrcV) × Int × List (Nat × Obj)) (fun j => .tuple #[j.1, .int .i64 j.2.2.1]) (fun j => OwnS 166 38 j.1 j.2.1.length (srsC j.2.1) j.2.2.2 ∧ (∀ y ∈ j.2.1, IsSr y) ∧ validSs j.2.1 = true) (fun j => [j.2.2.2]) rfl rfl (fun w M => Cal.mono (recB_c out hI hov u tm tmv x xd xv di div w (hOs.slAt M (fun q hq => List.mem_append_left _ hq))) fun r w' h => by
   obtain ⟨u, m, c, ent, q, h1, h2, h3, N⟩ := h
   exact ⟨(u, m, c, ent), q, ⟨h1, h2, h3⟩, by simpa using N⟩) ?_
  rintro ⟨u1, m1, c1, e1⟩ ⟨hO1, hI1, hv1⟩
  dsimp only [List.cons_append, List.nil_append] at hO1 hI1 hv1 ⊢
  refine gR 13 rfl (g_if rfl (fun h1 => ?_) (fun h1 => ?_))
  ·replace h1 := dqU h1
   refine gR 8 rfl (g_sub rfl rfl (w_i64 (by omega) (by omega)) (gR 2 rfl ?_))
   exact g_next (d - 1, m1, _, _, _) ⟨by dsimp only;omega, by assumption, hI1, hv1⟩ (by dsimp only;omega) (fun a F => F.only [6, 5, 0, 1] rfl) (by (try dsimp only);repeat (first | exact .refl _ | with_reducible exact sC0 _ | with_reducible apply sC2 | apply sC1))
  ·replace h1 := dqV h1
   refine gR 5 rfl (g_sub rfl rfl (w_i64 (by omega) (by omega)) (gR 2 rfl ?_))
   exact g_next (d - 1, out, _, _, _) ⟨by dsimp only;omega, by assumption, hI, hov⟩ (by dsimp only;omega) (fun a F => F.only [6, 5, 0, 1] rfl) (by (try dsimp only);repeat (first | exact .refl _ | with_reducible exact sC0 _ | with_reducible apply sC2 | apply sC1))
 ·refine gR 7 rfl ?_
  exact g_ifF rfl (dqF (by omega)) (gR 2 rfl (g_outX (gR 9 rfl (g_ret1 rfl rfl rfl fun w M => ⟨out, _, es, hOs, hI, hov, M.perm List.perm_append_comm⟩))))
theorem routesB_c {bt : Nat} {p : Option Addr} {len cap k : Nat} {xs : List Int} (now : Int) (hnow : 0 ≤ now ∧ now ≤ 1099511627776) (W : World) (hT : TapeS W bt p len xs) (hb : W.heap[bt]? = some (tobj p len cap k)) : Cal Tryz.prog 61 [.pointer (some ⟨bt, 0, none⟩), .int .i64 now].toArray W fun r w' => ∃ (l : List RouV) (k' : Nat) (ent : List (Nat × Obj)), OwnS 76 39 r l.length (rosC l) ent ∧ (∀ x ∈ l, IsRo x) ∧ validRs l = true ∧ Mem [bt] W w' ((bt, tobj p len cap k') :: ent) := by
 have n5 := nxV_bd xs k (n := 10) (by omega)
 refine g_startB (n := 33) [bt] hb (by simp) fldT_ok slcT_ok Tryz.func61 rfl rfl rfl (gR 14 rfl (g_callT1 0 rfl rfl rfl (fun w M => next_c _ (by omega) (by omega) w (hT.later M.ext) (M.at_ _ (nthO_mem (i := 0) rfl))) rfl (gR 4 rfl (g_pad ?_))))
 refine g_loop (ι := Int × (List RouV) × Value × (List (Nat × Obj)) × Nat) ⟨fun (d, out, u, es, k) => d.toNat, fun (d, out, u, es, k) => d ≤ 10 ∧ OwnS 76 39 u out.length (rosC out) es ∧ (∀ y ∈ out, IsRo y) ∧ validRs out = true, fun (d, out, u, es, k) => [(6, .int .i64 d), (5, u), (0, .pointer (some ⟨bt, 0, none⟩)), (1, .int .i64 now)], fun (d, out, u, es, k) => [es, [(bt, tobj p len cap k)]]⟩ (_, [], _, [], _) ⟨by first | omega | (dsimp only;omega), OwnS.nilL _ _ _, fun y hy => (List.not_mem_nil hy).elim, rfl⟩ (fun a F => F.only [6, 5, 0, 1] rfl) (by repeat (first | exact .refl _ | apply sC2 | apply sC1)) ?_
 clear n5
 rintro ⟨d, out, u, es, k⟩ ⟨hd, hOs, hI, hov⟩
 dsimp only at hd hOs hI hov ⊢
 by_cases hlt : 0 < d
 ·refine gR 7 rfl ?_
  refine g_ifT rfl (dqT (by omega)) (gR 9 rfl ?_)
  refine g_callT (ι := Int × Nat) 1 (fun j => .int .i64 j.1) (fun j => isTime j.1 = true) (fun j => tobj p len cap j.2) (fun _ => []) rfl rfl rfl (fun w M => Cal.mono (wtimeE_c now hnow.1 hnow.2 w (hT.later M.ext) (M.at_ _ (nthO_mem (i := 1) rfl))) fun r w' h => by
    obtain ⟨x, k', q, h1, N⟩ := h
    exact ⟨(x, k'), q, h1, by simpa using N⟩) (fun _ => rfl) ?_
  rintro ⟨tm, k1⟩ tmv
  dsimp only [List.nil_append] at tmv ⊢
  refine gR 1 rfl ?_
  refine g_callT (ι := DstV × Nat) 1 (fun j => dvV j.1) (fun j => IsDv j.1 ∧ validT j.1 = true) (fun j => tobj p len cap j.2) (fun _ => []) rfl rfl rfl (fun w M => Cal.mono (toE_c w (hT.later M.ext) (M.at_ _ (nthO_mem (i := 1) rfl))) fun r w' h => by
    obtain ⟨x, k', q, h1, h2, N⟩ := h
    exact ⟨(x, k'), q, ⟨h1, h2⟩, by simpa using N⟩) (fun _ => rfl) ?_
  rintro ⟨x, k2⟩ ⟨xd, xv⟩
  dsimp only [List.nil_append] at xd xv ⊢
  unfold dvV
  refine gR 1 rfl ?_
  refine g_callT (ι := Int × Nat) 1 (fun j => .int .u64 j.1) (fun j => 1 ≤ j.1 ∧ j.1 ≤ 5) (fun j => tobj p len cap j.2) (fun _ => []) rfl rfl rfl (fun w M => Cal.mono (euiB_c w (hT.later M.ext) (M.at_ _ (nthO_mem (i := 1) rfl))) fun r w' h => by
    obtain ⟨x, k', q, h1, N⟩ := h
    exact ⟨(x, k'), q, h1, by simpa using N⟩) (fun _ => rfl) ?_
  rintro ⟨nb, k3⟩ nbv
  dsimp only [List.nil_append] at nbv ⊢
  refine gR 1 rfl ?_
  refine g_callT (ι := DisV × Nat) 1 (fun j => diV j.1) (fun j => finD j.1 = true) (fun j => tobj p len cap j.2) (fun _ => []) rfl rfl rfl (fun w M => Cal.mono (distE_c w (hT.later M.ext) (M.at_ _ (nthO_mem (i := 1) rfl))) fun r w' h => by
    obtain ⟨x, k', q, h1, N⟩ := h
    exact ⟨(x, k'), q, fin_of h1, by simpa using N⟩) (fun _ => rfl) ?_
  rintro ⟨di, k4⟩ div
  dsimp only [List.nil_append] at div ⊢
  unfold diV
  skip
  refine g_callN (ι := Value × (List RouV) × Int × List (Nat × Obj)) (fun j => .tuple #[j.1, .int .i64 j.2.2.1]) (fun j => OwnS 76 39 j.1 j.2.1.length (rosC j.2.1) j.2.2.2 ∧ (∀ y ∈ j.2.1, IsRo y) ∧ validRs j.2.1 = true) (fun j => [j.2.2.2]) rfl rfl (fun w M => Cal.mono (learnB_c out hI hov u tm tmv x xd xv nb (by omega) di div w (hOs.slAt M (fun q hq => List.mem_append_left _ hq))) fun r w' h => by
   obtain ⟨u, m, c, ent, q, h1, h2, h3, N⟩ := h
   exact ⟨(u, m, c, ent), q, ⟨h1, h2, h3⟩, by simpa using N⟩) ?_
  rintro ⟨u1, m1, c1, e1⟩ ⟨hO1, hI1, hv1⟩
  dsimp only [List.cons_append, List.nil_append] at hO1 hI1 hv1 ⊢
  refine gR 13 rfl (g_if rfl (fun h1 => ?_) (fun h1 => ?_))
  ·replace h1 := dqU h1
   refine gR 8 rfl (g_sub rfl rfl (w_i64 (by omega) (by omega)) (gR 2 rfl ?_))
   exact g_next (d - 1, m1, _, _, _) ⟨by dsimp only;omega, by assumption, hI1, hv1⟩ (by dsimp only;omega) (fun a F => F.only [6, 5, 0, 1] rfl) (by (try dsimp only);repeat (first | exact .refl _ | with_reducible exact sC0 _ | with_reducible apply sC2 | apply sC1))
  ·replace h1 := dqV h1
   refine gR 5 rfl (g_sub rfl rfl (w_i64 (by omega) (by omega)) (gR 2 rfl ?_))
   exact g_next (d - 1, out, _, _, _) ⟨by dsimp only;omega, by assumption, hI, hov⟩ (by dsimp only;omega) (fun a F => F.only [6, 5, 0, 1] rfl) (by (try dsimp only);repeat (first | exact .refl _ | with_reducible exact sC0 _ | with_reducible apply sC2 | apply sC1))
 ·refine gR 7 rfl ?_
  exact g_ifF rfl (dqF (by omega)) (gR 2 rfl (g_outX (gR 9 rfl (g_ret1 rfl rfl rfl fun w M => ⟨out, _, es, hOs, hI, hov, M.perm List.perm_append_comm⟩))))
def PhSs (r : Value) (W w' : World) : Prop := ∃ (u : Value) (m : List SrcV) (c : Int) (ent : List (Nat × Obj)), r = .tuple #[u, .int .i64 c] ∧ OwnS 166 38 u m.length (srsC m) ent ∧ (∀ y ∈ m, IsSr y) ∧ m.length ≤ 256 ∧ Mem [] W w' ent
theorem PhSs.zero {c : Int} {W w : World} (E : Ext [] W w) : PhSs (.tuple #[.slice none 0 0, .int .i64 c]) W w := ⟨_, [], c, [], rfl, OwnS.nil _ _, fun y hy => (List.not_mem_nil hy).elim, by simp, Mem.nil E⟩
def PhRs (r : Value) (W w' : World) : Prop := ∃ (u : Value) (m : List RouV) (c : Int) (ent : List (Nat × Obj)), r = .tuple #[u, .int .i64 c] ∧ OwnS 76 39 u m.length (rosC m) ent ∧ (∀ y ∈ m, IsRo y) ∧ m.length ≤ 512 ∧ Mem [] W w' ent
theorem PhRs.zero {c : Int} {W w : World} (E : Ext [] W w) : PhRs (.tuple #[.slice none 0 0, .int .i64 c]) W w := ⟨_, [], c, [], rfl, OwnS.nil _ _, fun y hy => (List.not_mem_nil hy).elim, by simp, Mem.nil E⟩
section
variable {c : Cx} {fr : List (Nat × Value)} {l : Row} {x : RX} {xs : List (Nat × XP)} {ty : TypeId} {pos : String} {af : Array Edge}
theorem opf_stA (i : Nat) {t : TypeId} {y z : Operand} {b off n : Nat} {cs cs' vs : List Value} {t' : TypeId} {l' : Row} [hs : TAgg c.P t n] (hx : Ev fr y = some (.pointer (some ⟨b, off, none⟩))) (hy : Ev fr z = some (.agg vs.toArray)) (hn : vs.length = n) (h1 : vs.all (·.oneCell') = true) (hl : nthO l i = some [(b, .cells cs.toArray t' (0, 0))]) (hp : put cs off vs = some cs') (hl' : setO l i [(b, .cells cs'.toArray t' (0, 0))] = some l') (hB : b ∈ x.B) :
  OpF c x xs ⟨none, .store t y z, ty, pos, af, none⟩ fr l (fun _ r => r = l') := fun a w F M _ => by
 have Mb : Mem [b] w w [(b, .cells cs.toArray t' (0, 0))] := ⟨Ext.refl _ _, fun p hp => by simp at hp;subst hp;exact M.at_ _ (nthO_mem hl), by simp, fun p hp => .inl (by simp at hp;subst hp;simp)⟩
 refine o_storeA Mb (F.e hx) (F.e hy) hn h1 .here hp .here fun w' M' => ?_
 exact ⟨M'.ext.mono fun k hk => by simp at hk;subst hk;exact hB, l', rfl, M.turned (setO_upd hl hl') M'.ext (M'.heap .here)⟩
end
theorem rows_b {a b c d : List (Nat × Obj)} : ([a, b, c, d] : Row).flatten.Perm (([b] : Row).flatten ++ ([a, c, d] : Row).flatten) := by
 simp only [List.flatten_cons, List.flatten_nil, List.append_nil]
 classical
 rw [List.perm_iff_count]
 intro x
 simp only [List.count_append]
 omega
theorem mg_vI {l o : List InsV} {x : InsV} (hv : validIs l = true) (hx : ins1 x = true) (ho : o = mergeG (fun y => cmpN y x) x false l) (hl : o.length ≤ 512) : validIs o = true := mg_valid (n := 512) (e1 := ins1) (cm := cmpN) (fun s => keyD s.to) (fun _ _ => rfl) hv hx ho hl
theorem mg_eqlen {α : Type} {c : α → Int} {x : α} {l o : List α} (h : o = mergeG c x false l) : o.length ≤ l.length + 1 := by
 have := mergeG_len c x (done := false) (l := l)
 rw [h]
 simpa using this
structure GI (y : InsV) : Prop where
 i : IsIn y
 t : validT y.to = true
 n : ¬ y.nb = 0
 d : finD y.own = true
 b : y.btn = -1
 l : y.til = 0
theorem GI.ins {y : InsV} (h : GI y) : ins1 y = true := by
 unfold ins1
 rw [h.t, if_neg h.n, h.d, h.b, h.l]
 rfl
theorem GI.btn {y : InsV} {n : Int} (h : GI y) (ht : isTime n = true) : ins1 { y with btn := n } = true := by
 unfold ins1
 dsimp only
 rw [h.t, if_neg h.n, h.d, h.l, ht]
 simp
theorem GI.til {y : InsV} {n : Int} (h : GI y) (ht : isTime n = true) : ins1 { y with nb := 0, own := { y.own with met := 65535 }, til := n } = true := by
 unfold ins1
 dsimp only
 rw [h.t, if_pos rfl, h.b, ht]
 rfl
theorem putB_c (l : List InsV) (hx : ∀ x ∈ l, IsIn x) (hv : validIs l = true) (hl : l.length ≤ 500) (v : Value) (y : InsV) (nwI : IsIn y) (nwv : ins1 y = true) (W : World) (hS : SlAt W 40 v l.length (insC l)) : Cal Tryz.prog 145 [v, .agg (inC y).toArray].toArray W fun r w' => ∃ (m : List InsV) (ent : List (Nat × Obj)), OwnS 74 40 r m.length (insC m) ent ∧ (∀ y ∈ m, IsIn y) ∧ validIs m = true ∧ m.length ≤ l.length + 1 ∧ Mem [] W w' ent := by
 obtain ⟨q, cap, rfl, _⟩ := id hS
 have hm := hS.memB [] (by simp)
 have yd : IsDv y.to := nwI.1
 refine g_start (n := 45) (S := []) fldT_ok slcT_ok Tryz.func145 rfl rfl rfl (gR 2 rfl (g_box rfl rfl fun b3 => gR 22 rfl (g_pad (g_loop (ι := Nat × Bool × (List InsV) × Value × (List (Nat × Obj))) ⟨fun (i, d, out, u, es) => l.length - i, fun (i, d, out, u, es) => i ≤ l.length ∧ (OwnS 74 40 u out.length (insC out) es) ∧ (out ++ mergeG (fun z => cmpN z y) y d (l.drop i) = mergeG (fun z => cmpN z y) y false l), fun (i, d, out, u, es) => [(12, .int .i64 i), (11, .int .i64 l.length), (10, .slice q l.length cap), (5, u), (6, .bool d), (0, .slice q l.length cap), (3, .pointer (some ⟨b3, 0, none⟩))], fun (i, d, out, u, es) => [es, [(b3, .cells (inC y).toArray 74 (0, 0))]]⟩ (0, false, [], _, []) ⟨by omega, OwnS.nilL _ _ _, rfl⟩ (fun a F => F.only [12, 11, 10, 5, 6, 0, 3] rfl) (by repeat (first | exact .refl _ | apply sC2 | apply sC1)) ?_))))
 rintro ⟨i, d, out, u, es⟩ ⟨hi_i, hOs, hmg⟩
 dsimp only
 by_cases hlt_i : i < l.length
 ·obtain ⟨b, o, cs, t', fz, rfl, hb, hs⟩ := hm (by omega)
  obtain ⟨x, hx0⟩ : ∃ x, x = l[i] := ⟨_, rfl⟩
  have hxm : x ∈ l := by rw [hx0];exact List.getElem_mem hlt_i
  have hxi : IsIn x := hx _ hxm
  have f1 : seg cs (o + (i : Int).toNat * 40) 40 = some (inC x) := by rw [hx0];exact seg_el (ins_len hx) hs hlt_i (by omega)
  have xd : IsDv x.to := hxi.1
  have hol2 : out.length ≤ l.length + 1 := mg_len hmg (Nat.lt_succ_self _)
  have hol4 : (out ++ [(y : InsV)]).length = out.length + 1 := by simp
  refine gR 6 rfl (g_ifT rfl (dqT (by omega)) (gR 6 rfl (g_ixS rfl rfl (by omega) (by omega) (g_leA rfl ‹_› (by with_reducible assumption) ?_))))
  refine g_alloc fun b8 => g_stA 0 rfl rfl (in_len ‹_›) (in_one _) rfl (put_all (by rw [in_len ‹_›];first | rfl | rw [in_len ‹_›])) rfl ?_
  refine gR 5 rfl (g_ldA 0 rfl rfl (in_to ‹_›) ?_)
  refine gR 1 rfl (g_ldA 2 rfl rfl (in_to ‹_›) ?_)
  refine g_call rfl rfl (fun w M => rcompare_c _ _ ‹_› ‹_› _) ?_
  refine gR 9 rfl (g_split 23 rfl (fun h1 => ?_) (fun h1 => ?_))
  ·replace h1 := dqU h1
   refine gR 5 rfl (g_if rfl (fun h2 => ?_) (fun h2 => ?_))
   ·replace h2 := false_of_not h2
    refine gR 3 rfl (g_ldA 2 rfl rfl (in_all ‹_›) ?_)
    refine g_bs rfl rfl rfl (in_build1 ‹_›) (fun b29 => ?_)
    refine g_app 2 0 (enc := inC) rfl rfl ‹_› rfl rfl (in_len ‹_›) (by first | omega | (simp only [List.length_nil];omega)) (fun _ => rfl) (fun v30 es30 hO30 => ?_) (in_one _)
    refine gR 13 rfl (g_if rfl (fun h3 => ?_) (fun h3 => ?_))
    ·replace h3 := ne_of_bne h3
     refine gR 2 rfl (g_ldA 1 rfl rfl (in_all ‹_›) ?_)
     refine g_bs rfl rfl rfl (in_build1 ‹_›) (fun b35 => ?_)
     refine g_app 3 0 (enc := inC) rfl rfl ‹_› rfl rfl (in_len ‹_›) (by first | omega | (simp only [List.length_nil];omega)) (fun _ => rfl) (fun v36 es36 hO36 => ?_) (in_one _)
     refine gR 5 rfl (g_add rfl rfl (w_i64 (by omega) (by omega)) (gR 2 rfl ?_))
     exact g_next (i + 1, true, (out ++ [y]) ++ [x], _, _) ⟨by dsimp only;omega, by assumption, mg1 hmg hlt_i hx0.symm ‹_› (by show 0 ≤ cmpD x.to y.to;omega) (by show ¬ cmpD x.to y.to = 0;omega)⟩ (by dsimp only;omega) (fun a F => F.only [12, 11, 10, 5, 6, 0, 3] rfl) (by (try dsimp only);repeat (first | exact .refl _ | with_reducible exact sC0 _ | with_reducible apply sC2 | apply sC1))
    ·replace h3 := eq_of_bne_false h3
     refine gR 4 rfl (g_add rfl rfl (w_i64 (by omega) (by omega)) (gR 2 rfl ?_))
     exact g_next (i + 1, true, out ++ [y], _, _) ⟨by dsimp only;omega, by assumption, mg2 hmg hlt_i hx0.symm ‹_› (by show cmpD x.to y.to = 0;omega)⟩ (by dsimp only;omega) (fun a F => F.only [12, 11, 10, 5, 6, 0, 3] rfl) (by (try dsimp only);repeat (first | exact .refl _ | with_reducible exact sC0 _ | with_reducible apply sC2 | apply sC1))
   ·replace h2 := true_of_not h2
    refine gR 8 rfl (g_if rfl (fun h3 => ?_) (fun h3 => ?_))
    ·replace h3 := ne_of_bne h3
     refine gR 2 rfl (g_ldA 0 rfl rfl (in_all ‹_›) ?_)
     refine g_bs rfl rfl rfl (in_build1 ‹_›) (fun b35 => ?_)
     refine g_app 2 0 (enc := inC) rfl rfl ‹_› rfl rfl (in_len ‹_›) (by first | omega | (simp only [List.length_nil];omega)) (fun _ => rfl) (fun v36 es36 hO36 => ?_) (in_one _)
     refine gR 5 rfl (g_add rfl rfl (w_i64 (by omega) (by omega)) (gR 2 rfl ?_))
     exact g_next (i + 1, d, out ++ [x], _, _) ⟨by dsimp only;omega, by assumption, mg3 hmg hlt_i hx0.symm (by first | exact .inl ‹_› | exact .inr (by show cmpD x.to y.to < 0;omega)) (by show ¬ cmpD x.to y.to = 0;omega)⟩ (by dsimp only;omega) (fun a F => F.only [12, 11, 10, 5, 6, 0, 3] rfl) (by (try dsimp only);repeat (first | exact .refl _ | with_reducible exact sC0 _ | with_reducible apply sC2 | apply sC1))
    ·replace h3 := eq_of_bne_false h3
     refine gR 4 rfl (g_add rfl rfl (w_i64 (by omega) (by omega)) (gR 2 rfl ?_))
     exact g_next (i + 1, d, out, _, _) ⟨by dsimp only;omega, by assumption, mg4 hmg hlt_i hx0.symm ‹_› (by show cmpD x.to y.to = 0;omega)⟩ (by dsimp only;omega) (fun a F => F.only [12, 11, 10, 5, 6, 0, 3] rfl) (by (try dsimp only);repeat (first | exact .refl _ | with_reducible exact sC0 _ | with_reducible apply sC2 | apply sC1))
  ·replace h1 := dqV h1
   refine gR 14 rfl (g_ifT rfl (bne_iff_ne.2 (by omega)) (gR 2 rfl (g_ldA 0 rfl rfl (in_all ‹_›) ?_)))
   refine g_bs rfl rfl rfl (in_build1 ‹_›) (fun b35 => ?_)
   refine g_app 2 0 (enc := inC) rfl rfl ‹_› rfl rfl (in_len ‹_›) (by first | omega | (simp only [List.length_nil];omega)) (fun _ => rfl) (fun v36 es36 hO36 => ?_) (in_one _)
   refine gR 5 rfl (g_add rfl rfl (w_i64 (by omega) (by omega)) (gR 2 rfl ?_))
   exact g_next (i + 1, d, out ++ [x], _, _) ⟨by dsimp only;omega, by assumption, mg3 hmg hlt_i hx0.symm (by first | exact .inl ‹_› | exact .inr (by show cmpD x.to y.to < 0;omega)) (by show ¬ cmpD x.to y.to = 0;omega)⟩ (by dsimp only;omega) (fun a F => F.only [12, 11, 10, 5, 6, 0, 3] rfl) (by (try dsimp only);repeat (first | exact .refl _ | with_reducible exact sC0 _ | with_reducible apply sC2 | apply sC1))
 ·have hli : i = l.length := by omega
  have hol2 : out.length ≤ l.length + 1 := mg_len hmg (Nat.lt_succ_self _)
  obtain ⟨q4, c4, rfl, hq4⟩ := own_q hOs
  refine gR 6 rfl (g_ifF rfl (dqF (by omega)) (gR 2 rfl (g_outX (gR 9 rfl (g_if rfl (fun h1 => ?_) (fun h1 => ?_))))))
  ·replace h1 := false_of_not h1
   refine gR 2 rfl (g_ldA 1 rfl rfl (in_all ‹_›) ?_)
   refine g_bs rfl rfl rfl (in_build1 ‹_›) (fun b42 => ?_)
   refine g_app 1 0 (enc := inC) rfl rfl ‹_› rfl rfl (in_len ‹_›) (by first | omega | (simp only [List.length_nil];omega)) (fun _ => rfl) (fun v43 es43 hO43 => ?_) (in_one _)
   exact gR 10 rfl (g_ret1 rfl rfl rfl fun w M => ⟨out ++ [y], _, by assumption, mg_is hx nwI (mgE0 hmg hli ‹_›), mg_vI hv nwv (mgE0 hmg hli ‹_›) (Nat.le_trans (mg_eqlen (mgE0 hmg hli ‹_›)) (by omega)), mg_eqlen (mgE0 hmg hli ‹_›), M.sub (List.sublist_flatten_of_mem (by simp))⟩)
  ·replace h1 := true_of_not h1
   exact gR 9 rfl (g_ret1 rfl rfl rfl fun w M => ⟨out, _, by assumption, mg_is hx nwI (mgE1 hmg hli ‹_›), mg_vI hv nwv (mgE1 hmg hli ‹_›) (Nat.le_trans (mg_eqlen (mgE1 hmg hli ‹_›)) (by omega)), mg_eqlen (mgE1 hmg hli ‹_›), M.sub (List.sublist_flatten_of_mem (by simp))⟩)
theorem rou1_nb {z : RouV} (h : rou1 z = true) : validT z.to = true ∧ ¬ z.nb = 0 := by
 unfold rou1 at h
 simp only [Bool.and_eq_true, Bool.not_eq_true', decide_eq_false_iff_not] at h
 exact ⟨h.1.1.1, h.1.1.2⟩
theorem installedB_c {bt : Nat} {p : Option Addr} {len cap k : Nat} {xs : List Int} (now : Int) (hnow : 0 ≤ now ∧ now ≤ 1099511627776) (rl : List RouV) (hrx : ∀ x ∈ rl, IsRo x) (hrv : ∀ x ∈ rl, rou1 x = true) (hrl : rl.length ≤ 1000) (v : Value) (W : World) (hS : SlAt W 39 v rl.length (rosC rl)) (hv : NewV (bt + 1) v) (hT : TapeS W bt p len xs) (hb : W.heap[bt]? = some (tobj p len cap k)) : Cal Tryz.prog 62 [.pointer (some ⟨bt, 0, none⟩), .int .i64 now, v].toArray W fun r w' => ∃ (l : List InsV) (k' : Nat) (ent : List (Nat × Obj)), OwnS 74 40 r l.length (insC l) ent ∧ (∀ x ∈ l, IsIn x) ∧ validIs l = true ∧ l.length ≤ 7 ∧ Mem [bt] W w' ((bt, tobj p len cap k') :: ent) := by
 obtain ⟨qr, cr, rfl, _⟩ := id hS
 have hm := hS.memB [bt] (fun b o s e hb => by have := hv b o s _ _ (by rw [e]);simp at hb;omega)
 have n5 := nxV_bd xs k (n := 8) (by omega)
 refine g_startB (n := 65) [bt] hb (by simp) fldT_ok slcT_ok Tryz.func62 rfl rfl rfl (gR 14 rfl (g_callT1 0 rfl rfl rfl (fun w M => next_c _ (by omega) (by omega) w (hT.later M.ext) (M.at_ _ (nthO_mem (i := 0) rfl))) rfl (gR 4 rfl (g_pad ?_))))
 refine g_loop (ι := Int × (List InsV) × Value × (List (Nat × Obj)) × Nat) ⟨fun (d, out, u, es, k) => d.toNat, fun (d, out, u, es, k) => 0 ≤ d ∧ d ≤ 7 ∧ OwnS 74 40 u out.length (insC out) es ∧ (∀ y ∈ out, IsIn y) ∧ validIs out = true ∧ (out.length : Int) + d ≤ 7, fun (d, out, u, es, k) => [(8, .int .i64 d), (7, u), (0, .pointer (some ⟨bt, 0, none⟩)), (1, .int .i64 now), (2, .slice qr rl.length cr)], fun (d, out, u, es, k) => [es, [(bt, tobj p len cap k)]]⟩ (_, [], _, [], _) ⟨by first | omega | (dsimp only;omega), by first | omega | (dsimp only;omega), OwnS.nilL _ _ _, fun y hy => (List.not_mem_nil hy).elim, rfl, by first | (simp;omega) | (dsimp only;simp;omega)⟩ (fun a F => F.only [8, 7, 0, 1, 2] rfl) (by repeat (first | exact .refl _ | apply sC2 | apply sC1)) ?_
 clear n5
 rintro ⟨d, out, u, es, k⟩ ⟨hd0, hd, hOs, hI, hov, hol⟩
 dsimp only at hd0 hd hOs hI hov hol ⊢
 by_cases hlt : 0 < d
 ·refine gR 7 rfl ?_
  refine g_ifT rfl (dqT (by omega)) (gR 7 rfl ?_)
  refine g_callT (ι := DstV × Nat) 1 (fun j => dvV j.1) (fun j => IsDv j.1 ∧ validT j.1 = true) (fun j => tobj p len cap j.2) (fun _ => []) rfl rfl rfl (fun w M => Cal.mono (toE_c w (hT.later M.ext) (M.at_ _ (nthO_mem (i := 1) rfl))) fun r w' h => by
    obtain ⟨x, k', q, h1, h2, N⟩ := h
    exact ⟨(x, k'), q, ⟨h1, h2⟩, by simpa using N⟩) (fun _ => rfl) ?_
  rintro ⟨x, k2⟩ ⟨xd, xv⟩
  dsimp only [List.nil_append] at xd xv ⊢
  unfold dvV
  refine gR 1 rfl ?_
  refine g_callT (ι := Int × Nat) 1 (fun j => .int .u64 j.1) (fun j => 1 ≤ j.1 ∧ j.1 ≤ 5) (fun j => tobj p len cap j.2) (fun _ => []) rfl rfl rfl (fun w M => Cal.mono (euiB_c w (hT.later M.ext) (M.at_ _ (nthO_mem (i := 1) rfl))) fun r w' h => by
    obtain ⟨x, k', q, h1, N⟩ := h
    exact ⟨(x, k'), q, h1, by simpa using N⟩) (fun _ => rfl) ?_
  rintro ⟨nb, k3⟩ nbv
  dsimp only [List.nil_append] at nbv ⊢
  refine gR 1 rfl ?_
  refine g_callT (ι := DisV × Nat) 1 (fun j => diV j.1) (fun j => finD j.1 = true) (fun j => tobj p len cap j.2) (fun _ => []) rfl rfl rfl (fun w M => Cal.mono (distE_c w (hT.later M.ext) (M.at_ _ (nthO_mem (i := 1) rfl))) fun r w' h => by
    obtain ⟨x, k', q, h1, N⟩ := h
    exact ⟨(x, k'), q, fin_of h1, by simpa using N⟩) (fun _ => rfl) ?_
  rintro ⟨di, k4⟩ div
  dsimp only [List.nil_append] at div ⊢
  unfold diV
  have hmk := in_mk x xd nb di (-1) 0
  have y0 : GI ⟨x, nb, di, -1, 0⟩ := ⟨⟨xd, trivial⟩, xv, by dsimp only;omega, div, rfl, rfl⟩
  refine g_v (fun a w F M R r => o_build F rfl (in_mk4 _ ‹_› _ _ _) r) ?_
  refine g_alloc fun b9 => g_stA 0 rfl rfl (in_len ⟨by assumption, trivial⟩) (in_one _) rfl (put_all (by rw [in_len ⟨by assumption, trivial⟩];first | rfl | rw [in_len ‹_›])) rfl ?_
  refine gR 3 rfl (g_cutC (ι := InsV × Nat) ⟨fun (y, k) => GI y, fun (y, k) => [(9, .pointer (some ⟨b9, 0, none⟩)), (8, .int .i64 d), (7, u), (0, .pointer (some ⟨bt, 0, none⟩)), (1, .int .i64 now), (2, .slice qr rl.length cr)], fun (y, k) => [[(b9, .cells (inC y).toArray 74 (0, 0))], es, [(bt, tobj p len cap k)]]⟩ ?_ ?_)
  ·by_cases hr : 0 < rl.length
   ·obtain ⟨br, orr, csr, tr, fzr, rfl, hbr, hsr⟩ := hm hr
    refine gR 6 rfl (g_know 27 rfl (dqT (by omega)) (gR 1 rfl (g_callT1 2 rfl rfl rfl (fun w M => bool_c _ (by omega) (by omega) w (hT.later M.ext) (M.at_ _ (nthO_mem (i := 2) rfl))) rfl (gR 3 rfl (g_if rfl (fun h1 => ?_) (fun h1 => ?_))))))
    focus
     replace h1 := dqU h1
     refine gR 6 rfl ?_
    rotate_left 1
    focus
     replace h1 := dqV h1
     exact gR 1 rfl (g_join (⟨x, nb, di, -1, 0⟩, _) y0 (fun a F => F.only [9, 8, 7, 0, 1, 2] rfl) (by (try dsimp only);repeat (first | exact .refl _ | with_reducible exact sC0 _ | with_reducible apply sC2 | apply sC1)))
    refine g_callT (ι := Int × Nat) 2 (fun j => .int .i64 j.1) (fun j => 0 ≤ j.1 ∧ j.1 < rl.length) (fun j => tobj p len cap j.2) (fun _ => []) rfl rfl rfl (fun w M => Cal.mono (next_c (rl.length : Int) (by omega) (by omega) w (hT.later M.ext) (M.at_ _ (nthO_mem (i := 2) rfl))) fun r w2 h => ⟨(_, _), h.1, nxV_bd xs _ (by omega), by simpa using h.2⟩) (fun _ => rfl) ?_
    rintro ⟨j, k5⟩ ⟨j0, j1⟩
    dsimp only [List.nil_append] at j0 j1 ⊢
    obtain ⟨z, hz⟩ : ∃ z, z = rl[j.toNat]'(by omega) := ⟨_, rfl⟩
    have zI : IsRo z := by rw [hz];exact hrx _ (List.getElem_mem _)
    have fz1 : seg csr (orr + j.toNat * 39) 39 = some (roC z) := by rw [hz];exact seg_el (ros_len hrx) hsr (by omega) (by omega)
    have zd : IsDv z.to := zI.1
    have y1 : IsIn ⟨z.to, nb, di, -1, 0⟩ := ⟨zd, trivial⟩
    obtain ⟨zv, zn⟩ := rou1_nb (hrv z (by rw [hz];exact List.getElem_mem _))
    refine g_ixS rfl rfl (by omega) (by omega) (g_leA rfl ‹_› (by with_reducible assumption) ?_)
    refine g_alloc fun b10 => g_stA 0 rfl rfl (ro_len ‹_›) (ro_one _) rfl (put_all (by rw [ro_len ‹_›];first | rfl | rw [ro_len ‹_›])) rfl ?_
    refine gR 2 rfl (gR 1 rfl (g_drawE 6 65 [b9] [5] [] [[(b9, .cells (inC ⟨x, nb, di, -1, 0⟩).toArray 74 (0, 0))]] [[(b10, .cells (roC z).toArray 76 (0, 0))], es, [(bt, tobj p len cap k5)]] rfl (by kernel_rfl) rows_b (by simp) (fe_start ?_)))
    refine fe_run 60 rfl (fe_v (fun a2 w F M R r => o_loadHA (F.e rfl) (M.at_ _ (nthO_mem (i := 0) rfl)) (ro_to zI) r) (fe_run 60 rfl (fe_v (fun a2 w F M R r => o_loadH1 (F.e rfl) (M.at_ _ (nthO_mem (i := 0) rfl)) (ro_nb zI) r) (fe_run 60 rfl (fe_opN (fun _ => [[(b10, .cells (roC z).toArray 76 (0, 0))], [(b9, .cells (inC ⟨z.to, nb, di, -1, 0⟩).toArray 74 (0, 0))], es, [(bt, tobj p len cap k5)]]) [] (fun i hi => ?_) ?_)))))
    ·exact opf_stA 1 rfl rfl (dv_len zd) (dv_one _) rfl (in_put_to y0.i zd) rfl (.head _)
    refine fe_fin rfl (by rintro i _ q hq;simp at hq) ?_
    rintro _ _
    refine ⟨_, rfl, ?_⟩
    refine gR 1 rfl (g_st1 1 rfl rfl rfl rfl (in_put_nb ‹_› _) rfl ?_)
    exact gR 1 rfl (g_join (⟨z.to, z.nb, di, -1, 0⟩, _) ⟨⟨zd, trivial⟩, zv, zn, div, rfl, rfl⟩ (fun a F => F.only [9, 8, 7, 0, 1, 2] rfl) (by (try dsimp only);repeat (first | exact .refl _ | with_reducible exact sC0 _ | with_reducible apply sC2 | apply sC1)))
   ·refine gR 6 rfl ?_
    exact g_know 27 rfl (dqF (by omega)) (gR 7 rfl (g_join (⟨x, nb, di, -1, 0⟩, _) y0 (fun a F => F.only [9, 8, 7, 0, 1, 2] rfl) (by (try dsimp only);repeat (first | exact .refl _ | with_reducible exact sC0 _ | with_reducible apply sC2 | apply sC1))))
  rintro ⟨y, k5⟩ yI
  dsimp only at yI ⊢
  have yI0 : IsIn y := yI.i
  have n3 := nxV_bd xs k5 (n := 3) (by omega)
  refine gR 5 rfl (g_callT1 2 rfl rfl rfl (fun w M => next_c _ (by omega) (by omega) w (hT.later M.ext) (M.at_ _ (nthO_mem (i := 2) rfl))) rfl (gR 3 rfl (g_cutC (ι := InsV × Nat) ⟨fun (y, k) => IsIn y ∧ ins1 y = true, fun (y, k) => [(9, .pointer (some ⟨b9, 0, none⟩)), (8, .int .i64 d), (7, u), (0, .pointer (some ⟨bt, 0, none⟩)), (1, .int .i64 now), (2, .slice qr rl.length cr)], fun (y, k) => [[(b9, .cells (inC y).toArray 74 (0, 0))], es, [(bt, tobj p len cap k)]]⟩ ?_ ?_)))
  ·refine gR 6 rfl ?_
   refine g_if rfl (fun h1 => ?_) (fun h1 => ?_)
   focus
    replace h1 := dqU h1
    refine gR 3 rfl ?_
   rotate_left 1
   focus
    replace h1 := dqV h1
    refine gR 6 rfl (g_if rfl (fun h2 => ?_) (fun h2 => ?_))
    focus
     replace h2 := dqU h2
     refine gR 3 rfl ?_
    rotate_left 1
    focus
     replace h2 := dqV h2
     exact gR 1 rfl (g_join (y, _) ⟨yI.i, yI.ins⟩ (fun a F => F.only [9, 8, 7, 0, 1, 2] rfl) (by (try dsimp only);repeat (first | exact .refl _ | with_reducible exact sC0 _ | with_reducible apply sC2 | apply sC1)))
   rotate_right 1
   ·refine g_callT (ι := Int × Nat) 2 (fun j => .int .i64 j.1) (fun j => isTime j.1 = true) (fun j => tobj p len cap j.2) (fun _ => []) rfl rfl rfl (fun w M => Cal.mono (wtimeE_c now hnow.1 hnow.2 w (hT.later M.ext) (M.at_ _ (nthO_mem (i := 2) rfl))) fun r w' h => by
      obtain ⟨x, k', q, h1, N⟩ := h
      exact ⟨(x, k'), q, h1, by simpa using N⟩) (fun _ => rfl) ?_
    rintro ⟨tm, k6⟩ tmv
    dsimp only [List.nil_append] at tmv ⊢
    refine gR 1 rfl (g_st1 0 rfl rfl rfl rfl (in_put_btn ‹_› _) rfl ?_)
    exact gR 1 rfl (g_join ({ y with btn := tm }, _) ⟨yI.i, yI.btn tmv⟩ (fun a F => F.only [9, 8, 7, 0, 1, 2] rfl) (by (try dsimp only);repeat (first | exact .refl _ | with_reducible exact sC0 _ | with_reducible apply sC2 | apply sC1)))
   ·refine g_callT (ι := Int × Nat) 2 (fun j => .int .i64 j.1) (fun j => isTime j.1 = true) (fun j => tobj p len cap j.2) (fun _ => []) rfl rfl rfl (fun w M => Cal.mono (wtimeE_c now hnow.1 hnow.2 w (hT.later M.ext) (M.at_ _ (nthO_mem (i := 2) rfl))) fun r w' h => by
      obtain ⟨x, k', q, h1, N⟩ := h
      exact ⟨(x, k'), q, h1, by simpa using N⟩) (fun _ => rfl) ?_
    rintro ⟨tm, k6⟩ tmv
    dsimp only [List.nil_append] at tmv ⊢
    refine gR 1 rfl (g_st1 0 rfl rfl rfl rfl (in_put_nb ‹_› _) rfl ?_)
    refine gR 2 rfl (g_st1 0 rfl rfl rfl rfl (in_put_own_met ‹_› _) rfl ?_)
    refine gR 1 rfl (g_st1 0 rfl rfl rfl rfl (in_put_til ‹_› _) rfl ?_)
    exact gR 1 rfl (g_join ({ y with nb := 0, own := { y.own with met := 65535 }, til := tm }, _) ⟨⟨yI.i.1, trivial⟩, yI.til tmv⟩ (fun a F => F.only [9, 8, 7, 0, 1, 2] rfl) (by (try dsimp only);repeat (first | exact .refl _ | with_reducible exact sC0 _ | with_reducible apply sC2 | apply sC1)))
  rintro ⟨y, k6⟩ ⟨yI, yv⟩
  dsimp only at yI yv ⊢
  refine gR 4 rfl (g_ldA 0 rfl rfl (in_all ‹_›) ?_)
  refine g_callN (ι := Value × (List InsV) × List (Nat × Obj)) (fun j => j.1) (fun j => OwnS 74 40 j.1 j.2.1.length (insC j.2.1) j.2.2 ∧ (∀ y ∈ j.2.1, IsIn y) ∧ validIs j.2.1 = true ∧ j.2.1.length ≤ out.length + 1) (fun j => [j.2.2]) rfl rfl (fun w M => Cal.mono (putB_c out hI hov (by omega) u y yI yv w (hOs.slAt M (fun q hq => by simp [hq]))) fun r w' h => by
   obtain ⟨m, ent, h1, h2, h3, h4, N⟩ := h
   exact ⟨(r, m, ent), rfl, ⟨h1, h2, h3, h4⟩, by simpa using N⟩) ?_
  rintro ⟨u1, m1, e1⟩ ⟨hO1, hI1, hv1, hl1⟩
  dsimp only [List.cons_append, List.nil_append] at hO1 hI1 hv1 hl1 ⊢
  refine gR 6 rfl (g_sub rfl rfl (w_i64 (by omega) (by omega)) (gR 2 rfl ?_))
  exact g_next (d - 1, m1, _, _, _) ⟨by dsimp only;omega, by dsimp only;omega, by assumption, hI1, hv1, by dsimp only;omega⟩ (by dsimp only;omega) (fun a F => F.only [8, 7, 0, 1, 2] rfl) (by (try dsimp only);repeat (first | exact .refl _ | with_reducible exact sC0 _ | with_reducible apply sC2 | apply sC1))
 ·refine gR 7 rfl ?_
  exact g_ifF rfl (dqF (by omega)) (gR 2 rfl (g_outX (gR 9 rfl (g_ret1 rfl rfl rfl fun w M => ⟨out, _, es, hOs, hI, hov, by omega, M.perm List.perm_append_comm⟩))))
theorem validRqs_iff {l : List ReqV} : validRqs l = true ↔ l.length ≤ 64 ∧ (∀ a ∈ l, req1 a = true) ∧ AscC cmpRq l := vldL_iff (fun _ _ _ h k => cmpD_trans h k)
theorem mg_vQ {l o : List ReqV} {x : ReqV} (hv : validRqs l = true) (hx : req1 x = true) (ho : o = mergeG (fun y => cmpRq y x) x false l) (hl : o.length ≤ 64) : validRqs o = true := mg_valid (n := 64) (e1 := req1) (cm := cmpRq) (fun s => keyD s.to) (fun _ _ => rfl) hv hx ho hl
theorem req1_mk {t : DstV} {a b c n : Int} (h1 : validT t = true) (h2 : 1 ≤ b) (h3 : b ≤ 32) (h4 : isTime n = true) : req1 ⟨t, a, b, c, n, 3⟩ = true := by
 unfold req1
 rw [h1, dqT h2, dqT h3, h4]
 rfl
theorem vRq_set {l : List ReqV} (h : validRqs l = true) {i : Nat} (hi : i < l.length) {n : Int} (h1 : 1 ≤ n) (h3 : n ≤ 3) : validRqs (l.set i { l[i] with left := n }) = true := by
 obtain ⟨g1, g2, g3⟩ := validRqs_iff.1 h
 refine validRqs_iff.2 ⟨by simpa using g1, fun a ha => ?_, ?_⟩
 ·rcases List.mem_or_eq_of_mem_set ha with k | rfl
  ·exact g2 a k
  ·have := g2 l[i] (List.getElem_mem hi)
   unfold req1 at this ⊢
   simp only [Bool.and_eq_true, decide_eq_true_eq] at this ⊢
   exact ⟨⟨this.1.1, h1⟩, h3⟩
 ·have e : (l.set i { l[i] with left := n }).map (·.to) = l.map (·.to) := by
   rw [List.map_set, show ({ l[i] with left := n } : ReqV).to = (l.map (·.to))[i]'(by simpa using hi) by simp]
   exact List.set_getElem_self _
  have a : ∀ m : List ReqV, AscC cmpRq m ↔ AscD (m.map (·.to)) := fun m => by
   unfold AscC AscD AscC
   rw [List.pairwise_map]
   rfl
  rw [a, e, ← a]
  exact g3
def PhRv2 (r : Value) (W w' : World) : Prop := ∃ (u : Value) (m : List ReqV) (d : Bool) (c : Int) (ent : List (Nat × Obj)), r = .tuple #[u, .bool d, .int .i64 c] ∧ OwnS 171 40 u m.length (rqsC m) ent ∧ (∀ y ∈ m, IsRq y) ∧ validRqs m = true ∧ Mem [] W w' ent
theorem PhRv2.zero {c : Int} {W w : World} (E : Ext [] W w) : PhRv2 (.tuple #[.slice none 0 0, .bool false, .int .i64 c]) W w := ⟨_, [], false, c, [], rfl, OwnS.nil _ _, fun y hy => (List.not_mem_nil hy).elim, rfl, Mem.nil E⟩
theorem refAddB_c (l : List ReqV) (hx : ∀ x ∈ l, IsRq x) (hv : validRqs l = true) (v : Value) (now : Int) (htm : isTime now = true) (to : DstV) (td : IsDv to) (htv : validT to = true) (seq hops frm : Int) (hh1 : 1 ≤ hops) (hh2 : hops ≤ 32) (W : World) (hS : SlAt W 40 v l.length (rqsC l)) : Cal Tryz.prog 146 [v, .int .i64 now, .agg (dvC to).toArray, .int .u16 seq, .int .i64 hops, .int .u64 frm].toArray W fun r w' => PhRv2 r W w' := by
 obtain ⟨q, cap, rfl, _⟩ := id hS
 have hm := hS.memB [] (by simp)
 have nwI : IsRq (⟨to, seq, hops, frm, laterV now 3, 3⟩ : ReqV) := td
 have nwv := req1_mk (a := seq) (c := frm) htv hh1 hh2 (later_time htm (d := 3) (by omega))
 have hl64 := (validRqs_iff.1 hv).1
 obtain ⟨hn0, hn1⟩ := isTime_bd htm
 refine g_start (n := 95) (S := []) fldT_ok slcT_ok Tryz.func146 rfl rfl rfl (gR 2 rfl (g_box rfl rfl fun b8 => gR 9 rfl (g_call rfl rfl (fun w M => refvalidQ_c _ ‹_› _ _ ((by assumption : SlAt _ _ _ _ _).later M.ext)) ?_)))
 refine gR 2 rfl (g_know 24 rfl (notF ‹_›) ?_)
 refine g_ldA 0 rfl rfl (dv_all ‹_›) ?_
 refine g_call rfl rfl (fun w M => rvalidTo_c _ ‹_› _) ?_
 refine gR 4 rfl (g_ifF rfl (notF ‹_›) ?_)
 refine gR 6 rfl (g_call rfl rfl (fun w M => risTime_c _ _) (gR 2 rfl (g_know 32 rfl (notF ‹_›) ?_)))
 refine gR 4 rfl (g_know 36 rfl (dqF (by omega)) (gR 5 rfl (g_ifF rfl (dqF (by omega)) (gR 3 rfl (g_draw 8 95 rfl (by kernel_rfl) (fd_ldA 0 rfl rfl (dv_all ‹_›) ?_))))))
 refine fR 4 rfl (fd_call rfl rfl (fun w M => rafter_c _ _ ‹_› ‹_› (by omega) (by omega) _) ?_)
 refine fd_v (fun a w F M R r => o_build F rfl (rq_mkA _ ‹_› _ _ _ _ _) r) ?_
 refine fd_al fun b15 => g_stA 0 rfl rfl (rq_len ‹_›) (rq_one _) rfl (put_all (by rw [rq_len ‹_›];first | rfl | rw [rq_len ‹_›])) rfl ?_
 refine gR 21 rfl (g_pad ?_)
 refine g_loop (ι := Nat × Bool × (List ReqV) × Value × (List (Nat × Obj))) ⟨fun (i, d, out, u, es) => l.length - i, fun (i, d, out, u, es) => i ≤ l.length ∧ (OwnS 171 40 u out.length (rqsC out) es) ∧ (out ++ mergeG (fun y => cmpRq y (⟨to, seq, hops, frm, laterV now 3, 3⟩ : ReqV)) (⟨to, seq, hops, frm, laterV now 3, 3⟩ : ReqV) d (l.drop i) = mergeG (fun y => cmpRq y (⟨to, seq, hops, frm, laterV now 3, 3⟩ : ReqV)) (⟨to, seq, hops, frm, laterV now 3, 3⟩ : ReqV) false l), fun (i, d, out, u, es) => [(49, .int .i64 i), (48, .int .i64 l.length), (47, .slice q l.length cap), (16, u), (17, .bool d), (0, .slice q l.length cap), (8, .pointer (some ⟨b8, 0, none⟩)), (3, .int .u16 seq), (15, .pointer (some ⟨b15, 0, none⟩))], fun (i, d, out, u, es) => [es, [(b15, .cells (rqC (⟨to, seq, hops, frm, laterV now 3, 3⟩ : ReqV)).toArray 171 (0, 0))], [(b8, .cells (dvC to).toArray 67 (0, 0))]]⟩ (0, false, [], _, []) ⟨by omega, OwnS.nilL _ _ _, rfl⟩ (fun a F => F.only [49, 48, 47, 16, 17, 0, 8, 3, 15] rfl) (by repeat (first | exact .refl _ | apply sC2 | apply sC1)) ?_
 rintro ⟨i, d, out, u, es⟩ ⟨hi_i, hOs, hmg⟩
 dsimp only
 by_cases hlt_i : i < l.length
 ·obtain ⟨b, o, cs, t', fz, rfl, hb, hs⟩ := hm (by omega)
  obtain ⟨x, hx0⟩ : ∃ x, x = l[i] := ⟨_, rfl⟩
  have hxm : x ∈ l := by rw [hx0];exact List.getElem_mem hlt_i
  have hxi : IsRq x := hx _ hxm
  have f1 : seg cs (o + (i : Int).toNat * 40) 40 = some (rqC x) := by rw [hx0];exact seg_el (rqs_len hx) hs hlt_i (by omega)
  have xd : IsDv x.to := hxi
  have hol2 : out.length ≤ 100 := mg_len hmg (by omega)
  have hol4 : (out ++ [((⟨to, seq, hops, frm, laterV now 3, 3⟩ : ReqV) : ReqV)]).length = out.length + 1 := by simp
  refine gR 6 rfl (g_ifT rfl (dqT (by omega)) (gR 6 rfl (g_ixS rfl rfl (by omega) (by omega) (g_leA rfl ‹_› (by with_reducible assumption) ?_))))
  refine g_alloc fun b19 => g_stA 0 rfl rfl (rq_len ‹_›) (rq_one _) rfl (put_all (by rw [rq_len ‹_›];first | rfl | rw [rq_len ‹_›])) rfl ?_
  refine gR 5 rfl (g_ldA 0 rfl rfl (rq_to ‹_›) ?_)
  refine g_ldA 3 rfl rfl (dv_all ‹_›) ?_
  refine g_call rfl rfl (fun w M => rcompare_c _ _ ‹_› ‹_› _) ?_
  refine gR 9 rfl (g_split 59 rfl (fun h1 => ?_) (fun h1 => ?_))
  focus
   replace h1 := dqU h1
   refine gR 2 rfl (g_ld1 0 rfl rfl (rq_seq ‹_›) ?_)
   refine g_call rfl rfl (fun w M => rnewer_c _ _ _) (gR 4 rfl (g_if rfl (fun h2 => ?_) (fun h2 => ?_)))
   focus
    replace h2 := false_of_not h2
    refine gR 3 rfl ?_
   rotate_left 1
   focus
    replace h2 := true_of_not h2
    refine gR 8 rfl (g_know 70 rfl (dqT (by omega)) (gR 5 rfl (g_if rfl (fun h3 => ?_) (fun h3 => ?_))))
    ·replace h3 := false_of_not h3
     refine gR 3 rfl (g_ldA 2 rfl rfl (rq_all ‹_›) ?_)
     refine g_bs rfl rfl rfl (rq_build1 ‹_›) (fun b76 => ?_)
     refine g_app 2 0 (enc := rqC) rfl rfl ‹_› rfl rfl (rq_len ‹_›) (by first | omega | (simp only [List.length_nil];omega)) (fun _ => rfl) (fun v77 es77 hO77 => ?_) (rq_one _)
     refine gR 13 rfl (g_ifF rfl (bneF (by omega)) (gR 4 rfl (g_add rfl rfl (w_i64 (by omega) (by omega)) (gR 2 rfl ?_))))
     exact g_next (i + 1, true, out ++ [(⟨to, seq, hops, frm, laterV now 3, 3⟩ : ReqV)], _, _) ⟨by dsimp only;omega, by assumption, mg2 hmg hlt_i hx0.symm ‹_› (by show cmpD x.to to = 0;omega)⟩ (by dsimp only;omega) (fun a F => F.only [49, 48, 47, 16, 17, 0, 8, 3, 15] rfl) (by (try dsimp only);repeat (first | exact .refl _ | with_reducible exact sC0 _ | with_reducible apply sC2 | apply sC1))
    ·replace h3 := true_of_not h3
     refine gR 8 rfl (g_ifF rfl (bneF (by omega)) (gR 4 rfl (g_add rfl rfl (w_i64 (by omega) (by omega)) (gR 2 rfl ?_))))
     exact g_next (i + 1, d, out, _, _) ⟨by dsimp only;omega, by assumption, mg4 hmg hlt_i hx0.symm ‹_› (by show cmpD x.to to = 0;omega)⟩ (by dsimp only;omega) (fun a F => F.only [49, 48, 47, 16, 17, 0, 8, 3, 15] rfl) (by (try dsimp only);repeat (first | exact .refl _ | with_reducible exact sC0 _ | with_reducible apply sC2 | apply sC1))
  rotate_left 1
  focus
   replace h1 := dqV h1
   refine gR 17 rfl (g_split 70 rfl (fun h2 => ?_) (fun h2 => ?_))
   ·replace h2 := dqU h2
    refine gR 5 rfl (g_if rfl (fun h3 => ?_) (fun h3 => ?_))
    ·replace h3 := false_of_not h3
     refine gR 3 rfl (g_ldA 2 rfl rfl (rq_all ‹_›) ?_)
     refine g_bs rfl rfl rfl (rq_build1 ‹_›) (fun b76 => ?_)
     refine g_app 2 0 (enc := rqC) rfl rfl ‹_› rfl rfl (rq_len ‹_›) (by first | omega | (simp only [List.length_nil];omega)) (fun _ => rfl) (fun v77 es77 hO77 => ?_) (rq_one _)
     refine gR 13 rfl (g_ifT rfl (bne_iff_ne.2 (by omega)) (gR 2 rfl (g_ldA 1 rfl rfl (rq_all ‹_›) ?_)))
     refine g_bs rfl rfl rfl (rq_build1 ‹_›) (fun b82 => ?_)
     refine g_app 3 0 (enc := rqC) rfl rfl ‹_› rfl rfl (rq_len ‹_›) (by first | omega | (simp only [List.length_nil];omega)) (fun _ => rfl) (fun v83 es83 hO83 => ?_) (rq_one _)
     refine gR 5 rfl (g_add rfl rfl (w_i64 (by omega) (by omega)) (gR 2 rfl ?_))
     exact g_next (i + 1, true, (out ++ [(⟨to, seq, hops, frm, laterV now 3, 3⟩ : ReqV)]) ++ [x], _, _) ⟨by dsimp only;omega, by assumption, mg1 hmg hlt_i hx0.symm ‹_› (by show 0 ≤ cmpD x.to to;omega) (by show ¬ cmpD x.to to = 0;omega)⟩ (by dsimp only;omega) (fun a F => F.only [49, 48, 47, 16, 17, 0, 8, 3, 15] rfl) (by (try dsimp only);repeat (first | exact .refl _ | with_reducible exact sC0 _ | with_reducible apply sC2 | apply sC1))
    ·replace h3 := true_of_not h3
     refine gR 8 rfl (g_ifT rfl (bne_iff_ne.2 (by omega)) (gR 2 rfl (g_ldA 0 rfl rfl (rq_all ‹_›) ?_)))
     refine g_bs rfl rfl rfl (rq_build1 ‹_›) (fun b82 => ?_)
     refine g_app 2 0 (enc := rqC) rfl rfl ‹_› rfl rfl (rq_len ‹_›) (by first | omega | (simp only [List.length_nil];omega)) (fun _ => rfl) (fun v83 es83 hO83 => ?_) (rq_one _)
     refine gR 5 rfl (g_add rfl rfl (w_i64 (by omega) (by omega)) (gR 2 rfl ?_))
     exact g_next (i + 1, d, out ++ [x], _, _) ⟨by dsimp only;omega, by assumption, mg3 hmg hlt_i hx0.symm (by first | exact .inl ‹_› | exact .inr (by show cmpD x.to to < 0;omega)) (by show ¬ cmpD x.to to = 0;omega)⟩ (by dsimp only;omega) (fun a F => F.only [49, 48, 47, 16, 17, 0, 8, 3, 15] rfl) (by (try dsimp only);repeat (first | exact .refl _ | with_reducible exact sC0 _ | with_reducible apply sC2 | apply sC1))
   ·replace h2 := dqV h2
    refine gR 14 rfl (g_ifT rfl (bne_iff_ne.2 (by omega)) (gR 2 rfl (g_ldA 0 rfl rfl (rq_all ‹_›) ?_)))
    refine g_bs rfl rfl rfl (rq_build1 ‹_›) (fun b82 => ?_)
    refine g_app 2 0 (enc := rqC) rfl rfl ‹_› rfl rfl (rq_len ‹_›) (by first | omega | (simp only [List.length_nil];omega)) (fun _ => rfl) (fun v83 es83 hO83 => ?_) (rq_one _)
    refine gR 5 rfl (g_add rfl rfl (w_i64 (by omega) (by omega)) (gR 2 rfl ?_))
    exact g_next (i + 1, d, out ++ [x], _, _) ⟨by dsimp only;omega, by assumption, mg3 hmg hlt_i hx0.symm (by first | exact .inl ‹_› | exact .inr (by show cmpD x.to to < 0;omega)) (by show ¬ cmpD x.to to = 0;omega)⟩ (by dsimp only;omega) (fun a F => F.only [49, 48, 47, 16, 17, 0, 8, 3, 15] rfl) (by (try dsimp only);repeat (first | exact .refl _ | with_reducible exact sC0 _ | with_reducible apply sC2 | apply sC1))
  refine g_pad (g_appL 0 rfl rfl (OwnS.nil _ _) rfl (fun w M => (hS.later M.ext).src rqs_one) (by omega) (by omega) (fun _ => rfl) ?_)
  intro v' e' hO'
  refine gR 9 rfl (g_outR (gR 2 rfl ?_))
  refine g_ret rfl rfl (fun a w F M => (.cons (.tmp (F.e rfl)) (.cons (.tmp (F.e rfl)) (.cons (.tmp (F.e rfl)) .nil)))) ?_;intro w M;(try dsimp only [oneOr])
  exact ⟨v', l, false, 0, e', rfl, by simpa using hO', hx, hv, M.sub (List.sublist_append_left _ _)⟩
 ·have hli : i = l.length := by omega
  have hol2 : out.length ≤ 100 := mg_len hmg (by omega)
  obtain ⟨q4, c4, rfl, hq4⟩ := own_q hOs
  refine gR 6 rfl (g_ifF rfl (dqF (by omega)) (gR 2 rfl (g_outX (gR 9 rfl (g_if rfl (fun h1 => ?_) (fun h1 => ?_))))))
  ·replace h1 := false_of_not h1
   refine gR 2 rfl (g_ldA 1 rfl rfl (rq_all ‹_›) ?_)
   refine g_bs rfl rfl rfl (rq_build1 ‹_›) (fun b89 => ?_)
   refine g_app 1 0 (enc := rqC) rfl rfl ‹_› rfl rfl (rq_len ‹_›) (by first | omega | (simp only [List.length_nil];omega)) (fun _ => rfl) (fun v90 es90 hO90 => ?_) (rq_one _)
   refine gR 7 rfl (g_len rfl ‹_› ?_)
   refine gR 3 rfl (g_if rfl (fun h2 => ?_) (fun h2 => ?_))
   ·replace h2 := dqU h2
    refine gR 9 rfl ?_
    refine g_ret rfl rfl (fun a w F M => (.cons (.tmp (F.e rfl)) (.cons (.tmp (F.e rfl)) (.cons (.tmp (F.e rfl)) .nil)))) ?_;intro w M;(try dsimp only [oneOr])
    exact PhRv2.zero M.ext
   ·replace h2 := dqV h2
    refine gR 11 rfl ?_
    refine g_ret rfl rfl (fun a w F M => (.cons (.tmp (F.e rfl)) (.cons (.tmp (F.e rfl)) (.cons (.tmp (F.e rfl)) .nil)))) ?_;intro w M;(try dsimp only [oneOr])
    exact ⟨_, out ++ [(⟨to, seq, hops, frm, laterV now 3, 3⟩ : ReqV)], true, 0, _, rfl, by assumption, mg_is hx nwI (mgE0 hmg hli ‹_›), mg_vQ hv nwv (mgE0 hmg hli ‹_›) (by omega), M.sub (List.sublist_flatten_of_mem (by simp))⟩
  ·replace h1 := true_of_not h1
   refine gR 10 rfl (g_if rfl (fun h2 => ?_) (fun h2 => ?_))
   ·replace h2 := dqU h2
    refine gR 9 rfl ?_
    refine g_ret rfl rfl (fun a w F M => (.cons (.tmp (F.e rfl)) (.cons (.tmp (F.e rfl)) (.cons (.tmp (F.e rfl)) .nil)))) ?_;intro w M;(try dsimp only [oneOr])
    exact PhRv2.zero M.ext
   ·replace h2 := dqV h2
    refine gR 11 rfl ?_
    refine g_ret rfl rfl (fun a w F M => (.cons (.tmp (F.e rfl)) (.cons (.tmp (F.e rfl)) (.cons (.tmp (F.e rfl)) .nil)))) ?_;intro w M;(try dsimp only [oneOr])
    exact ⟨_, out, true, 0, _, rfl, by assumption, mg_is hx nwI (mgE1 hmg hli ‹_›), mg_vQ hv nwv (mgE1 hmg hli ‹_›) (by omega), M.sub (List.sublist_flatten_of_mem (by simp))⟩
theorem requestsB_c {bt : Nat} {p : Option Addr} {len cap k : Nat} {xs : List Int} (now : Int) (hnow : 0 ≤ now ∧ now ≤ 1099511627776) (W : World) (hT : TapeS W bt p len xs) (hb : W.heap[bt]? = some (tobj p len cap k)) : Cal Tryz.prog 63 [.pointer (some ⟨bt, 0, none⟩), .int .i64 now].toArray W fun r w' => ∃ (m : List ReqV) (k' : Nat) (ent : List (Nat × Obj)), OwnS 171 40 r m.length (rqsC m) ent ∧ (∀ y ∈ m, IsRq y) ∧ validRqs m = true ∧ Mem [bt] W w' ((bt, tobj p len cap k') :: ent) := by
 have n5 := nxV_bd xs k (n := 5) (by omega)
 refine g_startB (n := 55) [bt] hb (by simp) fldT_ok slcT_ok Tryz.func63 rfl rfl rfl (gR 14 rfl (g_callT1 0 rfl rfl rfl (fun w M => next_c _ (by omega) (by omega) w (hT.later M.ext) (M.at_ _ (nthO_mem (i := 0) rfl))) rfl (gR 4 rfl (g_pad ?_))))
 refine g_loop (ι := Int × (List ReqV) × Value × (List (Nat × Obj)) × Nat) ⟨fun (d, out, u, es, k) => d.toNat, fun (d, out, u, es, k) => d ≤ 5 ∧ OwnS 171 40 u out.length (rqsC out) es ∧ (∀ y ∈ out, IsRq y) ∧ validRqs out = true, fun (d, out, u, es, k) => [(6, .int .i64 d), (5, u), (0, .pointer (some ⟨bt, 0, none⟩)), (1, .int .i64 now)], fun (d, out, u, es, k) => [es, [(bt, tobj p len cap k)]]⟩ (_, [], _, [], _) ⟨by first | omega | (dsimp only;omega), OwnS.nilL _ _ _, fun y hy => (List.not_mem_nil hy).elim, rfl⟩ (fun a F => F.only [6, 5, 0, 1] rfl) (by repeat (first | exact .refl _ | apply sC2 | apply sC1)) ?_
 clear n5
 rintro ⟨d, out, u, es, k⟩ ⟨hd, hOs, hI, hov⟩
 dsimp only at hd hOs hI hov ⊢
 by_cases hlt : 0 < d
 ·have hol : out.length ≤ 64 := (validRqs_iff.1 hov).1
  have n4 := nxV_bd xs k (n := 4) (by omega)
  refine gR 7 rfl (g_ifT rfl (dqT (by omega)) (gR 7 rfl (g_callT1 1 rfl rfl rfl (fun w M => next_c _ (by omega) (by omega) w (hT.later M.ext) (M.at_ _ (nthO_mem (i := 1) rfl))) rfl (g_conv rfl (w_u64 (by omega) (by omega)) (gR 8 rfl ?_)))))
  refine g_callT (ι := Int × Nat) 1 (fun j => .int .i64 j.1) (fun j => isTime j.1 = true) (fun j => tobj p len cap j.2) (fun _ => []) rfl rfl rfl (fun w M => Cal.mono (wtimeE_c now hnow.1 hnow.2 w (hT.later M.ext) (M.at_ _ (nthO_mem (i := 1) rfl))) fun r w' h => by
    obtain ⟨x, k', q, h1, N⟩ := h
    exact ⟨(x, k'), q, h1, by simpa using N⟩) (fun _ => rfl) ?_
  rintro ⟨t, k1⟩ tv
  dsimp only [List.nil_append] at tv ⊢
  refine gR 1 rfl ?_
  refine g_callT (ι := DstV × Nat) 1 (fun j => dvV j.1) (fun j => IsDv j.1 ∧ validT j.1 = true) (fun j => tobj p len cap j.2) (fun _ => []) rfl rfl rfl (fun w M => Cal.mono (toE_c w (hT.later M.ext) (M.at_ _ (nthO_mem (i := 1) rfl))) fun r w' h => by
    obtain ⟨x, k', q, h1, h2, N⟩ := h
    exact ⟨(x, k'), q, ⟨h1, h2⟩, by simpa using N⟩) (fun _ => rfl) ?_
  rintro ⟨x, k2⟩ ⟨xd, xv⟩
  dsimp only [List.nil_append] at xd xv ⊢
  unfold dvV
  refine gR 1 rfl ?_
  refine g_callT (ι := Int × Nat) 1 (fun j => .int .u16 j.1) (fun j => True) (fun j => tobj p len cap j.2) (fun _ => []) rfl rfl rfl (fun w M => Cal.mono (seqE_c w (hT.later M.ext) (M.at_ _ (nthO_mem (i := 1) rfl))) fun r w' h => by
    obtain ⟨x, k', q, N⟩ := h
    exact ⟨(x, k'), q, trivial, by simpa using N⟩) (fun _ => rfl) ?_
  rintro ⟨q, k3⟩ -
  dsimp only [List.nil_append]
  have n32 := nxV_bd xs k3 (n := 32) (by omega)
  refine gR 1 rfl (g_callT1 1 rfl rfl rfl (fun w M => next_c _ (by omega) (by omega) w (hT.later M.ext) (M.at_ _ (nthO_mem (i := 1) rfl))) rfl (g_add rfl rfl (w_i64 (by omega) (by omega)) (gR 1 rfl ?_)))
  refine g_callN (ι := Value × (List ReqV) × Bool × Int × List (Nat × Obj)) (fun j => .tuple #[j.1, .bool j.2.2.1, .int .i64 j.2.2.2.1]) (fun j => OwnS 171 40 j.1 j.2.1.length (rqsC j.2.1) j.2.2.2.2 ∧ (∀ y ∈ j.2.1, IsRq y) ∧ validRqs j.2.1 = true) (fun j => [j.2.2.2.2]) rfl rfl (fun w M => Cal.mono (refAddB_c out hI hov u t tv x xd xv q _ _ (by omega) (by omega) w (hOs.slAt M (fun q hq => List.mem_append_left _ hq))) fun r w' h => by
   obtain ⟨u, m, d, c, ent, q, h1, h2, h3, N⟩ := h
   exact ⟨(u, m, d, c, ent), q, ⟨h1, h2, h3⟩, by simpa using N⟩) ?_
  rintro ⟨u1, m1, d1, c1, e1⟩ ⟨hO1, hI1, hv1⟩
  dsimp only [List.cons_append, List.nil_append] at hO1 hI1 hv1 ⊢
  refine gR 15 rfl (g_if rfl (fun h1 => ?_) (fun h1 => ?_))
  ·replace h1 := dqU h1
   refine gR 8 rfl (g_sub rfl rfl (w_i64 (by omega) (by omega)) (gR 2 rfl ?_))
   exact g_next (d - 1, m1, _, _, _) ⟨by dsimp only;omega, by assumption, hI1, hv1⟩ (by dsimp only;omega) (fun a F => F.only [6, 5, 0, 1] rfl) (by (try dsimp only);repeat (first | exact .refl _ | with_reducible exact sC0 _ | with_reducible apply sC2 | apply sC1))
  ·replace h1 := dqV h1
   refine gR 5 rfl (g_sub rfl rfl (w_i64 (by omega) (by omega)) (gR 2 rfl ?_))
   exact g_next (d - 1, out, _, _, _) ⟨by dsimp only;omega, by assumption, hI, hov⟩ (by dsimp only;omega) (fun a F => F.only [6, 5, 0, 1] rfl) (by (try dsimp only);repeat (first | exact .refl _ | with_reducible exact sC0 _ | with_reducible apply sC2 | apply sC1))
 ·have hol : out.length ≤ 64 := (validRqs_iff.1 hov).1
  obtain ⟨q4, c4, rfl, hq4⟩ := own_q hOs
  refine gR 7 rfl (g_ifF rfl (dqF (by omega)) (gR 2 rfl (g_outX (gR 11 rfl ?_))))
  refine g_loop (ι := Nat × (List ReqV) × (List (Nat × Obj)) × Nat) ⟨fun (i, l, es, k) => out.length - i, fun (i, l, es, k) => i ≤ out.length ∧ l.length = out.length ∧ OwnS 171 40 (.slice q4 l.length c4) l.length (rqsC l) es ∧ (∀ y ∈ l, IsRq y) ∧ validRqs l = true ∧ (0 < out.length → ∃ b j, q4 = some ⟨b, 0, none⟩ ∧ es = [(b, .cells (rqsC l ++ j).toArray 171 (0, 0))]), fun (i, l, es, k) => [(43, .int .i64 i), (42, .int .i64 out.length), (5, .slice q4 out.length c4), (0, .pointer (some ⟨bt, 0, none⟩))], fun (i, l, es, k) => [es, [(bt, tobj p len cap k)]]⟩ (0, out, es, _) ⟨by first | omega | (dsimp only;omega), rfl, hOs, hI, hov, hq4⟩ (fun a F => F.only [43, 42, 5, 0] rfl) (by repeat (first | exact .refl _ | apply sC2 | apply sC1)) ?_
  rintro ⟨i, l, es, k⟩ ⟨hi, hll, hOs, hI, hlv, hq⟩
  dsimp only at hi hll hOs hI hlv hq ⊢
  by_cases hlt2 : i < out.length
  ·obtain ⟨bq, jq, rfl, rfl⟩ := hq (by omega)
   have n3 := nxV_bd xs k (n := 3) (by omega)
   have xd : IsRq (l[i]'(by omega)) := hI _ (List.getElem_mem _)
   have hpt := fun z : Int => put_elL (enc := rqC) (sz := 40) jq (l := l) (i := i) (rqs_len hI) (by omega) (rq_put_left xd z)
   obtain ⟨x', hx'⟩ : ∃ x' : ReqV, x' = { (l[i]'(by omega)) with left := 1 + nxV xs k 3 } := ⟨_, rfl⟩
   have hI' : ∀ y ∈ l.set i x', IsRq y := fun y hy => by
    rcases List.mem_or_eq_of_mem_set hy with h | rfl
    ·exact hI y h
    ·rw [hx'];exact xd
   have hst : put (rqsC l ++ jq) (0 + (i : Int).toNat * 40 + 39) [.int .i64 (1 + nxV xs k 3)] = some (rqsC (l.set i x') ++ jq) := by
    rw [show 0 + (i : Int).toNat * 40 + 39 = i * 40 + 39 by simp, hx']
    exact hpt _
   have hO' := own_setL (l' := l.set i x') hOs rfl rfl (by simp) (by rw [encL_len (rqs_len hI'), encL_len (rqs_len hI)];simp)
   refine gR 6 rfl (g_ifT rfl (dqT (by omega)) (gR 14 rfl (g_callT1 1 rfl rfl rfl (fun w M => next_c _ (by omega) (by omega) w (hT.later M.ext) (M.at_ _ (nthO_mem (i := 1) rfl))) rfl (g_add rfl rfl (w_i64 (by omega) (by omega)) (g_ixS rfl rfl (by omega) (by omega) (gR 1 rfl (g_st1 0 rfl rfl rfl rfl hst rfl (gR 4 rfl (g_add rfl rfl (w_i64 (by omega) (by omega)) (gR 2 rfl ?_))))))))))
   exact g_next (i + 1, l.set i x', _, _) ⟨by dsimp only;omega, by simp [hll], hO', hI', by rw [hx'];exact vRq_set hlv (by omega) (by omega) (by omega), fun _ => ⟨bq, jq, rfl, rfl⟩⟩ (by dsimp only;omega) (fun a F => F.only [43, 42, 5, 0] rfl) (by (try dsimp only);repeat (first | exact .refl _ | with_reducible exact sC0 _ | with_reducible apply sC2 | apply sC1))
  ·have hOs' : OwnS 171 40 (.slice q4 out.length c4) l.length (rqsC l) es := by
    rw [hll] at hOs ⊢
    exact hOs
   exact gR 6 rfl (g_ifF rfl (dqF (by omega)) (gR 2 rfl (g_outX (gR 9 rfl (g_ret1 rfl rfl rfl fun w M => ⟨l, _, es, hOs', hI, hlv, M.perm List.perm_append_comm⟩)))))
structure RtE where
 og : List (Nat × Obj)
 aj : List (Nat × Obj)
 sr : List (Nat × Obj)
 ro : List (Nat × Obj)
 ins : List (Nat × Obj)
 rq : List (Nat × Obj)
 av : List (Nat × Obj)
def RtE.row (e : RtE) : Row := [e.av, e.rq, e.ins, e.ro, e.sr, e.aj, e.og]
structure RtOw (s : RtV) (x : RtX) (e : RtE) : Prop where
 og : OwnS 85 34 x.og s.og.length (ogsC s.og) e.og
 aj : OwnS 124 8 x.aj s.aj.length (ajsC s.aj) e.aj
 sr : OwnS 166 38 x.sr s.sr.length (srsC s.sr) e.sr
 ro : OwnS 76 39 x.ro s.ro.length (rosC s.ro) e.ro
 ins : OwnS 74 40 x.ins s.ins.length (insC s.ins) e.ins
 rq : OwnS 171 40 x.rq s.rq.length (rqsC s.rq) e.rq
 av : OwnS 100 37 x.av s.av.length (avsC s.av) e.av
structure RtSm (s : RtV) : Prop where
 og : s.og.length ≤ 1000
 aj : s.aj.length ≤ 1000
 sr : s.sr.length ≤ 1000
 ro : s.ro.length ≤ 1000
 ins : s.ins.length ≤ 1000
 rq : s.rq.length ≤ 1000
 av : s.av.length ≤ 1000
theorem RtOw.at_ {s : RtV} {x : RtX} {e : RtE} (h : RtOw s x e) {S : List Nat} {W0 w : World} {l : List (Nat × Obj)} (M : Mem S W0 w l) (hs : ∀ p ∈ e.row.flatten, p ∈ l) : RtAt w s x :=
 ⟨h.og.slAt M fun q hq => hs q (List.mem_flatten_of_mem (by simp [RtE.row]) hq), h.aj.slAt M fun q hq => hs q (List.mem_flatten_of_mem (by simp [RtE.row]) hq), h.sr.slAt M fun q hq => hs q (List.mem_flatten_of_mem (by simp [RtE.row]) hq), h.ro.slAt M fun q hq => hs q (List.mem_flatten_of_mem (by simp [RtE.row]) hq), h.ins.slAt M fun q hq => hs q (List.mem_flatten_of_mem (by simp [RtE.row]) hq), h.rq.slAt M fun q hq => hs q (List.mem_flatten_of_mem (by simp [RtE.row]) hq), h.av.slAt M fun q hq => hs q (List.mem_flatten_of_mem (by simp [RtE.row]) hq)⟩
theorem refCopy_c (s : RtV) (x : RtX) (hsm : RtSm s) (W : World) (h : RtAt W s x) : Cal Tryz.prog 112 [.agg (rtC s x).toArray].toArray W fun r w' => ∃ (x' : RtX) (e : RtE), RtOw s x' e ∧ r = .agg (rtC s x').toArray ∧ Mem [] W w' e.row.flatten := by
 obtain ⟨v6, v7, v8, v9, v10, v11, v12⟩ := x
 obtain ⟨a6, a7, a8, a9, a10, a11, a12⟩ := h
 dsimp only at a6 a7 a8 a9 a10 a11 a12
 obtain ⟨q6, c6, rfl, _⟩ := id a6
 obtain ⟨q7, c7, rfl, _⟩ := id a7
 obtain ⟨q8, c8, rfl, _⟩ := id a8
 obtain ⟨q9, c9, rfl, _⟩ := id a9
 obtain ⟨q10, c10, rfl, _⟩ := id a10
 obtain ⟨q11, c11, rfl, _⟩ := id a11
 obtain ⟨q12, c12, rfl, _⟩ := id a12
 obtain ⟨l6, l7, l8, l9, l10, l11, l12⟩ := hsm
 refine g_start (n := 34) (S := []) fldT_ok slcT_ok Tryz.func112 rfl rfl rfl (gR 2 rfl (g_box rfl rfl fun b1 => g_alloc fun b2 => gR 5 rfl (g_ld1 1 rfl rfl rfl (g_pad (g_appL 0 rfl rfl (OwnS.nil _ _) rfl (fun w M => (a6.later M.ext).src ogs_one) (by omega) (by omega) (fun _ => rfl) ?_)))))
 intro v6 e6 h6
 simp only [Nat.zero_add, List.nil_append] at h6
 obtain ⟨p6, d6, rfl, -⟩ := own_q h6
 refine gR 1 rfl (g_st1 2 rfl rfl rfl rfl rfl rfl (gR 5 rfl (g_ld1 2 rfl rfl rfl (g_pad (g_appL 0 rfl rfl (OwnS.nil _ _) rfl (fun w M => (a7.later M.ext).src ajs_one) (by omega) (by omega) (fun _ => rfl) ?_)))))
 intro v7 e7 h7
 simp only [Nat.zero_add, List.nil_append] at h7
 obtain ⟨p7, d7, rfl, -⟩ := own_q h7
 refine gR 1 rfl (g_st1 3 rfl rfl rfl rfl rfl rfl (gR 5 rfl (g_ld1 3 rfl rfl rfl (g_pad (g_appL 0 rfl rfl (OwnS.nil _ _) rfl (fun w M => (a8.later M.ext).src srs_one) (by omega) (by omega) (fun _ => rfl) ?_)))))
 intro v8 e8 h8
 simp only [Nat.zero_add, List.nil_append] at h8
 obtain ⟨p8, d8, rfl, -⟩ := own_q h8
 refine gR 1 rfl (g_st1 4 rfl rfl rfl rfl rfl rfl (gR 5 rfl (g_ld1 4 rfl rfl rfl (g_pad (g_appL 0 rfl rfl (OwnS.nil _ _) rfl (fun w M => (a9.later M.ext).src ros_one) (by omega) (by omega) (fun _ => rfl) ?_)))))
 intro v9 e9 h9
 simp only [Nat.zero_add, List.nil_append] at h9
 obtain ⟨p9, d9, rfl, -⟩ := own_q h9
 refine gR 1 rfl (g_st1 5 rfl rfl rfl rfl rfl rfl (gR 5 rfl (g_ld1 5 rfl rfl rfl (g_pad (g_appL 0 rfl rfl (OwnS.nil _ _) rfl (fun w M => (a10.later M.ext).src ins_one) (by omega) (by omega) (fun _ => rfl) ?_)))))
 intro v10 e10 h10
 simp only [Nat.zero_add, List.nil_append] at h10
 obtain ⟨p10, d10, rfl, -⟩ := own_q h10
 refine gR 1 rfl (g_st1 6 rfl rfl rfl rfl rfl rfl (gR 5 rfl (g_ld1 6 rfl rfl rfl (g_pad (g_appL 0 rfl rfl (OwnS.nil _ _) rfl (fun w M => (a11.later M.ext).src rqs_one) (by omega) (by omega) (fun _ => rfl) ?_)))))
 intro v11 e11 h11
 simp only [Nat.zero_add, List.nil_append] at h11
 obtain ⟨p11, d11, rfl, -⟩ := own_q h11
 refine gR 1 rfl (g_st1 7 rfl rfl rfl rfl rfl rfl (gR 6 rfl (g_ld1 7 rfl rfl rfl (g_pad (g_appL 0 rfl rfl (OwnS.nil _ _) rfl (fun w M => (a12.later M.ext).src avs_one) (by omega) (by omega) (fun _ => rfl) ?_)))))
 intro v12 e12 h12
 simp only [Nat.zero_add, List.nil_append] at h12
 obtain ⟨p12, d12, rfl, -⟩ := own_q h12
 refine gR 2 rfl (g_st1 8 rfl rfl rfl rfl rfl rfl (gR 4 rfl (g_ldA 8 rfl rfl rfl ?_)))
 refine g_stA 7 rfl rfl rfl rfl rfl rfl rfl ?_
 exact gR 3 rfl (g_retC 7 rfl rfl rfl rfl rfl fun w M => ⟨⟨_, _, _, _, _, _, _⟩, ⟨e6, e7, e8, e9, e10, e11, e12⟩, ⟨h6, h7, h8, h9, h10, h11, h12⟩, rfl, M.sub (subO (by (try dsimp only [RtE.row]);repeat (first | exact sC0 _ | apply sC2)))⟩)
theorem small_c (s : RtV) (x : RtX) (W : World) (h : RtAt W s x) : Cal Tryz.prog 27 [.agg (rtC s x).toArray].toArray W fun r w' => (∃ b, r = .bool b) ∧ Ext [] W w' := by
 obtain ⟨v6, v7, v8, v9, v10, v11, v12⟩ := x
 obtain ⟨a6, a7, a8, a9, a10, a11, a12⟩ := h
 dsimp only at a6 a7 a8 a9 a10 a11 a12
 obtain ⟨q6, c6, rfl, _⟩ := id a6
 obtain ⟨q7, c7, rfl, _⟩ := id a7
 obtain ⟨q8, c8, rfl, _⟩ := id a8
 obtain ⟨q9, c9, rfl, _⟩ := id a9
 obtain ⟨q10, c10, rfl, _⟩ := id a10
 obtain ⟨q11, c11, rfl, _⟩ := id a11
 obtain ⟨q12, c12, rfl, _⟩ := id a12
 refine g_start (n := 44) (S := []) fldT_ok slcT_ok Tryz.func27 rfl rfl rfl (gR 2 rfl (g_box rfl rfl fun b1 => gR 6 rfl (g_ld1 0 rfl rfl rfl (gR 3 rfl (g_split 7 rfl (fun h1 => ?_) (fun h1 => ?_))))))
 ·replace h1 := dqU h1
  refine gR 1 rfl (g_ld1 0 rfl rfl rfl (gR 4 rfl (g_split 13 rfl (fun h2 => ?_) (fun h2 => ?_))))
  ·replace h2 := dqU h2
   refine gR 1 rfl (g_ld1 0 rfl rfl rfl (gR 4 rfl (g_split 19 rfl (fun h3 => ?_) (fun h3 => ?_))))
   ·replace h3 := dqU h3
    refine gR 1 rfl (g_ld1 0 rfl rfl rfl (gR 4 rfl (g_split 25 rfl (fun h4 => ?_) (fun h4 => ?_))))
    ·replace h4 := dqU h4
     refine gR 1 rfl (g_ld1 0 rfl rfl rfl (gR 4 rfl (g_split 31 rfl (fun h5 => ?_) (fun h5 => ?_))))
     ·replace h5 := dqU h5
      refine gR 1 rfl (g_ld1 0 rfl rfl rfl (gR 4 rfl (g_split 37 rfl (fun h6 => ?_) (fun h6 => ?_))))
      ·replace h6 := dqU h6
       exact gR 2 rfl (g_ld1 0 rfl rfl rfl (gR 7 rfl (g_ret1 rfl rfl rfl fun w M => ⟨⟨_, rfl⟩, M.ext⟩)))
      ·replace h6 := dqV h6
       exact gR 10 rfl (g_ret1 rfl rfl rfl fun w M => ⟨⟨_, rfl⟩, M.ext⟩)
     ·replace h5 := dqV h5
      exact gR 16 rfl (g_ret1 rfl rfl rfl fun w M => ⟨⟨_, rfl⟩, M.ext⟩)
    ·replace h4 := dqV h4
     exact gR 22 rfl (g_ret1 rfl rfl rfl fun w M => ⟨⟨_, rfl⟩, M.ext⟩)
   ·replace h3 := dqV h3
    exact gR 28 rfl (g_ret1 rfl rfl rfl fun w M => ⟨⟨_, rfl⟩, M.ext⟩)
  ·replace h2 := dqV h2
   exact gR 34 rfl (g_ret1 rfl rfl rfl fun w M => ⟨⟨_, rfl⟩, M.ext⟩)
 ·replace h1 := dqV h1
  exact gR 40 rfl (g_ret1 rfl rfl rfl fun w M => ⟨⟨_, rfl⟩, M.ext⟩)
end Go.Proofs.YtfhkmgcalcfibaaGreat
namespace Go.Proofs.YtfhkmgcalcfibaaGreat
open Go.RowKit
section
variable {c : Cx} {x : RX} {xs : List (Nat × XP)} {fr : List (Nat × Value)} {l : Row} {d : Nat} {ty : TypeId} {pos : String} {af : Array Edge}
theorem opf_bs {t e : TypeId} {len sz : Nat} {ys : List (Nat × Operand)} {parts : List (Nat × List Value)} {zs cs : List Value} [ht : TU c.P t (.slice e)] [hs : TSz c.P e sz] [hz : TZero c.P e zs] (hv : evP fr ys = some parts)
  (hle : Nat.ble (len * sz) 16777216 = true) (hzl : Nat.beq zs.length sz = true) (hp : putAll (placesL len sz) (zerosL zs (len * sz)) parts = some cs) :
  OpF c x xs ⟨some d, .buildSlice t len ys.toArray, ty, pos, af, none⟩ fr l (fun u r => ∃ j : Nat, u = .slice (some ⟨j, 0, none⟩) len len ∧ True ∧ r = [(j, .cells cs.toArray e (0, 0))] :: l) := fun a w F M _ =>
 o_buildSlice F (Mem.start [] w) hv hle hzl hp fun b w'' N => ⟨N.ext.any, _, ⟨b, rfl, trivial, rfl⟩, M.joins (new := [(b, .cells cs.toArray e (0, 0))]) N⟩
theorem opf_app2 {α : Type} {enc : α → List Value} {out : List α} {x0 : α} {st xt e : TypeId} {y1 y2 : Operand} {sz by_ bx : Nat} {v : Value} {ent r : List (Nat × Obj)} {f : List (Nat × Obj) → Row} {t' : TypeId} {fz : Nat × Nat} [hst : TU c.P st (.slice e)] [hel : TEl c.P e sz by_] [hxt : TNI c.P xt]
  (hx : Ev fr y1 = some v) (hy : Ev fr y2 = some (.slice (some ⟨bx, 0, none⟩) 1 1)) (hO : OwnS e sz v out.length (encL enc out) ent) (hl : l.flatten.Perm (ent ++ r)) (hB : ∀ q ∈ ent, q.1 ∈ x.B) (hj : (bx, .cells (enc x0).toArray t' fz) ∈ l.flatten) (hz : (enc x0).length = sz) (hbd : (out.length + 1) * by_ ≤ 140737488355328) (hln : out.length + 1 ≤ 9223372036854775807)
  (hf : ∀ ent', (ent' ++ r).Perm (f ent').flatten) (h1 : (enc x0).all (·.oneCell') = true) :
  OpF c x xs ⟨some d, .call ⟨.builtin .append, #[y1, y2], #[st, xt]⟩, ty, pos, af, none⟩ fr l (fun u r => ∃ j : Value × List (Nat × Obj), u = j.1 ∧ OwnS e sz j.1 (out ++ [x0]).length (encL enc (out ++ [x0])) j.2 ∧ r = f j.2) := fun a w F M _ => by
 have hS : SrcOf c.P w (.slice (some ⟨bx, 0, none⟩) 1 1) 1 sz (enc x0) := SrcOf.cells' (M.at_ _ hj) (by rw [Nat.one_mul, ← hz];simpa using seg_of [] (enc x0) []) h1
 have MM := M.perm hl
 have M0 : Mem (ent.map (·.1)) w w (ent ++ []) := by
  have h5 := MM.nd
  simp only [List.map_append, List.nodup_append] at h5
  rw [List.append_nil]
  exact ⟨Ext.refl _ _, fun p hp => MM.at_ p (List.mem_append_left _ hp), h5.1, fun p hp => .inl (List.mem_map.2 ⟨p, hp, rfl⟩)⟩
 refine o_append1 (f := fun e' => [] ++ e') hO (M0.perm List.perm_append_comm) (.app .here) (F.e hx) (F.e hy) hS hbd (fun v' ent' w' hO' M' => ?_) hln
 refine ⟨M'.ext.mono fun k hk => ?_, f ent', ⟨(v', ent'), rfl, hO', rfl⟩, (MM.joinB M').perm (hf ent')⟩
 obtain ⟨q, hq, rfl⟩ := List.mem_map.1 hk
 exact hB q hq
end
end Go.Proofs.YtfhkmgcalcfibaaGreat
namespace Go.Proofs.YtfhkmgcalcfibaaGreat
open Go.RowKit
attribute [local irreducible] OpTo wpListIn Code.wpIn MW Cal
theorem own_one {e : TypeId} {sz n : Nat} {v : Value} {xs : List Value} {ent : List (Nat × Obj)} (h : OwnS e sz v n xs ent) : v.oneCell' = true := by
 rcases h with ⟨rfl, _⟩ | ⟨_, _, _, rfl, _⟩ <;> rfl
def ipA : List Int := [1, 2, 0, 0, 0, 0, 0, 0, 0, 0, 0, 0, 0, 0, 0, 0]
def ipB : List Int := [255, 0, 0, 0, 0, 0, 0, 0, 0, 0, 0, 0, 0, 0, 0, 0]
def ipO : List Int := [0, 0, 0, 0, 0, 0, 0, 0, 0, 0, 0, 0, 0, 0, 0, 0]
theorem ipA_is : IsIP ipA := ⟨rfl, by decide⟩
theorem ipB_is : IsIP ipB := ⟨rfl, by decide⟩
theorem ipO_is : IsIP ipO := ⟨rfl, by decide⟩
def ogX : OrgV := ⟨ipA, 9, ipO, 0⟩
theorem ogX_is : IsOg ogX := ⟨ipA_is, ipO_is⟩
def dvX (z : Int) : DstV := ⟨ipB, 8, ipO, 0, z⟩
theorem dvX_is (z : Int) : IsDv (dvX z) := ⟨ipB_is, ipO_is⟩
theorem og_mkS : putAll [(0, 17), (17, 17)] ogZ [(0, [.int .u8 1, .int .u8 2, .int .u8 0, .int .u8 0, .int .u8 0, .int .u8 0, .int .u8 0, .int .u8 0, .int .u8 0, .int .u8 0, .int .u8 0, .int .u8 0, .int .u8 0, .int .u8 0, .int .u8 0, .int .u8 0, .int .i64 9])] = some (ogC ogX) := rfl
theorem dv_mkS (z : Int) : putAll [(0, 17), (17, 17), (34, 1)] dvZ [(0, [.int .u8 255, .int .u8 0, .int .u8 0, .int .u8 0, .int .u8 0, .int .u8 0, .int .u8 0, .int .u8 0, .int .u8 0, .int .u8 0, .int .u8 0, .int .u8 0, .int .u8 0, .int .u8 0, .int .u8 0, .int .u8 0, .int .i64 8]), (2, [.int .u64 z])] = some (dvC (dvX z)) := rfl
theorem aj_mkS : putAll [(0, 1), (1, 5), (6, 1), (7, 1)] ajZ [(0, [.int .u64 9])] = some (ajC ⟨9, qu0, 0, 0⟩) := rfl
theorem aj_mkQ (n : Int) (q : QuaV) : putAll [(0, 1), (1, 5), (6, 1), (7, 1)] ajZ [(0, [.int .u64 n]), (1, quC q)] = some (ajC ⟨n, q, 0, 0⟩) := rfl
theorem ro_mkS (t : DstV) (h : IsDv t) (n : Int) : putAll [(0, 35), (35, 1), (36, 2), (38, 1)] roZ [(0, dvC t), (1, [.int .u64 n])] = some (roC ⟨t, n, di0, 0⟩) := by
 obtain ⟨p1, n1, p2, n2, rt⟩ := t
 obtain ⟨x0, x1, x2, x3, x4, x5, x6, x7, x8, x9, x10, x11, x12, x13, x14, x15, e0⟩ := len16 (show p1.length = 16 from h.1.len)
 obtain ⟨y0, y1, y2, y3, y4, y5, y6, y7, y8, y9, y10, y11, y12, y13, y14, y15, e1⟩ := len16 (show p2.length = 16 from h.2.len)
 subst e0
 subst e1
 rfl
theorem rowT {S : List Nat} {W w : World} {e : RtE} {t : Nat × Obj} (M : Mem S W w (e.row ++ [[t]]).flatten) : Mem S W w (t :: e.row.flatten) := M.perm (by
 rw [List.flatten_append]
 exact List.perm_append_comm)
theorem OpF.mono {c : Cx} {x : RX} {xs : List (Nat × XP)} {o : Oper} {fr : List (Nat × Value)} {l : Row} {A B : Value → Row → Prop} (h : OpF c x xs o fr l A) (hB : ∀ u r, A u r → B u r) : OpF c x xs o fr l B := fun a w F M hX => (h a w F M hX).mono fun u w' ⟨q1, r, q2, q3⟩ => ⟨q1, r, hB u r q2, q3⟩
theorem rows_sp {a b c d e f g h i t : List (Nat × Obj)} : ([a, b, c, d, e, f, g, h, i, t] : Row).flatten.Perm (([t, f] : Row).flatten ++ ([a, b, c, d, e, g, h, i] : Row).flatten) := by
 simp only [List.flatten_cons, List.flatten_nil, List.append_nil]
 classical
 rw [List.perm_iff_count]
 intro x
 simp only [List.count_append]
 omega
theorem rows_ap {z a b c d e f g h i t : List (Nat × Obj)} : ([z, a, b, c, d, e, f, g, h, i, t] : Row).flatten.Perm (f ++ ([z, a, b, c, d, e, g, h, i, t] : Row).flatten) := by
 simp only [List.flatten_cons, List.flatten_nil, List.append_nil]
 classical
 rw [List.perm_iff_count]
 intro x
 simp only [List.count_append]
 omega
def PhRt (p : Option Addr) (len cap bt : Nat) (r : Value) (W w' : World) : Prop := ∃ (s : RtV) (x : RtX) (e : RtE) (k' : Nat), r = .agg (rtC s x).toArray ∧ IsRt s ∧ RtOw s x e ∧ Mem [bt] W w' ((bt, tobj p len cap k') :: e.row.flatten)
theorem spoiled_c {bt : Nat} {p : Option Addr} {len cap k : Nat} {xs : List Int} (s : RtV) (x : RtX) (hs : IsRt s) (hsm : RtSm s) (W : World) (hT : TapeS W bt p len xs) (hb : W.heap[bt]? = some (tobj p len cap k)) (h : RtAt W s x) (hA : ∀ w', Ext [bt] W w' → RtAt w' s x) : Cal Tryz.prog 35 [.pointer (some ⟨bt, 0, none⟩), .agg (rtC s x).toArray].toArray W fun r w' => PhRt p len cap bt r W w' := by
 obtain ⟨v6, v7, v8, v9, v10, v11, v12⟩ := x
 obtain ⟨a6, a7, a8, a9, a10, a11, a12⟩ := h
 dsimp only at a6 a7 a8 a9 a10 a11 a12
 obtain ⟨q6, c6, rfl, _⟩ := id a6
 obtain ⟨q7, c7, rfl, _⟩ := id a7
 obtain ⟨q8, c8, rfl, _⟩ := id a8
 obtain ⟨q9, c9, rfl, _⟩ := id a9
 obtain ⟨q10, c10, rfl, _⟩ := id a10
 obtain ⟨q11, c11, rfl, _⟩ := id a11
 obtain ⟨q12, c12, rfl, _⟩ := id a12
 refine g_startB (n := 78) [bt] hb (by simp) fldT_ok slcT_ok Tryz.func35 rfl rfl rfl (gR 2 rfl (g_box rfl rfl fun b3 => g_alloc fun b4 => gR 4 rfl (g_ldA 1 rfl rfl rfl ?_)))
 refine g_callN (ι := RtX × RtE) (fun j => .agg (rtC s j.1).toArray) (fun j => RtOw s j.1 j.2) (fun j => j.2.row) rfl rfl (fun w M => Cal.mono (refCopy_c s _ hsm w (hA w M.ext)) fun r w' h => by
  obtain ⟨x', e, h1, h2, N⟩ := h
  exact ⟨(x', e), h2, h1, N⟩) ?_
 rintro ⟨⟨v6, v7, v8, v9, v10, v11, v12⟩, ⟨e6, e7, e8, e9, e10, e11, e12⟩⟩ ⟨o6, o7, o8, o9, o10, o11, o12⟩
 dsimp only [RtE.row, List.cons_append, List.nil_append] at o6 o7 o8 o9 o10 o11 o12 ⊢
 obtain ⟨r6, d6, rfl, -⟩ := own_q o6
 obtain ⟨r7, d7, rfl, -⟩ := own_q o7
 obtain ⟨r8, d8, rfl, -⟩ := own_q o8
 obtain ⟨r9, d9, rfl, -⟩ := own_q o9
 obtain ⟨r10, d10, rfl, -⟩ := own_q o10
 obtain ⟨r11, d11, rfl, -⟩ := own_q o11
 obtain ⟨r12, d12, rfl, -⟩ := own_q o12
 clear a6 a7 a8 a9 a10 a11 a12 hA
 obtain ⟨i6, i7, i8, i9, i10, i11, i12, iq⟩ := hs
 obtain ⟨l6, l7, l8, l9, l10, l11, l12⟩ := hsm
 have n10 := nxV_bd xs k (n := 10) (by omega)
 have dX := dvX_is s.self
 have oX := ogX_is
 have dN := dvX_is 99
 by_cases c0 : nxV xs k 10 = 0
 ·refine g_stA 8 rfl rfl rfl rfl rfl rfl rfl ?_
  refine gR 6 rfl (g_callT1 9 rfl rfl rfl (fun w M => next_c _ (by omega) (by omega) w (hT.later M.ext) (M.at_ _ (nthO_mem (i := 9) rfl))) rfl (gR 9 rfl (g_ifT rfl (dqT (by omega)) (gR 2 rfl (g_st1 8 rfl rfl rfl rfl rfl rfl (gR 5 rfl (g_ldA 8 rfl rfl rfl ?_)))))))
  refine g_stA 7 rfl rfl rfl rfl rfl rfl rfl ?_
  exact gR 3 rfl (g_retC 7 rfl rfl rfl rfl rfl fun w M => ⟨⟨0, s.seq, s.raised, s.quiet, s.hello, s.nextH, s.full, s.og, s.aj, s.sr, s.ro, s.ins, s.rq, s.av⟩, ⟨_, _, _, _, _, _, _⟩, ⟨e6, e7, e8, e9, e10, e11, e12⟩, _, rfl, ⟨i6, i7, i8, i9, i10, i11, i12, iq⟩, ⟨o6, o7, o8, o9, o10, o11, o12⟩, rowT (M.sub (subO (by (try dsimp only [RtE.row, List.cons_append, List.nil_append]);repeat (first | exact .refl _ | exact sC0 _ | with_reducible apply sC2 | apply sC1))))⟩)
 by_cases c1 : nxV xs k 10 = 1
 ·refine g_stA 8 rfl rfl rfl rfl rfl rfl rfl ?_
  refine gR 6 rfl (g_callT1 9 rfl rfl rfl (fun w M => next_c _ (by omega) (by omega) w (hT.later M.ext) (M.at_ _ (nthO_mem (i := 9) rfl))) rfl (gR 9 rfl (g_ifF rfl (dqF (by omega)) (gR 6 rfl (g_ifT rfl (dqT (by omega)) (gR 2 rfl (g_st1 8 rfl rfl rfl rfl rfl rfl (gR 5 rfl (g_ldA 8 rfl rfl rfl ?_)))))))))
  refine g_stA 7 rfl rfl rfl rfl rfl rfl rfl ?_
  exact gR 3 rfl (g_retC 7 rfl rfl rfl rfl rfl fun w M => ⟨⟨s.self, s.seq, -1, s.quiet, s.hello, s.nextH, s.full, s.og, s.aj, s.sr, s.ro, s.ins, s.rq, s.av⟩, ⟨_, _, _, _, _, _, _⟩, ⟨e6, e7, e8, e9, e10, e11, e12⟩, _, rfl, ⟨i6, i7, i8, i9, i10, i11, i12, iq⟩, ⟨o6, o7, o8, o9, o10, o11, o12⟩, rowT (M.sub (subO (by (try dsimp only [RtE.row, List.cons_append, List.nil_append]);repeat (first | exact .refl _ | exact sC0 _ | with_reducible apply sC2 | apply sC1))))⟩)
 by_cases c2 : nxV xs k 10 = 2
 ·refine g_stA 8 rfl rfl rfl rfl rfl rfl rfl ?_
  refine gR 6 rfl (g_callT1 9 rfl rfl rfl (fun w M => next_c _ (by omega) (by omega) w (hT.later M.ext) (M.at_ _ (nthO_mem (i := 9) rfl))) rfl (gR 9 rfl (g_ifF rfl (dqF (by omega)) (gR 6 rfl (g_ifF rfl (dqF (by omega)) (gR 6 rfl (g_ifT rfl (dqT (by omega)) (gR 2 rfl (g_st1 8 rfl rfl rfl rfl rfl rfl (gR 5 rfl (g_ldA 8 rfl rfl rfl ?_)))))))))))
  refine g_stA 7 rfl rfl rfl rfl rfl rfl rfl ?_
  exact gR 3 rfl (g_retC 7 rfl rfl rfl rfl rfl fun w M => ⟨⟨s.self, s.seq, s.raised, 1099511627777, s.hello, s.nextH, s.full, s.og, s.aj, s.sr, s.ro, s.ins, s.rq, s.av⟩, ⟨_, _, _, _, _, _, _⟩, ⟨e6, e7, e8, e9, e10, e11, e12⟩, _, rfl, ⟨i6, i7, i8, i9, i10, i11, i12, iq⟩, ⟨o6, o7, o8, o9, o10, o11, o12⟩, rowT (M.sub (subO (by (try dsimp only [RtE.row, List.cons_append, List.nil_append]);repeat (first | exact .refl _ | exact sC0 _ | with_reducible apply sC2 | apply sC1))))⟩)
 by_cases c3 : nxV xs k 10 = 3
 ·refine g_stA 8 rfl rfl rfl rfl rfl rfl rfl ?_
  refine gR 6 rfl (g_callT1 9 rfl rfl rfl (fun w M => next_c _ (by omega) (by omega) w (hT.later M.ext) (M.at_ _ (nthO_mem (i := 9) rfl))) rfl (gR 9 rfl (g_ifF rfl (dqF (by omega)) (gR 6 rfl (g_ifF rfl (dqF (by omega)) (gR 6 rfl (g_ifF rfl (dqF (by omega)) (gR 6 rfl (g_ifT rfl (dqT (by omega)) (gR 2 rfl (g_st1 8 rfl rfl rfl rfl rfl rfl (gR 5 rfl (g_ldA 8 rfl rfl rfl ?_)))))))))))))
  refine g_stA 7 rfl rfl rfl rfl rfl rfl rfl ?_
  exact gR 3 rfl (g_retC 7 rfl rfl rfl rfl rfl fun w M => ⟨⟨s.self, s.seq, s.raised, s.quiet, s.hello, -5, s.full, s.og, s.aj, s.sr, s.ro, s.ins, s.rq, s.av⟩, ⟨_, _, _, _, _, _, _⟩, ⟨e6, e7, e8, e9, e10, e11, e12⟩, _, rfl, ⟨i6, i7, i8, i9, i10, i11, i12, iq⟩, ⟨o6, o7, o8, o9, o10, o11, o12⟩, rowT (M.sub (subO (by (try dsimp only [RtE.row, List.cons_append, List.nil_append]);repeat (first | exact .refl _ | exact sC0 _ | with_reducible apply sC2 | apply sC1))))⟩)
 by_cases c4 : nxV xs k 10 = 4
 ·refine g_stA 8 rfl rfl rfl rfl rfl rfl rfl ?_
  refine gR 6 rfl (g_callT1 9 rfl rfl rfl (fun w M => next_c _ (by omega) (by omega) w (hT.later M.ext) (M.at_ _ (nthO_mem (i := 9) rfl))) rfl (gR 9 rfl (g_ifF rfl (dqF (by omega)) (gR 6 rfl (g_ifF rfl (dqF (by omega)) (gR 6 rfl (g_ifF rfl (dqF (by omega)) (gR 6 rfl (g_ifF rfl (dqF (by omega)) (gR 6 rfl (g_ifT rfl (dqT (by omega)) (gR 2 rfl (g_ld1 8 rfl rfl rfl (g_v (fun a w F M R r => o_build F rfl rfl r) (g_v (fun a w F M R r => o_build F rfl rfl r) (g_v (fun a w F M R r => o_build F rfl (og_mkS) r) (g_bs rfl rfl rfl (og_build1 ‹_›) (fun b38 => ?_))))))))))))))))))
  refine g_app 7 0 (enc := ogC) rfl rfl ‹_› rfl rfl (og_len ‹_›) (by first | omega | (simp only [List.length_nil];omega)) (fun _ => rfl) (fun v39 es39 hO39 => ?_) (og_one _)
  refine gR 1 rfl (g_st1 9 rfl rfl (own_one ‹_›) rfl rfl rfl ?_)
  refine gR 5 rfl (g_ldA 9 rfl rfl rfl ?_)
  obtain ⟨rN, cN, rfl, -⟩ := own_q hO39
  refine g_stA 8 rfl rfl rfl rfl rfl rfl rfl ?_
  exact gR 3 rfl (g_retC 8 rfl rfl rfl rfl rfl fun w M => ⟨⟨s.self, s.seq, s.raised, s.quiet, s.hello, s.nextH, s.full, s.og ++ [ogX], s.aj, s.sr, s.ro, s.ins, s.rq, s.av⟩, ⟨_, _, _, _, _, _, _⟩, ⟨_, e7, e8, e9, e10, e11, e12⟩, _, rfl, ⟨app_is i6 ogX_is, i7, i8, i9, i10, i11, i12, iq⟩, ⟨by assumption, o7, o8, o9, o10, o11, o12⟩, rowT (M.sub (subO (by (try dsimp only [RtE.row, List.cons_append, List.nil_append]);repeat (first | exact .refl _ | exact sC0 _ | with_reducible apply sC2 | apply sC1))))⟩)
 by_cases c5 : nxV xs k 10 = 5
 ·refine g_stA 8 rfl rfl rfl rfl rfl rfl rfl ?_
  refine gR 6 rfl (g_callT1 9 rfl rfl rfl (fun w M => next_c _ (by omega) (by omega) w (hT.later M.ext) (M.at_ _ (nthO_mem (i := 9) rfl))) rfl (gR 9 rfl (g_ifF rfl (dqF (by omega)) (gR 6 rfl (g_ifF rfl (dqF (by omega)) (gR 6 rfl (g_ifF rfl (dqF (by omega)) (gR 6 rfl (g_ifF rfl (dqF (by omega)) (gR 6 rfl (g_ifF rfl (dqF (by omega)) (gR 6 rfl (g_ifT rfl (dqT (by omega)) (gR 2 rfl (g_ld1 8 rfl rfl rfl (g_v (fun a w F M R r => o_build F rfl (aj_mkS) r) (g_bs rfl rfl rfl (aj_build1 trivial) (fun b46 => ?_))))))))))))))))))
  refine g_app 6 0 (enc := ajC) rfl rfl ‹_› rfl rfl (aj_len trivial) (by first | omega | (simp only [List.length_nil];omega)) (fun _ => rfl) (fun v47 es47 hO47 => ?_) (aj_one _)
  refine gR 1 rfl (g_st1 9 rfl rfl (own_one ‹_›) rfl rfl rfl ?_)
  refine gR 5 rfl (g_ldA 9 rfl rfl rfl ?_)
  obtain ⟨rN, cN, rfl, -⟩ := own_q hO47
  refine g_stA 8 rfl rfl rfl rfl rfl rfl rfl ?_
  exact gR 3 rfl (g_retC 8 rfl rfl rfl rfl rfl fun w M => ⟨⟨s.self, s.seq, s.raised, s.quiet, s.hello, s.nextH, s.full, s.og, s.aj ++ [⟨9, qu0, 0, 0⟩], s.sr, s.ro, s.ins, s.rq, s.av⟩, ⟨_, _, _, _, _, _, _⟩, ⟨e6, _, e8, e9, e10, e11, e12⟩, _, rfl, ⟨i6, app_is i7 (show IsAj _ from trivial), i8, i9, i10, i11, i12, app_is iq BdQu.zero⟩, ⟨o6, by assumption, o8, o9, o10, o11, o12⟩, rowT (M.sub (subO (by (try dsimp only [RtE.row, List.cons_append, List.nil_append]);repeat (first | exact .refl _ | exact sC0 _ | with_reducible apply sC2 | apply sC1))))⟩)
 by_cases c6 : nxV xs k 10 = 6
 ·refine g_stA 8 rfl rfl rfl rfl rfl rfl rfl ?_
  refine gR 6 rfl (g_callT1 9 rfl rfl rfl (fun w M => next_c _ (by omega) (by omega) w (hT.later M.ext) (M.at_ _ (nthO_mem (i := 9) rfl))) rfl (gR 9 rfl (g_ifF rfl (dqF (by omega)) (gR 6 rfl (g_ifF rfl (dqF (by omega)) (gR 6 rfl (g_ifF rfl (dqF (by omega)) (gR 6 rfl (g_ifF rfl (dqF (by omega)) (gR 6 rfl (g_ifF rfl (dqF (by omega)) (gR 6 rfl (g_ifF rfl (dqF (by omega)) (gR 6 rfl (g_ifT rfl (dqT (by omega)) (gR 2 rfl (g_ld1 8 rfl rfl rfl (g_v (fun a w F M R r => o_build F rfl rfl r) (g_v (fun a w F M R r => o_build F rfl rfl r) (gR 1 rfl (g_ld1 8 rfl rfl rfl (g_v (fun a w F M R r => o_build F rfl (dv_mkS _) r) (g_v (fun a w F M R r => o_build F rfl (ro_mkS _ ‹_› _) r) ?_)))))))))))))))))))))))
  refine g_bs rfl rfl rfl (ro_build1 ⟨by assumption, trivial⟩) (fun b59 => ?_)
  refine g_app 4 0 (enc := roC) rfl rfl ‹_› rfl rfl (ro_len ⟨by assumption, trivial⟩) (by first | omega | (simp only [List.length_nil];omega)) (fun _ => rfl) (fun v60 es60 hO60 => ?_) (ro_one _)
  refine gR 1 rfl (g_st1 9 rfl rfl (own_one ‹_›) rfl rfl rfl ?_)
  refine gR 5 rfl (g_ldA 9 rfl rfl rfl ?_)
  obtain ⟨rN, cN, rfl, -⟩ := own_q hO60
  refine g_stA 8 rfl rfl rfl rfl rfl rfl rfl ?_
  exact gR 3 rfl (g_retC 8 rfl rfl rfl rfl rfl fun w M => ⟨⟨s.self, s.seq, s.raised, s.quiet, s.hello, s.nextH, s.full, s.og, s.aj, s.sr, s.ro ++ [⟨dvX s.self, 9, di0, 0⟩], s.ins, s.rq, s.av⟩, ⟨_, _, _, _, _, _, _⟩, ⟨e6, e7, e8, _, e10, e11, e12⟩, _, rfl, ⟨i6, i7, i8, app_is i9 (show IsRo _ from ⟨dX, trivial⟩), i10, i11, i12, iq⟩, ⟨o6, o7, o8, by assumption, o10, o11, o12⟩, rowT (M.sub (subO (by (try dsimp only [RtE.row, List.cons_append, List.nil_append]);repeat (first | exact .refl _ | exact sC0 _ | with_reducible apply sC2 | apply sC1))))⟩)
 by_cases c7 : nxV xs k 10 = 7
 ·refine g_stA 8 rfl rfl rfl rfl rfl rfl rfl ?_
  refine gR 6 rfl (g_callT1 9 rfl rfl rfl (fun w M => next_c _ (by omega) (by omega) w (hT.later M.ext) (M.at_ _ (nthO_mem (i := 9) rfl))) rfl (gR 9 rfl (g_ifF rfl (dqF (by omega)) (gR 6 rfl (g_ifF rfl (dqF (by omega)) (gR 6 rfl (g_ifF rfl (dqF (by omega)) (gR 6 rfl (g_ifF rfl (dqF (by omega)) (gR 6 rfl (g_ifF rfl (dqF (by omega)) (gR 6 rfl (g_ifF rfl (dqF (by omega)) (gR 6 rfl (g_ifF rfl (dqF (by omega)) (gR 6 rfl (g_ifT rfl (dqT (by omega)) (gR 2 rfl (g_ld1 8 rfl rfl rfl (g_v (fun a w F M R r => o_build F rfl rfl r) (g_v (fun a w F M R r => o_build F rfl rfl r) (g_v (fun a w F M R r => o_build F rfl (dv_mkS _) r) (g_v (fun a w F M R r => o_build F rfl (in_mk3 _ ‹_› _ _) r) ?_)))))))))))))))))))))))
  refine g_bs rfl rfl rfl (in_build1 ⟨by assumption, trivial⟩) (fun b70 => ?_)
  refine g_app 3 0 (enc := inC) rfl rfl ‹_› rfl rfl (in_len ⟨by assumption, trivial⟩) (by first | omega | (simp only [List.length_nil];omega)) (fun _ => rfl) (fun v71 es71 hO71 => ?_) (in_one _)
  refine gR 1 rfl (g_st1 9 rfl rfl (own_one ‹_›) rfl rfl rfl ?_)
  refine gR 5 rfl (g_ldA 9 rfl rfl rfl ?_)
  obtain ⟨rN, cN, rfl, -⟩ := own_q hO71
  refine g_stA 8 rfl rfl rfl rfl rfl rfl rfl ?_
  exact gR 3 rfl (g_retC 8 rfl rfl rfl rfl rfl fun w M => ⟨⟨s.self, s.seq, s.raised, s.quiet, s.hello, s.nextH, s.full, s.og, s.aj, s.sr, s.ro, s.ins ++ [⟨dvX 99, 9, di0, -2, 0⟩], s.rq, s.av⟩, ⟨_, _, _, _, _, _, _⟩, ⟨e6, e7, e8, e9, _, e11, e12⟩, _, rfl, ⟨i6, i7, i8, i9, app_is i10 (show IsIn _ from ⟨dN, trivial⟩), i11, i12, iq⟩, ⟨o6, o7, o8, o9, by assumption, o11, o12⟩, rowT (M.sub (subO (by (try dsimp only [RtE.row, List.cons_append, List.nil_append]);repeat (first | exact .refl _ | exact sC0 _ | with_reducible apply sC2 | apply sC1))))⟩)
 by_cases c8 : nxV xs k 10 = 8
 ·refine g_stA 8 rfl rfl rfl rfl rfl rfl rfl ?_
  refine gR 6 rfl (g_callT1 9 rfl rfl rfl (fun w M => next_c _ (by omega) (by omega) w (hT.later M.ext) (M.at_ _ (nthO_mem (i := 9) rfl))) rfl (gR 9 rfl (g_ifF rfl (dqF (by omega)) (gR 6 rfl (g_ifF rfl (dqF (by omega)) (gR 6 rfl (g_ifF rfl (dqF (by omega)) (gR 6 rfl (g_ifF rfl (dqF (by omega)) (gR 6 rfl (g_ifF rfl (dqF (by omega)) (gR 6 rfl (g_ifF rfl (dqF (by omega)) (gR 6 rfl (g_ifF rfl (dqF (by omega)) (gR 6 rfl (g_ifF rfl (dqF (by omega)) (gR 6 rfl (g_ifT rfl (dqT (by omega)) (gR 3 rfl (g_st1 8 rfl rfl rfl rfl rfl rfl (gR 5 rfl (g_ldA 8 rfl rfl rfl ?_)))))))))))))))))))))))
  refine g_stA 7 rfl rfl rfl rfl rfl rfl rfl ?_
  exact gR 3 rfl (g_retC 7 rfl rfl rfl rfl rfl fun w M => ⟨⟨s.self, s.seq, s.raised, s.quiet, s.hello, s.nextH, -1, s.og, s.aj, s.sr, s.ro, s.ins, s.rq, s.av⟩, ⟨_, _, _, _, _, _, _⟩, ⟨e6, e7, e8, e9, e10, e11, e12⟩, _, rfl, ⟨i6, i7, i8, i9, i10, i11, i12, iq⟩, ⟨o6, o7, o8, o9, o10, o11, o12⟩, rowT (M.sub (subO (by (try dsimp only [RtE.row, List.cons_append, List.nil_append]);repeat (first | exact .refl _ | exact sC0 _ | with_reducible apply sC2 | apply sC1))))⟩)
 have sj : IsAj (⟨s.self, qu0, 0, 0⟩ : AdjV) := trivial
 refine g_stA 8 rfl rfl rfl rfl rfl rfl rfl ?_
 refine gR 6 rfl (g_callT1 9 rfl rfl rfl (fun w M => next_c _ (by omega) (by omega) w (hT.later M.ext) (M.at_ _ (nthO_mem (i := 9) rfl))) rfl (gR 9 rfl (g_ifF rfl (dqF (by omega)) (gR 6 rfl (g_ifF rfl (dqF (by omega)) (gR 6 rfl (g_ifF rfl (dqF (by omega)) (gR 6 rfl (g_ifF rfl (dqF (by omega)) (gR 6 rfl (g_ifF rfl (dqF (by omega)) (gR 6 rfl (g_ifF rfl (dqF (by omega)) (gR 6 rfl (g_ifF rfl (dqF (by omega)) (gR 6 rfl (g_ifF rfl (dqF (by omega)) (gR 6 rfl (g_ifF rfl (dqF (by omega)) (gR 1 rfl ?_))))))))))))))))))))
 refine g_drawE 9 78 (bt :: e7.map (·.1)) [5, 6, 7, 8] [] [[(bt, tobj p len cap (nxK xs k))], e7] [e12, e11, e10, e9, e8, e6, [(b4, Obj.cells (rtC rt0 rx0).toArray 53 (0, 0))], [(b3, Obj.cells (rtC s ⟨.slice r6 s.og.length d6, .slice r7 s.aj.length d7, .slice r8 s.sr.length d8, .slice r9 s.ro.length d9, .slice r10 s.ins.length d10, .slice r11 s.rq.length d11, .slice r12 s.av.length d12⟩).toArray 53 (0, 0))]] rfl (by kernel_rfl) rows_sp (by simp) (fe_start ?_)
 refine fe_run 60 rfl (fe_v (fun a2 w F M R r => o_loadH1 (F.e rfl) (M.at_ _ (nthO_mem (i := 7) rfl)) rfl r) (fe_run 60 rfl (fe_v (fun a2 w F M R r => o_loadH1 (F.e rfl) (M.at_ _ (nthO_mem (i := 7) rfl)) rfl r) (fe_run 60 rfl (fe_op (κ := QuaV × Nat) (fun _ j => .agg (quC j.1).toArray) (fun _ j => BdQu j.1) (fun _ j => [e12, e11, e10, e9, e8, e7, e6, [(b4, Obj.cells (rtC rt0 rx0).toArray 53 (0, 0))], [(b3, Obj.cells (rtC s ⟨.slice r6 s.og.length d6, .slice r7 s.aj.length d7, .slice r8 s.sr.length d8, .slice r9 s.ro.length d9, .slice r10 s.ins.length d10, .slice r11 s.rq.length d11, .slice r12 s.av.length d12⟩).toArray 53 (0, 0))], [(bt, tobj p len cap j.2)]]) [] .any (fun i hi => ?_) (fun _ _ _ _ => trivial) ?_)))))
 ·exact opf_callT 9 (fun j : QuaV × Nat => .agg (quC j.1).toArray) (fun j => BdQu j.1) (fun j => tobj p len cap j.2) (fun _ => []) rfl rfl rfl (.head _) (fun w M => Cal.mono (wquality_c w (hT.later M.ext) (M.at_ _ (nthO_mem (i := 9) rfl))) fun r w' h => by
   obtain ⟨o, k', ho, q, N⟩ := h
   exact ⟨(o, k'), q, ho.b, by simpa using N⟩) (fun _ => rfl)
 refine fe_op (κ := Unit) (fun i _ => .agg (ajC (⟨s.self, i.2.1, 0, 0⟩ : AdjV)).toArray) (fun _ _ => True) (fun i _ => [e12, e11, e10, e9, e8, e7, e6, [(b4, Obj.cells (rtC rt0 rx0).toArray 53 (0, 0))], [(b3, Obj.cells (rtC s ⟨.slice r6 s.og.length d6, .slice r7 s.aj.length d7, .slice r8 s.sr.length d8, .slice r9 s.ro.length d9, .slice r10 s.ins.length d10, .slice r11 s.rq.length d11, .slice r12 s.av.length d12⟩).toArray 53 (0, 0))], [(bt, tobj p len cap i.2.2)]]) [(5, 14)] .any (fun i hi => ?_) (fun _ _ _ _ => trivial) ?_
 ·exact OpF.mono (opf_v (fun a w F M R r => o_build F rfl (aj_mkQ _ _) r)) fun u r h => ⟨(), h.1, trivial, h.2⟩
 refine fe_op (κ := Nat) (fun _ j => .slice (some ⟨j, 0, none⟩) 1 1) (fun _ _ => True) (fun i j => [[(j, Obj.cells (ajC ⟨s.self, i.1.2.1, 0, 0⟩).toArray 124 (0, 0))], e12, e11, e10, e9, e8, e7, e6, [(b4, Obj.cells (rtC rt0 rx0).toArray 53 (0, 0))], [(b3, Obj.cells (rtC s ⟨.slice r6 s.og.length d6, .slice r7 s.aj.length d7, .slice r8 s.sr.length d8, .slice r9 s.ro.length d9, .slice r10 s.ins.length d10, .slice r11 s.rq.length d11, .slice r12 s.av.length d12⟩).toArray 53 (0, 0))], [(bt, tobj p len cap i.1.2.2)]]) [(6, 15)] .any (fun i hi => ?_) (fun _ _ _ _ => trivial) ?_
 ·exact opf_bs rfl rfl rfl (aj_build1 trivial)
 refine fe_op (κ := Value × List (Nat × Obj)) (fun _ j => j.1) (fun i j => OwnS 124 8 j.1 (s.aj ++ [(⟨s.self, i.1.1.2.1, 0, 0⟩ : AdjV)]).length (ajsC (s.aj ++ [(⟨s.self, i.1.1.2.1, 0, 0⟩ : AdjV)])) j.2) (fun i j => [[(i.2, Obj.cells (ajC ⟨s.self, i.1.1.2.1, 0, 0⟩).toArray 124 (0, 0))], e12, e11, e10, e9, e8, j.2, e6, [(b4, Obj.cells (rtC rt0 rx0).toArray 53 (0, 0))], [(b3, Obj.cells (rtC s ⟨.slice r6 s.og.length d6, .slice r7 s.aj.length d7, .slice r8 s.sr.length d8, .slice r9 s.ro.length d9, .slice r10 s.ins.length d10, .slice r11 s.rq.length d11, .slice r12 s.av.length d12⟩).toArray 53 (0, 0))], [(bt, tobj p len cap i.1.1.2.2)]]) [(7, 16)] .any (fun i hi => ?_) (fun _ _ _ _ => trivial) ?_
 ·exact opf_app2 (enc := ajC) (x0 := (⟨s.self, i.1.1.2.1, 0, 0⟩ : AdjV)) (f := fun e => [[(i.2, Obj.cells (ajC ⟨s.self, i.1.1.2.1, 0, 0⟩).toArray 124 (0, 0))], e12, e11, e10, e9, e8, e, e6, [(b4, Obj.cells (rtC rt0 rx0).toArray 53 (0, 0))], [(b3, Obj.cells (rtC s ⟨.slice r6 s.og.length d6, .slice r7 s.aj.length d7, .slice r8 s.sr.length d8, .slice r9 s.ro.length d9, .slice r10 s.ins.length d10, .slice r11 s.rq.length d11, .slice r12 s.av.length d12⟩).toArray 53 (0, 0))], [(bt, tobj p len cap i.1.1.2.2)]]) rfl rfl o7 rows_ap (fun q hq => List.mem_cons_of_mem _ (List.mem_map_of_mem hq)) (.head _) (aj_len trivial) (by omega) (by omega) (fun ent => rows_ap.symm) (aj_one _)
 refine fe_fin rfl (by rintro i _ q hq;simp at hq;rcases hq with rfl | rfl | rfl | rfl <;> simp) ?_
 rintro ⟨⟨⟨⟨_, o, k2⟩, _⟩, bz⟩, v17, e17⟩ ⟨⟨⟨⟨_, ho⟩, _⟩, _⟩, hO17⟩
 refine ⟨_, rfl, ?_⟩
 dsimp only at ho hO17 ⊢
 obtain ⟨rN, cN, rfl, -⟩ := own_q hO17
 refine gR 1 rfl (g_st1 9 rfl rfl (own_one ‹_›) rfl rfl rfl ?_)
 refine gR 5 rfl (g_ldA 9 rfl rfl rfl ?_)
 refine g_stA 8 rfl rfl rfl rfl rfl rfl rfl ?_
 exact gR 3 rfl (g_retC 8 rfl rfl rfl rfl rfl fun w M => ⟨⟨s.self, s.seq, s.raised, s.quiet, s.hello, s.nextH, s.full, s.og, s.aj ++ [⟨s.self, o, 0, 0⟩], s.sr, s.ro, s.ins, s.rq, s.av⟩, ⟨_, _, _, _, _, _, _⟩, ⟨e6, e17, e8, e9, e10, e11, e12⟩, _, rfl, ⟨i6, app_is i7 (show IsAj _ from trivial), i8, i9, i10, i11, i12, app_is iq ho⟩, ⟨o6, hO17, o8, o9, o10, o11, o12⟩, rowT (M.sub (subO (by (try dsimp only [RtE.row, List.cons_append, List.nil_append]);repeat (first | exact .refl _ | exact sC0 _ | with_reducible apply sC2 | apply sC1))))⟩)
end Go.Proofs.YtfhkmgcalcfibaaGreat
namespace Go.Proofs.YtfhkmgcalcfibaaGreat
open Go.RowKit
def AtE (sz : Nat) (v : Value) (n : Nat) (xs : List Value) (ent : List (Nat × Obj)) : Prop :=
 ∃ p cap, v = .slice p n cap ∧ n ≤ cap ∧ xs.length = n * sz ∧ (0 < n → ∃ b o cs t fz, p = some ⟨b, o, none⟩ ∧ ent = [(b, .cells (List.toArray cs) t fz)] ∧ seg cs o (n * sz) = some xs)
theorem AtE.slAt {sz : Nat} {v : Value} {n : Nat} {xs : List Value} {ent : List (Nat × Obj)} {w : World} (h : AtE sz v n xs ent) (hat : ∀ p ∈ ent, w.heap[p.1]? = some p.2) : SlAt w sz v n xs := by
 obtain ⟨p, cap, h1, h2, h3, h4⟩ := h
 refine ⟨p, cap, h1, h2, fun _ _ => trivial, h3, fun hn => ?_⟩
 obtain ⟨b, o, cs, t, fz, h5, rfl, h6⟩ := h4 hn
 exact ⟨b, o, cs, t, fz, h5, hat _ List.mem_cons_self, h6⟩
theorem OwnS.atE {e : TypeId} {sz : Nat} {v : Value} {n : Nat} {xs : List Value} {ent : List (Nat × Obj)} (h : OwnS e sz v n xs ent) : AtE sz v n xs ent := by
 rcases h with ⟨rfl, rfl, rfl, rfl⟩ | ⟨b, cap, junk, rfl, rfl, hxl, hjl, hnc⟩
 ·exact ⟨none, 0, rfl, Nat.le_refl _, by simp, fun h => absurd h (by omega)⟩
 ·exact ⟨_, cap, rfl, hnc, hxl, fun _ => ⟨b, 0, _, e, _, rfl, rfl, by rw [← hxl];simpa using seg_of [] xs junk⟩⟩
attribute [local irreducible] OpTo wpListIn Code.wpIn MW Cal
structure RtA (s : RtV) (x : RtX) (e : RtE) : Prop where
 og : AtE 34 x.og s.og.length (ogsC s.og) e.og
 aj : AtE 8 x.aj s.aj.length (ajsC s.aj) e.aj
 sr : AtE 38 x.sr s.sr.length (srsC s.sr) e.sr
 ro : AtE 39 x.ro s.ro.length (rosC s.ro) e.ro
 ins : AtE 40 x.ins s.ins.length (insC s.ins) e.ins
 rq : AtE 40 x.rq s.rq.length (rqsC s.rq) e.rq
 av : AtE 37 x.av s.av.length (avsC s.av) e.av
theorem RtOw.at_E {s : RtV} {x : RtX} {e : RtE} (h : RtOw s x e) : RtA s x e := ⟨h.og.atE, h.aj.atE, h.sr.atE, h.ro.atE, h.ins.atE, h.rq.atE, h.av.atE⟩
theorem RtA.at_ {s : RtV} {x : RtX} {e : RtE} (h : RtA s x e) {w : World} (hs : ∀ p ∈ e.row.flatten, w.heap[p.1]? = some p.2) : RtAt w s x :=
 ⟨h.og.slAt fun q hq => hs q (List.mem_flatten_of_mem (by simp [RtE.row]) hq), h.aj.slAt fun q hq => hs q (List.mem_flatten_of_mem (by simp [RtE.row]) hq), h.sr.slAt fun q hq => hs q (List.mem_flatten_of_mem (by simp [RtE.row]) hq), h.ro.slAt fun q hq => hs q (List.mem_flatten_of_mem (by simp [RtE.row]) hq), h.ins.slAt fun q hq => hs q (List.mem_flatten_of_mem (by simp [RtE.row]) hq), h.rq.slAt fun q hq => hs q (List.mem_flatten_of_mem (by simp [RtE.row]) hq), h.av.slAt fun q hq => hs q (List.mem_flatten_of_mem (by simp [RtE.row]) hq)⟩
end Go.Proofs.YtfhkmgcalcfibaaGreat
namespace Go.Proofs.YtfhkmgcalcfibaaGreat
open Go.RowKit
attribute [local irreducible] OpTo wpListIn Code.wpIn MW Cal
def x0 : AdvV := ⟨⟨[], 0, [], 0, 0⟩, ⟨0, 0⟩⟩
def LoK (T l : List AdvV) (i k : Nat) : Prop := ∀ j (hj : j < T.length) i' (hi : i' < l.length), j < k → i ≤ i' → cmpD T[j].to l[i'].to < 0
theorem asc_at {l : List AdvV} (h : AscA l) {i j : Nat} (hi : i < l.length) (hj : j < l.length) (hij : i < j) : cmpD l[i].to l[j].to < 0 := List.pairwise_iff_getElem.1 h i j hi hj hij
theorem LoK.next {T l : List AdvV} {i k : Nat} (h : LoK T l i k) : LoK T l (i + 1) k := fun j hj i' hi h1 h2 => h j hj i' hi h1 (by omega)
theorem LoK.skip {T l : List AdvV} {i k : Nat} (h : LoK T l i k) (hl : AscA l) (hk : k < T.length) (hlt : ∀ hi : i < l.length, cmpD T[k].to l[i].to < 0) : LoK T l i (k + 1) := fun j hj i' hi' h1 h2 => by
 rcases Nat.lt_or_ge j k with h3 | h3
 ·exact h j hj i' hi' h3 h2
 ·obtain rfl : j = k := by omega
  rcases Nat.lt_or_ge i i' with h4 | h4
  ·exact cmpD_trans (hlt (by omega)) (asc_at hl (by omega) hi' h4)
  ·obtain rfl : i = i' := by omega
   exact hlt hi'
theorem Mem.empty (w : World) : Mem [] w w [] := ⟨Ext.refl _ _, fun p hp => (by cases hp), by simp, fun p hp => (by cases hp)⟩
theorem MapIn.mk {κ : Type} {w : World} {kv : κ → Value} {b : Nat} {o : Obj} {m : List (κ × Value)} (h : w.heap[b]? = some o) (hA : MapAt kv m o) : MapIn w kv (.map (some b)) m := ⟨b, o, rfl, h, hA⟩
def VarI (l s m : List AdvV) : Prop := (m.map AdvV.to).Sublist (s.map AdvV.to) ∧ ∀ y ∈ m, IsAv y ∧ (validM y.own.met = true ∨ ∃ z ∈ l, z.own = y.own)
theorem VarI.add {l s m : List AdvV} {x y : AdvV} (h : VarI l s m) (e : y.to = x.to) (hy : IsAv y ∧ (validM y.own.met = true ∨ ∃ z ∈ l, z.own = y.own)) : VarI l (s ++ [x]) (m ++ [y]) := by
 refine ⟨?_, fun z hz => ?_⟩
 ·rw [List.map_append, List.map_append, List.map_singleton, List.map_singleton, e]
  exact h.1.append (List.Sublist.refl _)
 ·rcases List.mem_append.1 hz with h1 | h1
  ·exact h.2 z h1
  ·simp only [List.mem_singleton] at h1
   rw [h1];exact hy
theorem VarI.skip {l s m : List AdvV} {x : AdvV} (h : VarI l s m) : VarI l (s ++ [x]) m := ⟨by rw [List.map_append];exact h.1.trans (List.sublist_append_left _ _), h.2⟩
theorem VarI.valid {l m : List AdvV} (h : VarI l l m) (hv : validAs l = true) : validAs m = true := by
 obtain ⟨v1, v2, v3⟩ := validAs_iff.1 hv
 have hlen : m.length ≤ l.length := by simpa using h.1.length_le
 refine validAs_iff.2 ⟨by omega, fun y hy => ⟨?_, ?_⟩, ?_⟩
 ·have : y.to ∈ l.map AdvV.to := h.1.subset (List.mem_map_of_mem hy)
  obtain ⟨z, hz, e⟩ := List.mem_map.1 this
  rw [← e]
  exact (v2 z hz).1
 ·rcases (h.2 y hy).2 with h1 | ⟨z, hz, e⟩
  ·exact h1
  ·rw [← e]
   exact (v2 z hz).2
 ·have h3 : (l.map AdvV.to).Pairwise fun a b => cmpD a b < 0 := List.pairwise_map.2 v3
  exact List.pairwise_map.1 (h3.sublist h.1)
theorem aj_mkF (n : Int) (q : QuaV) (a b : Int) : putAll [(0, 1), (1, 5), (6, 1), (7, 1)] ajZ [(0, [.int .u64 n]), (1, quC q), (2, [.int .i64 a]), (3, [.int .i64 b])] = some (ajC ⟨n, q, a, b⟩) := rfl
theorem rows_rp {a b c f t : List (Nat × Obj)} : ([f, a, b, c, t] : Row).flatten.Perm (([t, f] : Row).flatten ++ ([a, b, c] : Row).flatten) := by
 simp only [List.flatten_cons, List.flatten_nil, List.append_nil]
 classical
 rw [List.perm_iff_count]
 intro x
 simp only [List.count_append]
 omega
theorem rows_rq {z a b c f t : List (Nat × Obj)} : ([z, f, a, b, c, t] : Row).flatten.Perm (f ++ ([z, a, b, c, t] : Row).flatten) := by
 simp only [List.flatten_cons, List.flatten_nil, List.append_nil]
 classical
 rw [List.perm_iff_count]
 intro x
 simp only [List.count_append]
 omega
theorem AtE.q {sz : Nat} {v : Value} {n : Nat} {xs : List Value} {ent : List (Nat × Obj)} (h : AtE sz v n xs ent) : ∃ p cap, v = .slice p n cap := by
 obtain ⟨p, cap, h1, _⟩ := h
 exact ⟨p, cap, h1⟩
theorem AtE.mem {sz : Nat} {p : Option Addr} {n m cap : Nat} {xs : List Value} {ent : List (Nat × Obj)} (h : AtE sz (.slice p m cap) n xs ent) (hn : 0 < n) : ∃ b o cs t fz, p = some ⟨b, o, none⟩ ∧ ent = [(b, .cells (List.toArray cs) t fz)] ∧ seg cs o (n * sz) = some xs := by
 obtain ⟨p', cap', h1, _, _, h4⟩ := h
 cases h1
 exact h4 hn
theorem own_newV {e : TypeId} {sz n bt : Nat} {o : Obj} {v : Value} {xs : List Value} {ent r : List (Nat × Obj)} {W w : World} (h : OwnS e sz v n xs ent) (M : Mem [bt] W w (ent ++ r)) (hr : (bt, o) ∈ r) (hbt : bt < W.heap.size) : NewV (bt + 1) v := by
 rcases h with ⟨rfl, _⟩ | ⟨b, cap, j, rfl, rfl, _⟩
 ·intro b o s n c h;cases h
 ·intro b' o' s' n' c' h
  cases h
  have h1 := M.own (b, _) (List.mem_append_left _ List.mem_cons_self)
  have h2 := M.nd
  simp only [List.map_append, List.map_cons, List.map_nil, List.singleton_append, List.nodup_cons] at h2
  have h3 : b ≠ bt := fun e => h2.1 (e ▸ List.mem_map_of_mem (f := (·.1)) hr)
  rcases h1 with h1 | h1
  ·exact absurd (List.mem_singleton.1 h1) h3
  ·show bt + 1 ≤ b
   have : W.heap.size ≤ b := h1
   omega
theorem sub_skip {α : Type} {out l : List α} {i : Nat} (h : out.Sublist (l.take i)) : out.Sublist (l.take (i + 1)) := h.trans (List.take_sublist_take_left (Nat.le_succ i))
theorem sub_app {α : Type} {out l : List α} {i : Nat} {x : α} (hi : i < l.length) (hx : x = l[i]) (h : out.Sublist (l.take i)) : (out ++ [x]).Sublist (l.take (i + 1)) := by
 rw [List.take_succ_eq_append_getElem hi, ← hx]
 exact h.append (List.Sublist.refl _)
theorem rtAnn_is {s : RtV} (hs : IsRt s) : ∀ x ∈ rtAnn s, IsAv x := fun x hx => by
 unfold rtAnn at hx
 split at hx
 ·exact annL_is hs x ((annV_perm s).mem_iff.1 hx)
 ·exact (List.not_mem_nil hx).elim
theorem rtAnn_len (s : RtV) : (rtAnn s).length ≤ 1000 := by
 unfold rtAnn
 split
 ·rename_i h
  have h1 := (validOgs_iff.1 (rtV_of h).1).1
  have h2 := (validIs_iff.1 (rtV_of h).2.1).1
  rw [(annV_perm s).length_eq]
  unfold annL
  rw [List.length_append, List.length_map, List.length_map]
  omega
 ·simp
structure VrI (l m : List AdvV) : Prop where
 s : (m.map (·.to)).Sublist (l.map (·.to))
 v : ∀ y ∈ m, validM y.own.met = true
theorem VrI.nil {l : List AdvV} : VrI (l.take 0) [] := ⟨by simp, fun y hy => (List.not_mem_nil hy).elim⟩
theorem VrI.len {l m : List AdvV} (h : VrI l m) : m.length ≤ l.length := by simpa using h.s.length_le
theorem VrI.skip {l m : List AdvV} {i : Nat} (h : VrI (l.take i) m) (hi : i < l.length) : VrI (l.take (i + 1)) m := ⟨h.s.trans ((List.take_sublist_take_left (Nat.le_succ i)).map _), h.v⟩
theorem VrI.add {l m : List AdvV} {i : Nat} {x : AdvV} (h : VrI (l.take i) m) (hi : i < l.length) (hx : x.to = l[i].to) (hv : validM x.own.met = true) : VrI (l.take (i + 1)) (m ++ [x]) := by
 refine ⟨?_, app_is h.v hv⟩
 rw [List.take_succ_eq_append_getElem hi, List.map_append, List.map_append]
 exact h.s.append (by simp [hx])
theorem ascA_map {m : List AdvV} : AscA m ↔ AscD (m.map (·.to)) := by
 unfold AscA AscK AscD AscC
 rw [List.pairwise_map]
theorem VrI.valid {l m : List AdvV} (hl : validAs l = true) (h : VrI l m) : validAs m = true := by
 obtain ⟨g1, g2, g3⟩ := validAs_iff.1 hl
 refine validAs_iff.2 ⟨Nat.le_trans h.len g1, fun a ha => ⟨?_, h.v a ha⟩, ?_⟩
 ·have := h.s.subset (List.mem_map_of_mem (f := (·.to)) ha)
  obtain ⟨z, hz, e⟩ := List.mem_map.1 this
  rw [← e]
  exact (g2 z hz).1
 ·exact ascA_map.2 (List.Pairwise.sublist h.s (ascA_map.1 g3))
theorem rtAnn_valid {s : RtV} (hs : IsRt s) : validAs (rtAnn s) = true := by
 unfold rtAnn
 split
 ·rename_i h
  obtain ⟨h1, h2, h3⟩ := rtV_of h
  obtain ⟨a1, a2, _⟩ := validOgs_iff.1 h1
  obtain ⟨b1, b2, _⟩ := validIs_iff.1 h2
  refine validAs_iff.2 ⟨?_, fun a ha => ?_, annV_asc hs h⟩
  ·rw [(annV_perm s).length_eq]
   unfold annL
   rw [List.length_append, List.length_map, List.length_map]
   omega
  ·rcases List.mem_append.1 ((annV_perm s).mem_iff.1 ha) with k | k
   ·obtain ⟨o, ho, rfl⟩ := List.mem_map.1 k
    exact ⟨a2 o ho, rfl⟩
   ·obtain ⟨z, hz, rfl⟩ := List.mem_map.1 k
    have := b2 z hz
    unfold ins1 at this
    rw [Bool.and_eq_true] at this
    refine ⟨this.1, ?_⟩
    have h5 := this.2
    split at h5
    ·simp only [Bool.and_eq_true, decide_eq_true_eq] at h5
     show validM z.own.met = true
     rw [h5.1.1]
     rfl
    ·simp only [Bool.and_eq_true] at h5
     exact (fin_m h5.1.1).1
 ·rfl
theorem varyB_c {bt : Nat} {p : Option Addr} {len cap k : Nat} {xs : List Int} (l : List AdvV) (hx : ∀ x ∈ l, IsAv x) (hlv : validAs l = true) (hlen : l.length ≤ 100000) (v : Value) (W : World) (hS : SlAt W 37 v l.length (avsC l)) (hnb : ∀ b o s k c, v = .slice (some ⟨b, o, s⟩) k c → b ∉ [bt]) (hT : TapeS W bt p len xs) (hb : W.heap[bt]? = some (tobj p len cap k)) : Cal Tryz.prog 64 [.pointer (some ⟨bt, 0, none⟩), v].toArray W fun r w' => ∃ (m : List AdvV) (k' : Nat) (ent : List (Nat × Obj)), OwnS 100 37 r m.length (avsC m) ent ∧ (∀ x ∈ m, IsAv x) ∧ validAs m = true ∧ Mem [bt] W w' ((bt, tobj p len cap k') :: ent) := by
 obtain ⟨q, qc, rfl, _⟩ := id hS
 have hm := hS.memB [bt] (fun b o s e => hnb b o s _ _ (by rw [e]))
 refine g_startB (n := 33) [bt] hb (by simp) fldT_ok slcT_ok Tryz.func64 rfl rfl rfl (gR 19 rfl (g_pad ?_))
 refine g_loop (ι := Nat × (List AdvV) × Value × (List (Nat × Obj)) × Nat) ⟨fun (i, out, u, es, k) => l.length - i, fun (i, out, u, es, k) => i ≤ l.length ∧ OwnS 100 37 u out.length (avsC out) es ∧ (∀ y ∈ out, IsAv y) ∧ VrI (l.take i) out, fun (i, out, u, es, k) => [(10, .int .i64 i), (9, .int .i64 l.length), (8, .slice q l.length qc), (5, u), (0, .pointer (some ⟨bt, 0, none⟩))], fun (i, out, u, es, k) => [es, [(bt, tobj p len cap k)]]⟩ (0, [], _, [], _) ⟨by first | omega | (dsimp only;omega), OwnS.nilL _ _ _, fun y hy => (List.not_mem_nil hy).elim, VrI.nil⟩ (fun a F => F.only [10, 9, 8, 5, 0] rfl) (by repeat (first | exact .refl _ | apply sC2 | apply sC1)) ?_
 rintro ⟨i, out, u, es, k⟩ ⟨hi, hOs, hI, hvr⟩
 dsimp only at hi hOs hI hvr ⊢
 have hol : out.length ≤ i := Nat.le_trans hvr.len (by rw [List.length_take];omega)
 by_cases hlt : i < l.length
 ·obtain ⟨b, o, cs, t', fz, rfl, hbw, hs⟩ := hm (by omega)
  obtain ⟨y, hy0⟩ : ∃ y, y = l[i] := ⟨_, rfl⟩
  have hyi : IsAv y := by rw [hy0];exact hx _ (List.getElem_mem hlt)
  have f1 : seg cs (o + (i : Int).toNat * 37) 37 = some (avC y) := by rw [hy0];exact seg_el (avs_len hx) hs hlt (by omega)
  have hyv : validM y.own.met = true := ((validAs_iff.1 hlv).2.1 y (by rw [hy0];exact List.getElem_mem hlt)).2
  have n5 := nxV_bd xs k (n := 5) (by omega)
  refine gR 6 rfl (g_ifT rfl (dqT (by omega)) (gR 6 rfl (g_ixS rfl rfl (by omega) (by omega) (g_leA rfl ‹_› (by with_reducible assumption) ?_))))
  refine g_alloc fun b7 => g_stA 0 rfl rfl (av_len ‹_›) (av_one _) rfl (put_all (by rw [av_len ‹_›];first | rfl | rw [av_len ‹_›])) rfl ?_
  refine gR 6 rfl (g_callT1 2 rfl rfl rfl (fun w M => next_c _ (by omega) (by omega) w (hT.later M.ext) (M.at_ _ (nthO_mem (i := 2) rfl))) rfl (gR 3 rfl (g_cutC (ι := AdvV × Nat) ⟨fun (x, k) => IsAv x ∧ x.to = y.to ∧ validM x.own.met = true, fun (x, k) => [(7, .pointer (some ⟨b7, 0, none⟩)), (10, .int .i64 i), (9, .int .i64 l.length), (8, .slice (some ⟨b, o, none⟩) l.length qc), (5, u), (0, .pointer (some ⟨bt, 0, none⟩))], fun (x, k) => [[(b7, .cells (avC x).toArray 100 (0, 0))], es, [(bt, tobj p len cap k)]]⟩ ?_ ?_)))
  ·refine gR 6 rfl ?_
   refine g_if rfl (fun h1 => ?_) (fun h1 => ?_)
   ·replace h1 := dqU h1
    refine gR 1 rfl (g_jX (gR 5 rfl (g_add rfl rfl (w_i64 (by omega) (by omega)) (gR 2 rfl ?_))))
    exact g_next (i + 1, out, _, _, _) ⟨by dsimp only;omega, hOs, hI, hvr.skip hlt⟩ (by dsimp only;omega) (fun a F => F.only [10, 9, 8, 5, 0] rfl) (by (try dsimp only);repeat (first | exact .refl _ | with_reducible exact sC0 _ | with_reducible apply sC2 | apply sC1))
   replace h1 := dqV h1
   refine gR 6 rfl (g_if rfl (fun h2 => ?_) (fun h2 => ?_))
   focus
    replace h2 := dqU h2
    refine gR 2 rfl ?_
   rotate_left 1
   focus
    replace h2 := dqV h2
    refine gR 6 rfl (g_if rfl (fun h3 => ?_) (fun h3 => ?_))
    ·replace h3 := dqU h3
     refine gR 3 rfl (g_st1 0 rfl rfl rfl rfl (av_put_own_met ‹_› _) rfl ?_)
     exact gR 1 rfl (g_join ({ y with own := { y.own with met := 65535 } }, _) ⟨⟨hyi.1, trivial⟩, rfl, rfl⟩ (fun a F => F.only [7, 10, 9, 8, 5, 0] rfl) (by (try dsimp only);repeat (first | exact .refl _ | with_reducible exact sC0 _ | with_reducible apply sC2 | apply sC1)))
    ·replace h3 := dqV h3
     exact gR 1 rfl (g_join (y, _) ⟨hyi, rfl, hyv⟩ (fun a F => F.only [7, 10, 9, 8, 5, 0] rfl) (by (try dsimp only);repeat (first | exact .refl _ | with_reducible exact sC0 _ | with_reducible apply sC2 | apply sC1)))
   refine g_callT (ι := DisV × Nat) 2 (fun j => diV j.1) (fun j => finD j.1 = true) (fun j => tobj p len cap j.2) (fun _ => []) rfl rfl rfl (fun w M => Cal.mono (distE_c w (hT.later M.ext) (M.at_ _ (nthO_mem (i := 2) rfl))) fun r w' h => by
     obtain ⟨x, k', q, h1, N⟩ := h
     exact ⟨(x, k'), q, fin_of h1, by simpa using N⟩) (fun _ => rfl) ?_
   rintro ⟨di, k2⟩ div
   dsimp only [List.nil_append] at div ⊢
   unfold diV
   refine gR 1 rfl (g_stA 0 rfl rfl (di_len trivial) (di_one _) rfl (av_put_own ‹_› trivial) rfl ?_)
   exact gR 1 rfl (g_join ({ y with own := di }, _) ⟨⟨hyi.1, trivial⟩, rfl, (fin_m div).1⟩ (fun a F => F.only [7, 10, 9, 8, 5, 0] rfl) (by (try dsimp only);repeat (first | exact .refl _ | with_reducible exact sC0 _ | with_reducible apply sC2 | apply sC1)))
  rintro ⟨x, k2⟩ ⟨xI, xt, xv⟩
  dsimp only at xI xt xv ⊢
  refine gR 4 rfl (g_ldA 0 rfl rfl (av_all ‹_›) ?_)
  refine g_bs rfl rfl rfl (av_build1 ‹_›) (fun b29 => ?_)
  refine g_app 2 0 (enc := avC) rfl rfl ‹_› rfl rfl (av_len ‹_›) (by first | omega | (simp only [List.length_nil];omega)) (fun _ => rfl) (fun v30 es30 hO30 => ?_) (av_one _)
  refine gR 5 rfl (g_add rfl rfl (w_i64 (by omega) (by omega)) (gR 2 rfl ?_))
  exact g_next (i + 1, out ++ [x], _, _, _) ⟨by dsimp only;omega, by assumption, app_is hI xI, hvr.add hlt (xt.trans (congrArg _ hy0)) xv⟩ (by dsimp only;omega) (fun a F => F.only [10, 9, 8, 5, 0] rfl) (by (try dsimp only);repeat (first | exact .refl _ | with_reducible exact sC0 _ | with_reducible apply sC2 | apply sC1))
 ·refine gR 6 rfl ?_
  exact g_ifF rfl (dqF (by omega)) (gR 2 rfl (g_outX (gR 9 rfl (g_ret1 rfl rfl rfl fun w M => ⟨out, _, es, hOs, hI, VrI.valid hlv (by rw [List.take_of_length_le (by omega)] at hvr;exact hvr), M.perm List.perm_append_comm⟩))))
end Go.Proofs.YtfhkmgcalcfibaaGreat

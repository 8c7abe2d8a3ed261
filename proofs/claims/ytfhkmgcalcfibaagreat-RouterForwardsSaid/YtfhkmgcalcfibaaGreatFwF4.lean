/-
  Texts joined.
-/
import Derived.Test.YtfhkmgcalcfibaaGreatFwF3
import Derived.Shelf.SlSortCmp.WholeK
import Derived.Shelf.SlSortCmp.NoneTotal
import Derived.Test.YtfhkmgcalcfibaaGreatProg
set_option linter.unusedVariables false
set_option linter.unusedSimpArgs false
set_option maxHeartbeats 64000000
namespace Go.Proofs.YtfhkmgcalcfibaaGreat
open Go.ChangeShapes Go.WideShapes Go.ChangeAt Go.RowKit
section
variable {H : Type} {enc : TypeId × Value → H} {w : World} {base : Nat} {sp : Nat → Bool} {held : Bool}
set_option maxRecDepth 100000 in
theorem Zt6 (n : Nat) (cs : List Value) (y : DataW H × List MemPlace) (h : DataW.trod enc Tryz.prog w base sp held n 67 cs = some y) : ∃ x : DstV, IsDv x ∧ cs = dvC x := by
 have hw := Zcf 8 67 (List.replicate 16 (.i .u8) ++ (.i .i64 :: (List.replicate 16 (.i .u8) ++ [.i .i64, .i .u64]))) (by kernel_rfl) n cs y h (.inl (by kernel_rfl))
 obtain ⟨c0, c1, rfl, h1, h2⟩ := ZbD hw
 obtain ⟨a1, rfl, hl1, hb1⟩ := Zfe c0 16 h1
 obtain ⟨x1, c2, rfl, g1, h3⟩ := ZaL h2
 obtain ⟨c3, c4, rfl, h4, h5⟩ := ZbD (ks := List.replicate 16 (LK.i .u8)) (ks' := [LK.i .i64, .i .u64]) h3
 obtain ⟨a2, rfl, hl2, hb2⟩ := Zfe c3 16 h4
 obtain ⟨n1, rfl, _, _⟩ := ZaT g1
 obtain ⟨y0, d0, rfl, k0, r0⟩ := ZaL h5
 obtain ⟨m0, rfl, _, _⟩ := ZaT k0
 obtain ⟨y1, d1, rfl, k1, r1⟩ := ZaL r0
 obtain ⟨m1, rfl, _, _⟩ := ZaT k1
 obtain rfl := ZeC r1
 exact ⟨⟨a1, n1, a2, m0, m1⟩, ⟨⟨hl1, hb1⟩, ⟨hl2, hb2⟩⟩, by simp [dvC, pfC]⟩
set_option maxRecDepth 100000 in
theorem Zt5 (n : Nat) (cs : List Value) (y : DataW H × List MemPlace) (h : DataW.trod enc Tryz.prog w base sp held n 74 cs = some y) : ∃ x : InsV, IsIn x ∧ cs = inC x := by
 have hw := Zcf 8 74 (List.replicate 16 (.i .u8) ++ (.i .i64 :: (List.replicate 16 (.i .u8) ++ [.i .i64, .i .u64, .i .u64, .i .u16, .i .i64, .i .i64, .i .i64]))) (by kernel_rfl) n cs y h (.inl (by kernel_rfl))
 obtain ⟨c0, c1, rfl, h1, h2⟩ := ZbD hw
 obtain ⟨a1, rfl, hl1, hb1⟩ := Zfe c0 16 h1
 obtain ⟨x1, c2, rfl, g1, h3⟩ := ZaL h2
 obtain ⟨c3, c4, rfl, h4, h5⟩ := ZbD (ks := List.replicate 16 (LK.i .u8)) (ks' := [LK.i .i64, .i .u64, .i .u64, .i .u16, .i .i64, .i .i64, .i .i64]) h3
 obtain ⟨a2, rfl, hl2, hb2⟩ := Zfe c3 16 h4
 obtain ⟨n1, rfl, _, _⟩ := ZaT g1
 obtain ⟨y0, d0, rfl, k0, r0⟩ := ZaL h5
 obtain ⟨m0, rfl, _, _⟩ := ZaT k0
 obtain ⟨y1, d1, rfl, k1, r1⟩ := ZaL r0
 obtain ⟨m1, rfl, _, _⟩ := ZaT k1
 obtain ⟨y2, d2, rfl, k2, r2⟩ := ZaL r1
 obtain ⟨m2, rfl, _, _⟩ := ZaT k2
 obtain ⟨y3, d3, rfl, k3, r3⟩ := ZaL r2
 obtain ⟨m3, rfl, _, _⟩ := ZaT k3
 obtain ⟨y4, d4, rfl, k4, r4⟩ := ZaL r3
 obtain ⟨m4, rfl, _, _⟩ := ZaT k4
 obtain ⟨y5, d5, rfl, k5, r5⟩ := ZaL r4
 obtain ⟨m5, rfl, _, _⟩ := ZaT k5
 obtain ⟨y6, d6, rfl, k6, r6⟩ := ZaL r5
 obtain ⟨m6, rfl, _, _⟩ := ZaT k6
 obtain rfl := ZeC r6
 exact ⟨⟨⟨a1, n1, a2, m0, m1⟩, m2, ⟨m3, m4⟩, m5, m6⟩, ⟨⟨⟨hl1, hb1⟩, ⟨hl2, hb2⟩⟩, trivial⟩, by simp [inC, dvC, diC, pfC]⟩
set_option maxRecDepth 100000 in
theorem Zt3 (n : Nat) (cs : List Value) (y : DataW H × List MemPlace) (h : DataW.trod enc Tryz.prog w base sp held n 76 cs = some y) : ∃ x : RouV, IsRo x ∧ cs = roC x := by
 have hw := Zcf 8 76 (List.replicate 16 (.i .u8) ++ (.i .i64 :: (List.replicate 16 (.i .u8) ++ [.i .i64, .i .u64, .i .u64, .i .u16, .i .i64, .i .i64]))) (by kernel_rfl) n cs y h (.inl (by kernel_rfl))
 obtain ⟨c0, c1, rfl, h1, h2⟩ := ZbD hw
 obtain ⟨a1, rfl, hl1, hb1⟩ := Zfe c0 16 h1
 obtain ⟨x1, c2, rfl, g1, h3⟩ := ZaL h2
 obtain ⟨c3, c4, rfl, h4, h5⟩ := ZbD (ks := List.replicate 16 (LK.i .u8)) (ks' := [LK.i .i64, .i .u64, .i .u64, .i .u16, .i .i64, .i .i64]) h3
 obtain ⟨a2, rfl, hl2, hb2⟩ := Zfe c3 16 h4
 obtain ⟨n1, rfl, _, _⟩ := ZaT g1
 obtain ⟨y0, d0, rfl, k0, r0⟩ := ZaL h5
 obtain ⟨m0, rfl, _, _⟩ := ZaT k0
 obtain ⟨y1, d1, rfl, k1, r1⟩ := ZaL r0
 obtain ⟨m1, rfl, _, _⟩ := ZaT k1
 obtain ⟨y2, d2, rfl, k2, r2⟩ := ZaL r1
 obtain ⟨m2, rfl, _, _⟩ := ZaT k2
 obtain ⟨y3, d3, rfl, k3, r3⟩ := ZaL r2
 obtain ⟨m3, rfl, _, _⟩ := ZaT k3
 obtain ⟨y4, d4, rfl, k4, r4⟩ := ZaL r3
 obtain ⟨m4, rfl, _, _⟩ := ZaT k4
 obtain ⟨y5, d5, rfl, k5, r5⟩ := ZaL r4
 obtain ⟨m5, rfl, _, _⟩ := ZaT k5
 obtain rfl := ZeC r5
 exact ⟨⟨⟨a1, n1, a2, m0, m1⟩, m2, ⟨m3, m4⟩, m5⟩, ⟨⟨⟨hl1, hb1⟩, ⟨hl2, hb2⟩⟩, trivial⟩, by simp [roC, dvC, diC, pfC]⟩
set_option maxRecDepth 100000 in
theorem Zt0 (n : Nat) (cs : List Value) (y : DataW H × List MemPlace) (h : DataW.trod enc Tryz.prog w base sp held n 166 cs = some y) : ∃ x : SrcV, IsSr x ∧ cs = srC x := by
 have hw := Zcf 8 166 (List.replicate 16 (.i .u8) ++ (.i .i64 :: (List.replicate 16 (.i .u8) ++ [.i .i64, .i .u64, .i .u16, .i .i64, .i .i64]))) (by kernel_rfl) n cs y h (.inl (by kernel_rfl))
 obtain ⟨c0, c1, rfl, h1, h2⟩ := ZbD hw
 obtain ⟨a1, rfl, hl1, hb1⟩ := Zfe c0 16 h1
 obtain ⟨x1, c2, rfl, g1, h3⟩ := ZaL h2
 obtain ⟨c3, c4, rfl, h4, h5⟩ := ZbD (ks := List.replicate 16 (LK.i .u8)) (ks' := [LK.i .i64, .i .u64, .i .u16, .i .i64, .i .i64]) h3
 obtain ⟨a2, rfl, hl2, hb2⟩ := Zfe c3 16 h4
 obtain ⟨n1, rfl, _, _⟩ := ZaT g1
 obtain ⟨y0, d0, rfl, k0, r0⟩ := ZaL h5
 obtain ⟨m0, rfl, _, _⟩ := ZaT k0
 obtain ⟨y1, d1, rfl, k1, r1⟩ := ZaL r0
 obtain ⟨m1, rfl, _, _⟩ := ZaT k1
 obtain ⟨y2, d2, rfl, k2, r2⟩ := ZaL r1
 obtain ⟨m2, rfl, _, _⟩ := ZaT k2
 obtain ⟨y3, d3, rfl, k3, r3⟩ := ZaL r2
 obtain ⟨m3, rfl, _, _⟩ := ZaT k3
 obtain ⟨y4, d4, rfl, k4, r4⟩ := ZaL r3
 obtain ⟨m4, rfl, _, _⟩ := ZaT k4
 obtain rfl := ZeC r4
 exact ⟨⟨⟨a1, n1, a2, m0, m1⟩, ⟨m2, m3⟩, m4⟩, ⟨⟨⟨hl1, hb1⟩, ⟨hl2, hb2⟩⟩, trivial⟩, by simp [srC, dvC, diC, pfC]⟩
end
section
variable {H : Type} {enc : TypeId × Value → H} {w : World} {r : Reach} {b0 base : Nat} {sp : Nat → Bool} {held : Bool} {v : Value} {d : DataW H} {p : List MemPlace}
set_option maxRecDepth 100000 in
theorem Zr4 (hval : Value.okWide Tryz.prog w r b0 67 v) (h : DataW.Trod enc Tryz.prog w base sp held 67 v d p) : ∃ x : DstV, IsDv x ∧ v = .agg (dvC x).toArray := by
 obtain ⟨cs, rfl⟩ := ZrD (by kernel_rfl) hval
 obtain ⟨fuel, hf⟩ := h
 obtain ⟨x, h1, h3⟩ := Zt6 fuel _ _ hf
 exact ⟨x, h1, by rw [← h3];simp [Value.cells]⟩
end
end Go.Proofs.YtfhkmgcalcfibaaGreat
namespace Go.Proofs.YtfhkmgcalcfibaaGreat
open Go.RowKit
structure OrgV where
 dip : List Int
 dbits : Int
 sip : List Int
 sbits : Int
 deriving DecidableEq
def ogC (o : OrgV) : List Value := pfC o.dip o.dbits ++ (pfC o.sip o.sbits)
def IsOg (o : OrgV) : Prop := IsIP o.dip ∧ IsIP o.sip
theorem Zbl {o : OrgV} (h : IsOg o) : (ogC o).length = 34 := by
 obtain ⟨f_dip, f_dbits, f_sip, f_sbits⟩ := o
 obtain ⟨x0_0, x0_1, x0_2, x0_3, x0_4, x0_5, x0_6, x0_7, x0_8, x0_9, x0_10, x0_11, x0_12, x0_13, x0_14, x0_15, e0⟩ := ZaC (show f_dip.length = 16 from (h.1).len)
 obtain ⟨x1_0, x1_1, x1_2, x1_3, x1_4, x1_5, x1_6, x1_7, x1_8, x1_9, x1_10, x1_11, x1_12, x1_13, x1_14, x1_15, e1⟩ := ZaC (show f_sip.length = 16 from (h.2).len)
 subst e0
 subst e1
 rfl
theorem Zdr {o : OrgV} (h : IsOg o) : seg (ogC o) 0 34 = some (ogC o) := ZfE (Zbl h)
theorem Zre {o : OrgV} (h : IsOg o) : seg (ogC o) 0 17 = some (pfC o.dip o.dbits) := by
 obtain ⟨f_dip, f_dbits, f_sip, f_sbits⟩ := o
 obtain ⟨x0_0, x0_1, x0_2, x0_3, x0_4, x0_5, x0_6, x0_7, x0_8, x0_9, x0_10, x0_11, x0_12, x0_13, x0_14, x0_15, e0⟩ := ZaC (show f_dip.length = 16 from (h.1).len)
 obtain ⟨x1_0, x1_1, x1_2, x1_3, x1_4, x1_5, x1_6, x1_7, x1_8, x1_9, x1_10, x1_11, x1_12, x1_13, x1_14, x1_15, e1⟩ := ZaC (show f_sip.length = 16 from (h.2).len)
 subst e0
 subst e1
 rfl
theorem Zrd {o : OrgV} (h : IsOg o) : seg (ogC o) 17 17 = some (pfC o.sip o.sbits) := by
 obtain ⟨f_dip, f_dbits, f_sip, f_sbits⟩ := o
 obtain ⟨x0_0, x0_1, x0_2, x0_3, x0_4, x0_5, x0_6, x0_7, x0_8, x0_9, x0_10, x0_11, x0_12, x0_13, x0_14, x0_15, e0⟩ := ZaC (show f_dip.length = 16 from (h.1).len)
 obtain ⟨x1_0, x1_1, x1_2, x1_3, x1_4, x1_5, x1_6, x1_7, x1_8, x1_9, x1_10, x1_11, x1_12, x1_13, x1_14, x1_15, e1⟩ := ZaC (show f_sip.length = 16 from (h.2).len)
 subst e0
 subst e1
 rfl
theorem ZcT (o : OrgV) : (ogC o).all (·.oneCell') = true := by
 simp [pfC, ipC, ogC, Value.oneCell']
def ogZ : List Value := [.int .u8 0, .int .u8 0, .int .u8 0, .int .u8 0, .int .u8 0, .int .u8 0, .int .u8 0, .int .u8 0, .int .u8 0, .int .u8 0, .int .u8 0, .int .u8 0, .int .u8 0, .int .u8 0, .int .u8 0, .int .u8 0, .int .i64 0, .int .u8 0, .int .u8 0, .int .u8 0, .int .u8 0, .int .u8 0, .int .u8 0, .int .u8 0, .int .u8 0, .int .u8 0, .int .u8 0, .int .u8 0, .int .u8 0, .int .u8 0, .int .u8 0, .int .u8 0, .int .u8 0, .int .i64 0]
theorem ZpY {o : OrgV} (h : IsOg o) : Za2 [(0, 17), (17, 17)] ogZ [(0, pfC o.dip o.dbits), (1, pfC o.sip o.sbits)] = some (ogC o) := by
 obtain ⟨f_dip, f_dbits, f_sip, f_sbits⟩ := o
 obtain ⟨x0_0, x0_1, x0_2, x0_3, x0_4, x0_5, x0_6, x0_7, x0_8, x0_9, x0_10, x0_11, x0_12, x0_13, x0_14, x0_15, e0⟩ := ZaC (show f_dip.length = 16 from (h.1).len)
 obtain ⟨x1_0, x1_1, x1_2, x1_3, x1_4, x1_5, x1_6, x1_7, x1_8, x1_9, x1_10, x1_11, x1_12, x1_13, x1_14, x1_15, e1⟩ := ZaC (show f_sip.length = 16 from (h.2).len)
 subst e0
 subst e1
 rfl
theorem ZdL {o : OrgV} (h : IsOg o) : Za2 (ZbX 1 34) (ZbJ ogZ (1 * 34)) [(0, ogC o)] = some (ogC o) := by
 obtain ⟨f_dip, f_dbits, f_sip, f_sbits⟩ := o
 obtain ⟨x0_0, x0_1, x0_2, x0_3, x0_4, x0_5, x0_6, x0_7, x0_8, x0_9, x0_10, x0_11, x0_12, x0_13, x0_14, x0_15, e0⟩ := ZaC (show f_dip.length = 16 from (h.1).len)
 obtain ⟨x1_0, x1_1, x1_2, x1_3, x1_4, x1_5, x1_6, x1_7, x1_8, x1_9, x1_10, x1_11, x1_12, x1_13, x1_14, x1_15, e1⟩ := ZaC (show f_sip.length = 16 from (h.2).len)
 subst e0
 subst e1
 rfl
abbrev ogsC (l : List OrgV) : List Value := encL ogC l
theorem ZdK {l : List OrgV} (h : ∀ x ∈ l, IsOg x) : ∀ x ∈ l, (ogC x).length = 34 := fun x hx => Zbl (h x hx)
theorem Zr5 {l : List OrgV} : (ogsC l).all (·.oneCell') = true := Zeo fun x _ => ZcT x
structure QuaV where
 known : Bool
 heard : Int
 cnt : Int
 next : Int
 rep : Int
 deriving DecidableEq
def quC (o : QuaV) : List Value := [.bool o.known, .int .u8 o.heard, .int .i64 o.cnt, .int .u16 o.next, .int .i64 o.rep]
def IsQu (o : QuaV) : Prop := True
theorem Zbv {o : QuaV} (h : IsQu o) : (quC o).length = 5 := by
 obtain ⟨f_known, f_heard, f_cnt, f_next, f_rep⟩ := o
 rfl
theorem Zce {o : QuaV} (h : IsQu o) : seg (quC o) 0 5 = some (quC o) := ZfE (Zbv h)
theorem Zc6 {o : QuaV} (h : IsQu o) : nth (quC o) 0 = some (.bool o.known) := by
 obtain ⟨f_known, f_heard, f_cnt, f_next, f_rep⟩ := o
 rfl
theorem Ze9 {o : QuaV} (h : IsQu o) : nth (quC o) 1 = some (.int .u8 o.heard) := by
 obtain ⟨f_known, f_heard, f_cnt, f_next, f_rep⟩ := o
 rfl
theorem Zir {o : QuaV} (h : IsQu o) : nth (quC o) 2 = some (.int .i64 o.cnt) := by
 obtain ⟨f_known, f_heard, f_cnt, f_next, f_rep⟩ := o
 rfl
theorem ZkL {o : QuaV} (h : IsQu o) : nth (quC o) 3 = some (.int .u16 o.next) := by
 obtain ⟨f_known, f_heard, f_cnt, f_next, f_rep⟩ := o
 rfl
theorem ZlD {o : QuaV} (h : IsQu o) : nth (quC o) 4 = some (.int .i64 o.rep) := by
 obtain ⟨f_known, f_heard, f_cnt, f_next, f_rep⟩ := o
 rfl
theorem ZeM (o : QuaV) : (quC o).all (·.oneCell') = true := by
 simp [pfC, ipC, quC, Value.oneCell']
def quZ : List Value := [.bool false, .int .u8 0, .int .i64 0, .int .u16 0, .int .i64 0]
abbrev quK : List LK := [.b, .i .u8, .i .i64, .i .u16, .i .i64]
theorem Ztn {a b : QuaV} (ha : IsQu a) (hb : IsQu b) : eqVs (quC a) (quC b) = decide (a = b) := by
 rw [Bool.eq_iff_iff, decide_eq_true_eq]
 obtain ⟨a_known, a_heard, a_cnt, a_next, a_rep⟩ := a
 obtain ⟨b_known, b_heard, b_cnt, b_next, b_rep⟩ := b
 simp only [quC, QuaV.mk.injEq]
 simp [eqVs, eqV, Bool.and_eq_true, beq_iff_eq, Bool.and_true, and_assoc, decide_eq_true_eq, List.cons_append, List.nil_append]
structure AdjV where
 nb : Int
 q : QuaV
 til : Int
 ans : Int
 deriving DecidableEq
def ajC (o : AdjV) : List Value := [.int .u64 o.nb] ++ (quC o.q ++ ([.int .i64 o.til, .int .i64 o.ans]))
def IsAj (o : AdjV) : Prop := IsQu o.q
theorem Zfn {o : AdjV} (h : IsAj o) : (ajC o).length = 8 := by
 obtain ⟨f_nb, ⟨f_q_known, f_q_heard, f_q_cnt, f_q_next, f_q_rep⟩, f_til, f_ans⟩ := o
 rfl
theorem Zkp {o : AdjV} (h : IsAj o) : nth (ajC o) 0 = some (.int .u64 o.nb) := by
 obtain ⟨f_nb, ⟨f_q_known, f_q_heard, f_q_cnt, f_q_next, f_q_rep⟩, f_til, f_ans⟩ := o
 rfl
theorem aj_q {o : AdjV} (h : IsAj o) : seg (ajC o) 1 5 = some (quC o.q) := by
 obtain ⟨f_nb, ⟨f_q_known, f_q_heard, f_q_cnt, f_q_next, f_q_rep⟩, f_til, f_ans⟩ := o
 rfl
theorem ZiS {o : AdjV} (h : IsAj o) : nth (ajC o) 1 = some (.bool o.q.known) := by
 obtain ⟨f_nb, ⟨f_q_known, f_q_heard, f_q_cnt, f_q_next, f_q_rep⟩, f_til, f_ans⟩ := o
 rfl
theorem ZrB {o : AdjV} (h : IsAj o) : nth (ajC o) 6 = some (.int .i64 o.til) := by
 obtain ⟨f_nb, ⟨f_q_known, f_q_heard, f_q_cnt, f_q_next, f_q_rep⟩, f_til, f_ans⟩ := o
 rfl
theorem ZrC {o : AdjV} (h : IsAj o) : nth (ajC o) 7 = some (.int .i64 o.ans) := by
 obtain ⟨f_nb, ⟨f_q_known, f_q_heard, f_q_cnt, f_q_next, f_q_rep⟩, f_til, f_ans⟩ := o
 rfl
theorem ZiT (o : AdjV) : (ajC o).all (·.oneCell') = true := by
 simp [pfC, ipC, ajC, quC, Value.oneCell']
def ajZ : List Value := [.int .u64 0, .bool false, .int .u8 0, .int .i64 0, .int .u16 0, .int .i64 0, .int .i64 0, .int .i64 0]
theorem ZhQ {o : AdjV} (h : IsAj o) : Za2 (ZbX 1 8) (ZbJ ajZ (1 * 8)) [(0, ajC o)] = some (ajC o) := by
 obtain ⟨f_nb, ⟨f_q_known, f_q_heard, f_q_cnt, f_q_next, f_q_rep⟩, f_til, f_ans⟩ := o
 rfl
abbrev ajsC (l : List AdjV) : List Value := encL ajC l
theorem Zjz {l : List AdjV} (h : ∀ x ∈ l, IsAj x) : ∀ x ∈ l, (ajC x).length = 8 := fun x hx => Zfn (h x hx)
theorem ZsS {l : List AdjV} : (ajsC l).all (·.oneCell') = true := Zeo fun x _ => ZiT x
structure ReqV where
 to : DstV
 seq : Int
 hops : Int
 frm : Int
 next : Int
 left : Int
 deriving DecidableEq
def rqC (o : ReqV) : List Value := dvC o.to ++ ([.int .u16 o.seq, .int .i64 o.hops, .int .u64 o.frm, .int .i64 o.next, .int .i64 o.left])
def IsRq (o : ReqV) : Prop := IsDv o.to
theorem ZcC {o : ReqV} (h : IsRq o) : (rqC o).length = 40 := by
 obtain ⟨⟨f_to_dip, f_to_dbits, f_to_sip, f_to_sbits, f_to_rt⟩, f_seq, f_hops, f_frm, f_next, f_left⟩ := o
 obtain ⟨x0_0, x0_1, x0_2, x0_3, x0_4, x0_5, x0_6, x0_7, x0_8, x0_9, x0_10, x0_11, x0_12, x0_13, x0_14, x0_15, e0⟩ := ZaC (show f_to_dip.length = 16 from (h.1).len)
 obtain ⟨x1_0, x1_1, x1_2, x1_3, x1_4, x1_5, x1_6, x1_7, x1_8, x1_9, x1_10, x1_11, x1_12, x1_13, x1_14, x1_15, e1⟩ := ZaC (show f_to_sip.length = 16 from (h.2).len)
 subst e0
 subst e1
 rfl
theorem Zil {o : ReqV} (h : IsRq o) : seg (rqC o) 0 40 = some (rqC o) := ZfE (ZcC h)
theorem ZkC {o : ReqV} (h : IsRq o) : seg (rqC o) 0 35 = some (dvC o.to) := by
 obtain ⟨⟨f_to_dip, f_to_dbits, f_to_sip, f_to_sbits, f_to_rt⟩, f_seq, f_hops, f_frm, f_next, f_left⟩ := o
 obtain ⟨x0_0, x0_1, x0_2, x0_3, x0_4, x0_5, x0_6, x0_7, x0_8, x0_9, x0_10, x0_11, x0_12, x0_13, x0_14, x0_15, e0⟩ := ZaC (show f_to_dip.length = 16 from (h.1).len)
 obtain ⟨x1_0, x1_1, x1_2, x1_3, x1_4, x1_5, x1_6, x1_7, x1_8, x1_9, x1_10, x1_11, x1_12, x1_13, x1_14, x1_15, e1⟩ := ZaC (show f_to_sip.length = 16 from (h.2).len)
 subst e0
 subst e1
 rfl
theorem Ztf {o : ReqV} (h : IsRq o) : nth (rqC o) 35 = some (.int .u16 o.seq) := by
 obtain ⟨⟨f_to_dip, f_to_dbits, f_to_sip, f_to_sbits, f_to_rt⟩, f_seq, f_hops, f_frm, f_next, f_left⟩ := o
 obtain ⟨x0_0, x0_1, x0_2, x0_3, x0_4, x0_5, x0_6, x0_7, x0_8, x0_9, x0_10, x0_11, x0_12, x0_13, x0_14, x0_15, e0⟩ := ZaC (show f_to_dip.length = 16 from (h.1).len)
 obtain ⟨x1_0, x1_1, x1_2, x1_3, x1_4, x1_5, x1_6, x1_7, x1_8, x1_9, x1_10, x1_11, x1_12, x1_13, x1_14, x1_15, e1⟩ := ZaC (show f_to_sip.length = 16 from (h.2).len)
 subst e0
 subst e1
 rfl
theorem Zi2 {o : ReqV} (h : IsRq o) : nth (rqC o) 36 = some (.int .i64 o.hops) := by
 obtain ⟨⟨f_to_dip, f_to_dbits, f_to_sip, f_to_sbits, f_to_rt⟩, f_seq, f_hops, f_frm, f_next, f_left⟩ := o
 obtain ⟨x0_0, x0_1, x0_2, x0_3, x0_4, x0_5, x0_6, x0_7, x0_8, x0_9, x0_10, x0_11, x0_12, x0_13, x0_14, x0_15, e0⟩ := ZaC (show f_to_dip.length = 16 from (h.1).len)
 obtain ⟨x1_0, x1_1, x1_2, x1_3, x1_4, x1_5, x1_6, x1_7, x1_8, x1_9, x1_10, x1_11, x1_12, x1_13, x1_14, x1_15, e1⟩ := ZaC (show f_to_sip.length = 16 from (h.2).len)
 subst e0
 subst e1
 rfl
theorem Zny {o : ReqV} (h : IsRq o) : nth (rqC o) 38 = some (.int .i64 o.next) := by
 obtain ⟨⟨f_to_dip, f_to_dbits, f_to_sip, f_to_sbits, f_to_rt⟩, f_seq, f_hops, f_frm, f_next, f_left⟩ := o
 obtain ⟨x0_0, x0_1, x0_2, x0_3, x0_4, x0_5, x0_6, x0_7, x0_8, x0_9, x0_10, x0_11, x0_12, x0_13, x0_14, x0_15, e0⟩ := ZaC (show f_to_dip.length = 16 from (h.1).len)
 obtain ⟨x1_0, x1_1, x1_2, x1_3, x1_4, x1_5, x1_6, x1_7, x1_8, x1_9, x1_10, x1_11, x1_12, x1_13, x1_14, x1_15, e1⟩ := ZaC (show f_to_sip.length = 16 from (h.2).len)
 subst e0
 subst e1
 rfl
theorem Zi1 {o : ReqV} (h : IsRq o) : nth (rqC o) 39 = some (.int .i64 o.left) := by
 obtain ⟨⟨f_to_dip, f_to_dbits, f_to_sip, f_to_sbits, f_to_rt⟩, f_seq, f_hops, f_frm, f_next, f_left⟩ := o
 obtain ⟨x0_0, x0_1, x0_2, x0_3, x0_4, x0_5, x0_6, x0_7, x0_8, x0_9, x0_10, x0_11, x0_12, x0_13, x0_14, x0_15, e0⟩ := ZaC (show f_to_dip.length = 16 from (h.1).len)
 obtain ⟨x1_0, x1_1, x1_2, x1_3, x1_4, x1_5, x1_6, x1_7, x1_8, x1_9, x1_10, x1_11, x1_12, x1_13, x1_14, x1_15, e1⟩ := ZaC (show f_to_sip.length = 16 from (h.2).len)
 subst e0
 subst e1
 rfl
theorem ZkD {o : ReqV} (h : IsRq o) (z : Int) : put (rqC o) 39 [.int .i64 z] = some (rqC { o with left := z }) := by
 obtain ⟨⟨f_to_dip, f_to_dbits, f_to_sip, f_to_sbits, f_to_rt⟩, f_seq, f_hops, f_frm, f_next, f_left⟩ := o
 obtain ⟨x0_0, x0_1, x0_2, x0_3, x0_4, x0_5, x0_6, x0_7, x0_8, x0_9, x0_10, x0_11, x0_12, x0_13, x0_14, x0_15, e0⟩ := ZaC (show f_to_dip.length = 16 from (h.1).len)
 obtain ⟨x1_0, x1_1, x1_2, x1_3, x1_4, x1_5, x1_6, x1_7, x1_8, x1_9, x1_10, x1_11, x1_12, x1_13, x1_14, x1_15, e1⟩ := ZaC (show f_to_sip.length = 16 from (h.2).len)
 subst e0
 subst e1
 rfl
theorem ZeJ (o : ReqV) : (rqC o).all (·.oneCell') = true := by
 simp [pfC, ipC, rqC, dvC, Value.oneCell']
def rqZ : List Value := [.int .u8 0, .int .u8 0, .int .u8 0, .int .u8 0, .int .u8 0, .int .u8 0, .int .u8 0, .int .u8 0, .int .u8 0, .int .u8 0, .int .u8 0, .int .u8 0, .int .u8 0, .int .u8 0, .int .u8 0, .int .u8 0, .int .i64 0, .int .u8 0, .int .u8 0, .int .u8 0, .int .u8 0, .int .u8 0, .int .u8 0, .int .u8 0, .int .u8 0, .int .u8 0, .int .u8 0, .int .u8 0, .int .u8 0, .int .u8 0, .int .u8 0, .int .u8 0, .int .u8 0, .int .i64 0, .int .u64 0, .int .u16 0, .int .i64 0, .int .u64 0, .int .i64 0, .int .i64 0]
theorem ZpJ {o : ReqV} (h : IsRq o) : Za2 [(0, 35), (35, 1), (36, 1), (37, 1), (38, 1), (39, 1)] rqZ [(0, dvC o.to), (1, [.int .u16 o.seq]), (2, [.int .i64 o.hops]), (3, [.int .u64 o.frm]), (4, [.int .i64 o.next]), (5, [.int .i64 o.left])] = some (rqC o) := by
 obtain ⟨⟨f_to_dip, f_to_dbits, f_to_sip, f_to_sbits, f_to_rt⟩, f_seq, f_hops, f_frm, f_next, f_left⟩ := o
 obtain ⟨x0_0, x0_1, x0_2, x0_3, x0_4, x0_5, x0_6, x0_7, x0_8, x0_9, x0_10, x0_11, x0_12, x0_13, x0_14, x0_15, e0⟩ := ZaC (show f_to_dip.length = 16 from (h.1).len)
 obtain ⟨x1_0, x1_1, x1_2, x1_3, x1_4, x1_5, x1_6, x1_7, x1_8, x1_9, x1_10, x1_11, x1_12, x1_13, x1_14, x1_15, e1⟩ := ZaC (show f_to_sip.length = 16 from (h.2).len)
 subst e0
 subst e1
 rfl
theorem Zd0 {o : ReqV} (h : IsRq o) : Za2 (ZbX 1 40) (ZbJ rqZ (1 * 40)) [(0, rqC o)] = some (rqC o) := by
 obtain ⟨⟨f_to_dip, f_to_dbits, f_to_sip, f_to_sbits, f_to_rt⟩, f_seq, f_hops, f_frm, f_next, f_left⟩ := o
 obtain ⟨x0_0, x0_1, x0_2, x0_3, x0_4, x0_5, x0_6, x0_7, x0_8, x0_9, x0_10, x0_11, x0_12, x0_13, x0_14, x0_15, e0⟩ := ZaC (show f_to_dip.length = 16 from (h.1).len)
 obtain ⟨x1_0, x1_1, x1_2, x1_3, x1_4, x1_5, x1_6, x1_7, x1_8, x1_9, x1_10, x1_11, x1_12, x1_13, x1_14, x1_15, e1⟩ := ZaC (show f_to_sip.length = 16 from (h.2).len)
 subst e0
 subst e1
 rfl
abbrev rqsC (l : List ReqV) : List Value := encL rqC l
theorem ZeI {l : List ReqV} (h : ∀ x ∈ l, IsRq x) : ∀ x ∈ l, (rqC x).length = 40 := fun x hx => ZcC (h x hx)
theorem Znx {l : List ReqV} : (rqsC l).all (·.oneCell') = true := Zeo fun x _ => ZeJ x
end Go.Proofs.YtfhkmgcalcfibaaGreat
namespace Go.Proofs.YtfhkmgcalcfibaaGreat
open Go.RowKit
attribute [local irreducible] OpTo wpListIn Code.wpIn MW Cal
def qu0 : QuaV := ⟨false, 0, 0, 0, 0⟩
structure BdQu (o : QuaV) : Prop where
 h : 0 ≤ o.heard ∧ o.heard < 256
 c : -9223372036854775808 ≤ o.cnt ∧ o.cnt ≤ 9223372036854775807
 r : -9223372036854775808 ≤ o.rep ∧ o.rep ≤ 9223372036854775807
theorem BdQu.zero : BdQu qu0 := ⟨by decide, by decide, by decide⟩
def shl1 (n : Int) : Int := IntKind.i64.wrap (1 * 2 ^ min n.toNat IntKind.i64.bits)
def QuP (o : QuaV) : Prop := 1 ≤ o.cnt ∧ o.cnt ≤ 8 ∧ o.heard ≠ 0 ∧ o.heard < shl1 o.cnt ∧ 0 ≤ o.rep ∧ o.rep ≤ 65535
instance (o : QuaV) : Decidable (QuP o) := by unfold QuP;infer_instance
def quIn (o : QuaV) : Bool := decide (QuP o)
theorem qiT {o : QuaV} (h1 : 1 ≤ o.cnt) (h2 : o.cnt ≤ 8) (h3 : o.heard ≠ 0) (h4 : o.heard < shl1 o.cnt) (h5 : 0 ≤ o.rep) : Value.bool (decide (o.rep ≤ 65535)) = .bool (quIn o) := by
 unfold quIn
 congr 1
 rw [decide_eq_decide]
 exact ⟨fun h => ⟨h1, h2, h3, h4, h5, h⟩, fun h => h.2.2.2.2.2⟩
theorem qiF {o : QuaV} (h : ¬ QuP o) : Value.bool false = .bool (quIn o) := by unfold quIn;rw [dqF h]
def ZdW (o : QuaV) : Bool := if o.known then quIn o else decide (o = qu0)
def Zbx (o : QuaV) : QuaV := if ZdW o then o else qu0
theorem Zhn {o : QuaV} (h : o.known = true) : ZdW o = quIn o := by unfold ZdW;rw [h];rfl
theorem ZkM {o : QuaV} (h : o.known = false) : ZdW o = decide (o = qu0) := by unfold ZdW;rw [h];rfl
theorem ZjT {o : QuaV} (h : o = qu0) : ZdW o = true := by subst h;rfl
theorem Zmx {o : QuaV} (h : BdQu o) : BdQu (Zbx o) := by
 unfold Zbx
 split
 ·exact h
 ·exact BdQu.zero
theorem ZqX {o : QuaV} (h : (Zbx o).known = true) : quIn (Zbx o) = true := by
 unfold Zbx at *
 split at h
 ·rename_i hv
  rw [if_pos hv]
  rw [Zhn h] at hv
  exact hv
 ·cases h
theorem Zo6 {o : QuaV} (h : (Zbx o).known = false) : Zbx o = qu0 := by
 unfold Zbx at *
 split at h
 ·rename_i hv
  rw [if_pos hv]
  rw [ZkM h] at hv
  exact dqU hv
 ·rename_i hv
  rw [if_neg hv]
theorem ZpP {o : QuaV} : quIn o = true ↔ 1 ≤ o.cnt ∧ o.cnt ≤ 8 ∧ o.heard ≠ 0 ∧ o.heard < shl1 o.cnt ∧ 0 ≤ o.rep ∧ o.rep ≤ 65535 := by
 unfold quIn
 rw [decide_eq_true_eq]
 exact Iff.rfl
theorem Zo7 (o : QuaV) : 0 ≤ (Zbx o).cnt ∧ (Zbx o).cnt ≤ 8 ∧ 0 ≤ (Zbx o).rep ∧ (Zbx o).rep ≤ 65535 := by
 cases h : (Zbx o).known with
 | true => have := ZpP.1 (ZqX h);omega
 | false => rw [Zo6 h];decide
theorem ZpO (o : QuaV) (hb : BdQu o) (W : World) : Cal Tryz.prog 187 [.agg (quC o).toArray].toArray W fun r w' => r = .bool (ZdW o) ∧ Ext [] W w' := by
 have hb1 := hb.h
 have hb2 := hb.c
 have hb3 := hb.r
 have hf2 : Za7 quK quZ = true := rfl
 by_cases h0 : o = qu0
 ·rw [ZjT h0]
  subst h0
  have ez : eqVs (quC qu0) quZ = true := rfl
  have hf1 : Za7 quK (quC qu0) = true := rfl
  refine Zao (n := 42) (S := []) Zal Zak Tryz.func187 rfl rfl rfl (gR 2 rfl (ZaA rfl rfl fun b1 => gR 6 rfl (Zah 0 rfl rfl (Zce trivial) (g_v (fun a w F M R r => Zaw F rfl rfl r) (Zjh rfl rfl ‹_› ‹_› ‹_› ?_)))))
  exact gR 10 rfl (Zab rfl rfl rfl fun w M => ⟨rfl, M.ext⟩)
 ·have e0 : decide (o = qu0) = false := dqF h0
  have ez : eqVs (quC o) quZ = false := (Ztn (b := qu0) trivial trivial).trans e0
  have hf1 : Za7 quK (quC o) = true := rfl
  cases hk : o.known with
  | false =>
   rw [ZkM hk, e0]
   refine Zao (n := 42) (S := []) Zal Zak Tryz.func187 rfl rfl rfl (gR 2 rfl (ZaA rfl rfl fun b1 => gR 6 rfl (Zah 0 rfl rfl (Zce trivial) (g_v (fun a w F M R r => Zaw F rfl rfl r) (Zjh rfl rfl ‹_› ‹_› ‹_› ?_)))))
   refine gR 6 rfl (ZaG 37 42 rfl (by kernel_rfl) (fR 1 rfl (ZaW 0 rfl rfl (Zc6 trivial) (fR 1 rfl (ZaX 8 rfl ‹_› ?_)))))
   exact fR 34 rfl (Zap rfl rfl (gR 3 rfl (Zab rfl rfl rfl fun w M => ⟨rfl, M.ext⟩)))
  | true =>
   rw [Zhn hk]
   refine Zao (n := 42) (S := []) Zal Zak Tryz.func187 rfl rfl rfl (gR 2 rfl (ZaA rfl rfl fun b1 => gR 6 rfl (Zah 0 rfl rfl (Zce trivial) (g_v (fun a w F M R r => Zaw F rfl rfl r) (Zjh rfl rfl ‹_› ‹_› ‹_› ?_)))))
   refine gR 6 rfl (ZaG 37 42 rfl (by kernel_rfl) (fR 1 rfl (ZaW 0 rfl rfl (Zc6 trivial) (fR 1 rfl (ZaX 8 rfl ‹_› ?_)))))
   refine fR 1 rfl (ZaW 0 rfl rfl (Zir trivial) (fR 3 rfl (ZbQ 13 rfl (fun h1 => ?_) (fun h1 => ?_))))
   ·replace h1 := dqU h1
    refine fR 1 rfl (ZaW 0 rfl rfl (Zir trivial) (fR 3 rfl (ZbQ 18 rfl (fun h2 => ?_) (fun h2 => ?_))))
    ·replace h2 := dqU h2
     refine fR 1 rfl (ZaW 0 rfl rfl (Ze9 trivial) (fR 3 rfl (ZbQ 23 rfl (fun h3 => ?_) (fun h3 => ?_))))
     ·replace h3 := ZbE h3
      refine fR 1 rfl (ZaW 0 rfl rfl (Ze9 trivial) (Zsx rfl (Zax (by omega) (by omega)) (fR 1 rfl (ZaW 0 rfl rfl (Zir trivial) (fd_v (fun a w F M R r => ZnT (F.e rfl) (F.e rfl) (by omega) rfl r) (fR 3 rfl (ZbQ 32 rfl (fun h4 => ?_) (fun h4 => ?_))))))))
      ·replace h4 := dqU h4
       refine fR 1 rfl (ZaW 0 rfl rfl (ZlD trivial) (fR 3 rfl (ZbQ 37 rfl (fun h5 => ?_) (fun h5 => ?_))))
       ·replace h5 := dqU h5
        exact fR 1 rfl (ZaW 0 rfl rfl (ZlD trivial) (fR 3 rfl (Zap rfl rfl (gR 3 rfl (Zab rfl rfl rfl fun w M => ⟨qiT ‹_› ‹_› ‹_› ‹_› ‹_›, M.ext⟩)))))
       ·replace h5 := dqV h5
        refine fR 5 rfl (Zap rfl rfl (gR 3 rfl (Zab rfl rfl rfl fun w M => ?_)))
        exact ⟨qiF (fun hp => by unfold QuP shl1 at hp;omega), M.ext⟩
      ·replace h4 := dqV h4
       refine fR 10 rfl (Zap rfl rfl (gR 3 rfl (Zab rfl rfl rfl fun w M => ?_)))
       exact ⟨qiF (fun hp => by unfold QuP shl1 at hp;omega), M.ext⟩
     ·replace h3 := ZaV h3
      refine fR 19 rfl (Zap rfl rfl (gR 3 rfl (Zab rfl rfl rfl fun w M => ?_)))
      exact ⟨qiF (fun hp => by unfold QuP shl1 at hp;omega), M.ext⟩
    ·replace h2 := dqV h2
     refine fR 24 rfl (Zap rfl rfl (gR 3 rfl (Zab rfl rfl rfl fun w M => ?_)))
     exact ⟨qiF (fun hp => by unfold QuP shl1 at hp;omega), M.ext⟩
   ·replace h1 := dqV h1
    refine fR 29 rfl (Zap rfl rfl (gR 3 rfl (Zab rfl rfl rfl fun w M => ?_)))
    exact ⟨qiF (fun hp => by unfold QuP shl1 at hp;omega), M.ext⟩
theorem Zhi (o : QuaV) (hb : BdQu o) (W : World) : Cal Tryz.prog 113 [.agg (quC o).toArray].toArray W fun r w' => r = .bool (ZdW o) ∧ Ext [] W w' := by
 have hb1 := hb.h
 have hb2 := hb.c
 have hb3 := hb.r
 have hf2 : Za7 quK quZ = true := rfl
 by_cases h0 : o = qu0
 ·rw [ZjT h0]
  subst h0
  have ez : eqVs (quC qu0) quZ = true := rfl
  have hf1 : Za7 quK (quC qu0) = true := rfl
  refine Zao (n := 42) (S := []) Zal Zak Tryz.func113 rfl rfl rfl (gR 2 rfl (ZaA rfl rfl fun b1 => gR 7 rfl (Zai 0 rfl rfl (Zc6 trivial) (gR 6 rfl (Zah 0 rfl rfl (Zce trivial) (g_v (fun a w F M R r => Zaw F rfl rfl r) (Zjh rfl rfl ‹_› ‹_› ‹_› ?_)))))))
  exact gR 5 rfl (Zab rfl rfl rfl fun w M => ⟨rfl, M.ext⟩)
 ·have e0 : decide (o = qu0) = false := dqF h0
  have ez : eqVs (quC o) quZ = false := (Ztn (b := qu0) trivial trivial).trans e0
  have hf1 : Za7 quK (quC o) = true := rfl
  cases hk : o.known with
  | false =>
   rw [ZkM hk, e0]
   refine Zao (n := 42) (S := []) Zal Zak Tryz.func113 rfl rfl rfl (gR 2 rfl (ZaA rfl rfl fun b1 => gR 7 rfl (Zai 0 rfl rfl (Zc6 trivial) (gR 3 rfl (ZaE rfl (notT ‹_›) ?_)))))
   refine gR 2 rfl (Zah 0 rfl rfl (Zce trivial) (g_v (fun a w F M R r => Zaw F rfl rfl r) (Zjh rfl rfl ‹_› ‹_› ‹_› ?_)))
   exact gR 5 rfl (Zab rfl rfl rfl fun w M => ⟨rfl, M.ext⟩)
  | true =>
   rw [Zhn hk]
   refine Zao (n := 42) (S := []) Zal Zak Tryz.func113 rfl rfl rfl (gR 2 rfl (ZaA rfl rfl fun b1 => gR 7 rfl (Zai 0 rfl rfl (Zc6 trivial) (gR 3 rfl (Zav rfl (notF ‹_›) ?_)))))
   refine gR 5 rfl (Zai 0 rfl rfl (Zir trivial) (gR 2 rfl (Zan 12 rfl (fun h1 => ?_) (fun h1 => ?_))))
   ·replace h1 := dqU h1
    refine gR 1 rfl (Zai 0 rfl rfl (Zir trivial) (gR 3 rfl (Zan 17 rfl (fun h2 => ?_) (fun h2 => ?_))))
    ·replace h2 := dqU h2
     refine gR 1 rfl (Zai 0 rfl rfl (Ze9 trivial) (gR 3 rfl (Zan 22 rfl (fun h3 => ?_) (fun h3 => ?_))))
     ·replace h3 := ZbE h3
      refine gR 1 rfl (Zai 0 rfl rfl (Ze9 trivial) (ZfU rfl (Zax (by omega) (by omega)) (gR 1 rfl (Zai 0 rfl rfl (Zir trivial) (ZfU rfl (ZgM (by omega) (by omega)) (g_v (fun a w F M R r => ZnT (F.e rfl) (F.e rfl) (by omega) rfl r) (gR 3 rfl (Zan 32 rfl (fun h4 => ?_) (fun h4 => ?_)))))))))
      ·replace h4 := dqU h4
       refine gR 1 rfl (Zai 0 rfl rfl (ZlD trivial) (gR 3 rfl (Zan 37 rfl (fun h5 => ?_) (fun h5 => ?_))))
       ·replace h5 := dqU h5
        exact gR 1 rfl (Zai 0 rfl rfl (ZlD trivial) (gR 6 rfl (Zab rfl rfl rfl fun w M => ⟨qiT ‹_› ‹_› ‹_› ‹_› ‹_›, M.ext⟩)))
       ·replace h5 := dqV h5
        refine gR 8 rfl (Zab rfl rfl rfl fun w M => ?_)
        exact ⟨qiF (fun hp => by unfold QuP shl1 at hp;omega), M.ext⟩
      ·replace h4 := dqV h4
       refine gR 13 rfl (Zab rfl rfl rfl fun w M => ?_)
       exact ⟨qiF (fun hp => by unfold QuP shl1 at hp;omega), M.ext⟩
     ·replace h3 := ZaV h3
      refine gR 23 rfl (Zab rfl rfl rfl fun w M => ?_)
      exact ⟨qiF (fun hp => by unfold QuP shl1 at hp;omega), M.ext⟩
    ·replace h2 := dqV h2
     refine gR 28 rfl (Zab rfl rfl rfl fun w M => ?_)
     exact ⟨qiF (fun hp => by unfold QuP shl1 at hp;omega), M.ext⟩
   ·replace h1 := dqV h1
    refine gR 33 rfl (Zab rfl rfl rfl fun w M => ?_)
    exact ⟨qiF (fun hp => by unfold QuP shl1 at hp;omega), M.ext⟩
theorem Zhk (o : QuaV) (hb : BdQu o) (W : World) : Cal Tryz.prog 227 [.agg (quC o).toArray].toArray W fun r w' => r = .agg (quC (Zbx o)).toArray ∧ Ext [] W w' := by
 unfold Zbx
 cases hv : ZdW o with
 | true =>
  rw [if_pos rfl]
  refine Zao (n := 8) (S := []) Zal Zak Tryz.func227 rfl rfl rfl (gR 2 rfl (ZaA rfl rfl fun b1 => Zat fun b2 => gR 5 rfl (Zah 1 rfl rfl (Zce trivial) (Zad rfl rfl (fun w M => Zhi _ ‹_› _) ?_))))
  refine gR 3 rfl (Zav rfl (notF ‹_›) ?_)
  refine gR 4 rfl (Zah 1 rfl rfl (Zce trivial) ?_)
  refine Zas 0 rfl rfl rfl rfl rfl rfl rfl ?_
  exact gR 3 rfl (ZbB 0 rfl rfl rfl rfl rfl fun w M => ⟨rfl, M.ext⟩)
 | false =>
  rw [if_neg Bool.false_ne_true]
  refine Zao (n := 8) (S := []) Zal Zak Tryz.func227 rfl rfl rfl (gR 2 rfl (ZaA rfl rfl fun b1 => Zat fun b2 => gR 5 rfl (Zah 1 rfl rfl (Zce trivial) (Zad rfl rfl (fun w M => Zhi _ ‹_› _) ?_))))
  refine gR 3 rfl (ZaE rfl (notT ‹_›) ?_)
  refine gR 2 rfl (g_v (fun a w F M R r => Zaw F rfl rfl r) ?_)
  refine Zas 0 rfl rfl rfl rfl rfl rfl rfl ?_
  exact gR 4 rfl (ZbB 0 rfl rfl rfl rfl rfl fun w M => ⟨rfl, M.ext⟩)
theorem Zs5 (x : Int) : 0 ≤ IntKind.u8.wrap x ∧ IntKind.u8.wrap x < 256 := by
 simp only [IntKind.wrap, IntKind.signed, IntKind.bits, Bool.false_and, Bool.false_eq_true, if_false]
 omega
def addQ (o : QuaV) (e : Int) : QuaV := { o with heard := IntKind.u8.wrap (ZbK .and .i64 (o.heard * 2 + e) 255), cnt := if 8 < o.cnt + 1 then 8 else o.cnt + 1 }
structure SmQu (o : QuaV) : Prop where
 b : BdQu o
 c : 0 ≤ o.cnt ∧ o.cnt ≤ 8
theorem SmQu.clean {o : QuaV} (h : BdQu o) : SmQu (Zbx o) := ⟨Zmx h, by have := Zo7 o;omega⟩
theorem SmQu.add {o : QuaV} (h : SmQu o) (e : Int) : SmQu (addQ o e) := ⟨⟨Zs5 _, by have := h.c;unfold addQ;dsimp only;split <;> omega, h.b.r⟩, by have := h.c;unfold addQ;dsimp only;split <;> omega⟩
theorem ZkB (o : QuaV) (hb : SmQu o) (e : Int) (h0 : 0 ≤ e) (h1 : e ≤ 1) (W : World) : Cal Tryz.prog 228 [.agg (quC o).toArray, .int .i64 e].toArray W fun r w' => r = .agg (quC (addQ o e)).toArray ∧ Ext [] W w' := by
 have hb1 := hb.b.h
 have hc := hb.c
 refine Zao (n := 20) (S := []) Zal Zak Tryz.func228 rfl rfl rfl (gR 2 rfl (ZaA rfl rfl fun b2 => Zat fun b4 => gR 5 rfl (Zai 1 rfl rfl (Ze9 trivial) (ZfU rfl (Zax (by omega) (by omega)) (ZtO rfl rfl (Zax (by omega) (by omega)) (gR 1 rfl (ZaK rfl rfl (Zax (by omega) (by omega)) (g_v (fun a w F M R r => Zqa (F.e rfl) (F.e rfl) rfl r) (ZfU rfl rfl (gR 1 rfl (Zb8 1 rfl rfl rfl rfl rfl rfl (gR 5 rfl (Zai 1 rfl rfl rfl (ZaK rfl rfl (Zax (by omega) (by omega)) (g_v (fun a w F M R r => ZjY (F.e rfl) (F.e rfl) r) (gR 1 rfl (Zb8 1 rfl rfl rfl rfl rfl rfl (gR 4 rfl (Zah 1 rfl rfl rfl ?_)))))))))))))))))))
 refine Zas 0 rfl rfl rfl rfl rfl rfl rfl ?_
 exact gR 3 rfl (ZbB 0 rfl rfl rfl rfl rfl fun w M => ⟨rfl, M.ext⟩)
def PhQ (r : Value) (W w' : World) : Prop := ∃ o, SmQu o ∧ r = .agg (quC o).toArray ∧ Ext [] W w'
theorem Zhj (o : QuaV) (hb : BdQu o) (s : Int) (W : World) : Cal Tryz.prog 139 [.agg (quC o).toArray, .int .u16 s].toArray W fun r w' => PhQ r W w' := by
 have hs := SmQu.clean hb
 refine Zao (n := 53) (S := []) Zal Zak Tryz.func139 rfl rfl rfl (gR 2 rfl (ZaA rfl rfl fun b2 => Zat fun b4 => gR 4 rfl (Zah 1 rfl rfl (Zce trivial) (Zad rfl rfl (fun w M => Zhk _ ‹_› _) ?_))))
 refine Zas 1 rfl rfl (Zbv trivial) (ZeM _) rfl (Zag (by rw [Zbv trivial];first | rfl | rw [Zbv ‹_›])) rfl ?_
 refine gR 6 rfl (Zai 1 rfl rfl (ZkL trivial) (ZeX rfl rfl rfl (ZfU rfl rfl (ZfU rfl rfl (gR 7 rfl (Zai 1 rfl rfl (Zc6 trivial) (gR 2 rfl (Zan 17 rfl (fun h1 => ?_) (fun h1 => ?_)))))))))
 ·replace h1 := Zaa h1
  refine gR 13 rfl (ZaK rfl rfl rfl (g_v (fun a w F M R r => Zaw F rfl rfl r) ?_))
  refine Zas 0 rfl rfl rfl rfl rfl rfl rfl ?_
  refine gR 4 rfl (ZbB 0 rfl rfl rfl rfl rfl fun w M => ?_)
  exact ⟨⟨true, 1, 1, IntKind.u16.wrap (s + 1), 0⟩, ⟨⟨by dsimp only;omega, by dsimp only;omega, by dsimp only;omega⟩, by dsimp only;omega⟩, rfl, M.ext⟩
 replace h1 := Zac h1
 refine gR 4 rfl (Zan 21 rfl (fun h2 => ?_) (fun h2 => ?_))
 ·replace h2 := dqU h2
  refine gR 9 rfl (ZaK rfl rfl rfl (g_v (fun a w F M R r => Zaw F rfl rfl r) ?_))
  refine Zas 0 rfl rfl rfl rfl rfl rfl rfl ?_
  refine gR 4 rfl (ZbB 0 rfl rfl rfl rfl rfl fun w M => ?_)
  exact ⟨⟨true, 1, 1, IntKind.u16.wrap (s + 1), 0⟩, ⟨⟨by dsimp only;omega, by dsimp only;omega, by dsimp only;omega⟩, by dsimp only;omega⟩, rfl, M.ext⟩
 replace h2 := dqV h2
 refine gR 5 rfl (g_if rfl (fun h3 => ?_) (fun h3 => ?_))
 ·replace h3 := dqU h3
  refine gR 3 rfl (ZaK rfl rfl rfl (g_v (fun a w F M R r => Zaw F rfl rfl r) ?_))
  refine Zas 0 rfl rfl rfl rfl rfl rfl rfl ?_
  refine gR 4 rfl (ZbB 0 rfl rfl rfl rfl rfl fun w M => ?_)
  exact ⟨⟨true, 1, 1, IntKind.u16.wrap (s + 1), 0⟩, ⟨⟨by dsimp only;omega, by dsimp only;omega, by dsimp only;omega⟩, by dsimp only;omega⟩, rfl, M.ext⟩
 replace h3 := dqV h3
 refine gR 4 rfl (Za1 (ι := QuaV × Int) ⟨fun (y, d) => (0 - d).toNat, fun (y, d) => SmQu y ∧ d ≤ 8 ∧ -8 ≤ d, fun (y, d) => [(5, .int .i64 d), (1, .int .u16 s), (2, .pointer (some ⟨b2, 0, none⟩)), (4, .pointer (some ⟨b4, 0, none⟩))], fun (y, d) => [[(b4, .cells [Value.bool false, Value.int .u8 0, Value.int .i64 0, Value.int .u16 0, Value.int .i64 0].toArray 122 (0, 0))], [(b2, .cells (quC y).toArray 122 (0, 0))]]⟩ (Zbx o, IntKind.i64.wrap (IntKind.i16.wrap (IntKind.u16.wrap (s - (Zbx o).next)))) ⟨hs, by omega, by omega⟩ (fun a F => F.only [5, 1, 2, 4] rfl) (sX 17179869183 rfl) ?_)
 rintro ⟨y, d⟩ ⟨hy, hd⟩
 dsimp only at hy hd ⊢
 have hy1 := hy.b.h
 have hy2 := hy.c
 by_cases hlt : d < 0
 ·refine gR 7 rfl ?_
  refine ZaE rfl (dqT (by omega)) (gR 7 rfl (Zai 1 rfl rfl (Ze9 trivial) (g_v (fun a w F M R r => Zp0 (F.e rfl) (F.e rfl) (by omega) rfl r) (gR 1 rfl (Zb8 1 rfl rfl rfl rfl rfl rfl (gR 4 rfl (Zai 1 rfl rfl rfl (ZeX rfl rfl (Zax (by omega) (by omega)) (g_v (fun a w F M R r => ZjZ (F.e rfl) (F.e rfl) r) (gR 1 rfl (Zb8 1 rfl rfl rfl rfl rfl rfl (gR 5 rfl (ZaK rfl rfl (Zax (by omega) (by omega)) (gR 2 rfl ?_))))))))))))))
  exact Zar ({ y with heard := IntKind.u8.wrap (y.heard.tdiv 2), cnt := if y.cnt - 1 < 0 then 0 else y.cnt - 1 }, d + 1) ⟨⟨⟨Zs5 _, by dsimp only;split <;> omega, hy.b.r⟩, by dsimp only;split <;> omega⟩, by omega, by omega⟩ (by dsimp only;omega) (fun a F => F.only [5, 1, 2, 4] rfl) (sX 17179869183 rfl)
 refine gR 7 rfl (Zav rfl (dqF (by omega)) (gR 2 rfl (ZaZ (gR 4 rfl (Za1 (ι := QuaV × Int) ⟨fun (y, d) => d.toNat, fun (y, d) => SmQu y ∧ d ≤ 8, fun (y, d) => [(5, .int .i64 d), (1, .int .u16 s), (2, .pointer (some ⟨b2, 0, none⟩)), (4, .pointer (some ⟨b4, 0, none⟩))], fun (y, d) => [[(b4, .cells [Value.bool false, Value.int .u8 0, Value.int .i64 0, Value.int .u16 0, Value.int .i64 0].toArray 122 (0, 0))], [(b2, .cells (quC y).toArray 122 (0, 0))]]⟩ (y, d) ⟨hy, by omega⟩ (fun a F => F.only [5, 1, 2, 4] rfl) (sX 17179869183 rfl) ?_)))))
 rintro ⟨y, d⟩ ⟨hy, hd⟩
 dsimp only at hy hd ⊢
 have hy1 := hy.b.h
 have hy2 := hy.c
 by_cases hlt : 0 < d
 ·refine gR 7 rfl ?_
  refine ZaE rfl (dqT (by omega)) (gR 5 rfl (Zah 1 rfl rfl (Zce trivial) (Zad rfl rfl (fun w M => ZkB _ ‹_› _ (by omega) (by omega) _) ?_)))
  refine Zas 1 rfl rfl (Zbv trivial) (ZeM _) rfl (Zag (by rw [Zbv trivial];first | rfl | rw [Zbv ‹_›])) rfl ?_
  exact gR 5 rfl (ZeX rfl rfl (Zax (by omega) (by omega)) (gR 2 rfl (Zar (addQ y 0, d - 1) ⟨hy.add 0, by omega⟩ (by dsimp only;omega) (fun a F => F.only [5, 1, 2, 4] rfl) (sX 17179869183 rfl))))
 refine gR 7 rfl (Zav rfl (dqF (by omega)) (gR 2 rfl (ZaZ (gR 4 rfl (Zah 1 rfl rfl (Zce trivial) (Zad rfl rfl (fun w M => ZkB _ ‹_› _ (by omega) (by omega) _) ?_))))))
 refine Zas 1 rfl rfl (Zbv trivial) (ZeM _) rfl (Zag (by rw [Zbv trivial];first | rfl | rw [Zbv ‹_›])) rfl ?_
 refine gR 5 rfl (ZaK rfl rfl rfl (gR 1 rfl (Zb8 1 rfl rfl rfl rfl rfl rfl (gR 4 rfl (Zah 1 rfl rfl rfl ?_)))))
 refine Zas 0 rfl rfl rfl rfl rfl rfl rfl ?_
 refine gR 3 rfl (ZbB 0 rfl rfl rfl rfl rfl fun w M => ?_)
 have ha := hy.add 1
 exact ⟨{ addQ y 1 with next := IntKind.u16.wrap (s + 1) }, ⟨⟨ha.b.h, ha.b.c, ha.b.r⟩, ha.c⟩, rfl, M.ext⟩
theorem Zmu (o : QuaV) (hb : BdQu o) (W : World) : Cal Tryz.prog 140 [.agg (quC o).toArray].toArray W fun r w' => PhQ r W w' := by
 have hs := SmQu.clean hb
 have ha := hs.add 0
 refine Zao (n := 20) (S := []) Zal Zak Tryz.func140 rfl rfl rfl (gR 2 rfl (ZaA rfl rfl fun b1 => Zat fun b2 => gR 4 rfl (Zah 1 rfl rfl (Zce trivial) (Zad rfl rfl (fun w M => Zhk _ ‹_› _) ?_))))
 refine Zas 1 rfl rfl (Zbv trivial) (ZeM _) rfl (Zag (by rw [Zbv trivial];first | rfl | rw [Zbv ‹_›])) rfl ?_
 refine gR 6 rfl (Zai 1 rfl rfl (Zc6 trivial) (gR 3 rfl (g_if rfl (fun h1 => ?_) (fun h1 => ?_))))
 ·replace h1 := Zaa h1
  refine gR 2 rfl (Zah 1 rfl rfl (Zce trivial) ?_)
  refine Zas 0 rfl rfl rfl rfl rfl rfl rfl ?_
  exact gR 4 rfl (ZbB 0 rfl rfl rfl rfl rfl fun w M => ⟨Zbx o, hs, rfl, M.ext⟩)
 ·replace h1 := Zac h1
  refine gR 4 rfl (Zah 1 rfl rfl (Zce trivial) (Zad rfl rfl (fun w M => ZkB _ ‹_› _ (by omega) (by omega) _) ?_))
  refine Zas 1 rfl rfl (Zbv trivial) (ZeM _) rfl (Zag (by rw [Zbv trivial];first | rfl | rw [Zbv ‹_›])) rfl ?_
  refine gR 5 rfl (Zai 1 rfl rfl (ZkL trivial) (ZaK rfl rfl rfl (gR 1 rfl (Zb8 1 rfl rfl rfl rfl rfl rfl (gR 6 rfl (Zai 1 rfl rfl rfl (gR 3 rfl (g_if rfl (fun h2 => ?_) (fun h2 => ?_)))))))))
  ·replace h2 := dqU h2
   refine gR 2 rfl (g_v (fun a w F M R r => Zaw F rfl rfl r) ?_)
   refine Zas 0 rfl rfl rfl rfl rfl rfl rfl ?_
   exact gR 4 rfl (ZbB 0 rfl rfl rfl rfl rfl fun w M => ⟨qu0, ⟨BdQu.zero, by decide⟩, rfl, M.ext⟩)
  ·replace h2 := dqV h2
   refine gR 4 rfl (Zah 1 rfl rfl rfl ?_)
   refine Zas 0 rfl rfl rfl rfl rfl rfl rfl ?_
   exact gR 3 rfl (ZbB 0 rfl rfl rfl rfl rfl fun w M => ⟨{ addQ (Zbx o) 0 with next := IntKind.u16.wrap ((addQ (Zbx o) 0).next + 1) }, ⟨⟨ha.b.h, ha.b.c, ha.b.r⟩, ha.c⟩, rfl, M.ext⟩)
theorem Zmt (o : QuaV) (hb : BdQu o) (c : Int) (hc : -9223372036854775808 ≤ c ∧ c ≤ 9223372036854775807) (W : World) : Cal Tryz.prog 141 [.agg (quC o).toArray, .int .i64 c].toArray W fun r w' => PhQ r W w' := by
 have hs := SmQu.clean hb
 refine Zao (n := 20) (S := []) Zal Zak Tryz.func141 rfl rfl rfl (gR 2 rfl (ZaA rfl rfl fun b2 => Zat fun b4 => gR 4 rfl (Zah 1 rfl rfl (Zce trivial) (Zad rfl rfl (fun w M => Zhk _ ‹_› _) ?_))))
 refine Zas 1 rfl rfl (Zbv trivial) (ZeM _) rfl (Zag (by rw [Zbv trivial];first | rfl | rw [Zbv ‹_›])) rfl ?_
 refine gR 6 rfl (Zai 1 rfl rfl (Zc6 trivial) (gR 1 rfl (Zan 9 rfl (fun h1 => ?_) (fun h1 => ?_))))
 ·refine gR 4 rfl (Zan 13 rfl (fun h2 => ?_) (fun h2 => ?_))
  ·replace h2 := dqU h2
   refine gR 5 rfl (g_if rfl (fun h3 => ?_) (fun h3 => ?_))
   ·replace h3 := dqU h3
    refine gR 3 rfl (Zb8 1 rfl rfl rfl rfl rfl rfl (gR 4 rfl (Zah 1 rfl rfl rfl ?_)))
    refine Zas 0 rfl rfl rfl rfl rfl rfl rfl ?_
    exact gR 3 rfl (ZbB 0 rfl rfl rfl rfl rfl fun w M => ⟨{ Zbx o with rep := c }, ⟨⟨hs.b.h, hs.b.c, hc⟩, hs.c⟩, rfl, M.ext⟩)
   ·replace h3 := dqV h3
    refine gR 4 rfl (Zah 1 rfl rfl (Zce trivial) ?_)
    refine Zas 0 rfl rfl rfl rfl rfl rfl rfl ?_
    exact gR 3 rfl (ZbB 0 rfl rfl rfl rfl rfl fun w M => ⟨Zbx o, hs, rfl, M.ext⟩)
  ·replace h2 := dqV h2
   refine gR 10 rfl (Zah 1 rfl rfl (Zce trivial) ?_)
   refine Zas 0 rfl rfl rfl rfl rfl rfl rfl ?_
   exact gR 3 rfl (ZbB 0 rfl rfl rfl rfl rfl fun w M => ⟨Zbx o, hs, rfl, M.ext⟩)
 ·refine gR 14 rfl (Zah 1 rfl rfl (Zce trivial) ?_)
  refine Zas 0 rfl rfl rfl rfl rfl rfl rfl ?_
  exact gR 3 rfl (ZbB 0 rfl rfl rfl rfl rfl fun w M => ⟨Zbx o, hs, rfl, M.ext⟩)
def di0 : DisV := ⟨0, 0⟩
def dvV (d : DstV) : Value := .agg (dvC d).toArray
def diV (d : DisV) : Value := .agg (diC d).toArray
theorem ZjJ {bt : Nat} {p : Option Addr} {len cap k : Nat} {xs : List Int} (W : World) (hT : ZcG W bt p len xs) (hb : W.heap[bt]? = some (tobj p len cap k)) :
  Cal Tryz.prog 57 [.pointer (some ⟨bt, 0, none⟩)].toArray W fun v w' => ∃ x k', v = .int .u16 x ∧ Mem [bt] W w' [(bt, tobj p len cap k')] := by
 have n1 := Zbm xs k (n := 6) (by omega)
 exact Zcp (n := 7) [bt] hb (by simp) Zal Zak Tryz.func57 rfl rfl rfl (gR 8 rfl (ZaS 0 rfl rfl rfl (fun w M => Zba _ (by omega) (by omega) w (hT.later M.ext) (M.at_ _ (Zae (i := 0) rfl))) rfl (ZeX rfl rfl (Zax (by omega) (by omega)) (ZfU rfl rfl (gR 4 rfl (Zab rfl rfl rfl fun w M => ⟨_, _, rfl, M⟩))))))
theorem ZsD {bt : Nat} {p : Option Addr} {len cap k : Nat} {xs : List Int} (W : World) (hT : ZcG W bt p len xs) (hb : W.heap[bt]? = some (tobj p len cap k)) :
  Cal Tryz.prog 230 [.pointer (some ⟨bt, 0, none⟩)].toArray W fun v w' => ∃ x k', v = .int .i64 x ∧ (0 ≤ x ∧ x ≤ 65534) ∧ Mem [bt] W w' [(bt, tobj p len cap k')] := by
 have n1 := Zbm xs k (n := 6) (by omega)
 have n2 := Zbm xs (nxK xs k) (n := 4) (by omega)
 have n3 := Zbm xs (nxK xs k) (n := 600) (by omega)
 have n4 := Zbm xs (nxK xs k) (n := 30) (by omega)
 refine Zcp (n := 18) [bt] hb (by simp) Zal Zak Tryz.func230 rfl rfl rfl (gR 9 rfl (ZaS 0 rfl rfl rfl (fun w M => Zba _ (by omega) (by omega) w (hT.later M.ext) (M.at_ _ (Zae (i := 0) rfl))) rfl (gR 9 rfl (g_if rfl (fun h1 => ?_) (fun h1 => ?_)))))
 ·replace h1 := dqU h1
  exact gR 3 rfl (ZaS 0 rfl rfl rfl (fun w M => Zba _ (by omega) (by omega) w (hT.later M.ext) (M.at_ _ (Zae (i := 0) rfl))) rfl (gR 6 rfl (Zab rfl rfl rfl fun w M => ⟨_, _, rfl, by omega, M⟩)))
 ·replace h1 := dqV h1
  refine gR 6 rfl (g_if rfl (fun h2 => ?_) (fun h2 => ?_))
  ·replace h2 := dqU h2
   exact gR 3 rfl (ZaS 0 rfl rfl rfl (fun w M => Zba _ (by omega) (by omega) w (hT.later M.ext) (M.at_ _ (Zae (i := 0) rfl))) rfl (ZeX rfl rfl (Zax (by omega) (by omega)) (gR 6 rfl (Zab rfl rfl rfl fun w M => ⟨_, _, rfl, by omega, M⟩))))
  ·replace h2 := dqV h2
   exact gR 6 rfl (ZaS 0 rfl rfl rfl (fun w M => Zba _ (by omega) (by omega) w (hT.later M.ext) (M.at_ _ (Zae (i := 0) rfl))) rfl (ZtO rfl rfl (Zax (by omega) (by omega)) (ZaK rfl rfl (Zax (by omega) (by omega)) (gR 4 rfl (Zab rfl rfl rfl fun w M => ⟨_, _, rfl, by omega, M⟩)))))
theorem Zjp {bt : Nat} {p : Option Addr} {len cap k : Nat} {xs : List Int} (W : World) (hT : ZcG W bt p len xs) (hb : W.heap[bt]? = some (tobj p len cap k)) :
  Cal Tryz.prog 143 [.pointer (some ⟨bt, 0, none⟩)].toArray W fun v w' => ∃ x k', v = diV x ∧ (0 ≤ x.met ∧ x.met ≤ 65534) ∧ Mem [bt] W w' [(bt, tobj p len cap k')] := by
 refine ZbU (n := 8) [bt] Tryz.func143 rfl rfl rfl ?_
 intro a w F M hwW
 replace M := M.came hwW hb (by simp) (by simp)
 refine ZaB (Zaf ?_)
 (refine sD F (Zdk M ?_);clear F M;intro b2 w M a F)
 with_reducible refine ZaF (Zam (ZaB (Zaf ?_)))
 refine sD F (Zaq (F.e rfl) ?_);clear F a;intro a F
 (refine sD F (Zbh (F.e rfl) (F.evs rfl) (Cal.mono (ZjJ _ (hT.later M.ext) (M.heap (.there .here)) ) ?_));clear F;clear a;have M0 := M;clear M;rintro _ w ⟨x, k1, rfl, N⟩ a F)
 replace M := M0.turn1 N (.there .here)
 clear M0 N
 refine sD F (Zaq (F.e rfl) ?_);clear F a;intro a F
 (refine sD F (Zbh (F.e rfl) (F.evs rfl) (Cal.mono (ZsD _ (hT.later M.ext) (M.heap (.there .here)) ) ?_));clear F;clear a;have M0 := M;clear M;rintro _ w ⟨y, k2, rfl, hy, N⟩ a F)
 replace M := M0.turn1 N (.there .here)
 clear M0 N
 refine sD F (Zaw F rfl rfl ?_);clear F a;intro a F
 (refine ZdT rfl F (ZbV M (F.e rfl) (F.e rfl) (by rfl) (by rfl) (by repeat constructor) (by rfl) (by repeat constructor) ?_);clear F M;intro w M a F)
 with_reducible refine ZaF (Zam (Zb6 ?_))
 exact Zb3 F rfl (.cons (.cell (F.e rfl) (ZaP TAgg.h (M.heap (by repeat constructor)) rfl)) .nil) ⟨⟨x, y⟩, k2, rfl, hy, M.sub (.cons _ (.refl _))⟩
def ZjE : List Int := [128, 128, 64, 0]
theorem Zpz (i : Nat) : 0 ≤ ZjE.getD i 0 ∧ ZjE.getD i 0 ≤ 128 := by
 rcases Nat.lt_or_ge i 4 with h | h
 ·have : ∀ i : Fin 4, 0 ≤ ZjE.getD i.val 0 ∧ ZjE.getD i.val 0 ≤ 128 := by decide
  exact this ⟨i, h⟩
 ·rw [List.getD_eq_getElem?_getD, List.getElem?_eq_none (by simpa [ZjE] using h)]
  simp
def zr16 : List Int := [0, 0, 0, 0, 0, 0, 0, 0, 0, 0, 0, 0, 0, 0, 0, 0]
theorem ZrF : IsIP zr16 := ⟨rfl, by intro x hx;simp [zr16] at hx;omega⟩
theorem ZoU {z : List Int} (hz : IsIP z) (n e : Int) : Za2 [(0, 17), (17, 17), (34, 1)] dvZ [(0, pfC z n), (2, [.int .u64 e])] = some (dvC ⟨z, n, zr16, 0, e⟩) := by
 obtain ⟨z0, z1, z2, z3, z4, z5, z6, z7, z8, z9, z10, z11, z12, z13, z14, z15, ez⟩ := ZaC hz.len
 subst ez
 rfl
theorem Zmk : ZbO zr16 0 = true := by decide
theorem Zmn {bt : Nat} {p : Option Addr} {len cap k : Nat} {xs : List Int} (W : World) (hT : ZcG W bt p len xs) (hb : W.heap[bt]? = some (tobj p len cap k)) :
  Cal Tryz.prog 29 [.pointer (some ⟨bt, 0, none⟩)].toArray W fun v w' => ∃ x k', v = dvV x ∧ IsDv x ∧ Zcs x = true ∧ Mem [bt] W w' [(bt, tobj p len cap k')] := by
 refine ZbU (n := 21) [bt] Tryz.func29 rfl rfl rfl ?_
 intro a w F M hwW
 replace M := M.came hwW hb (by simp) (by simp)
 refine ZaB (Zaf ?_)
 (refine sD F (Zdk M ?_);clear F M;intro b2 w M a F)
 with_reducible refine ZaF (Zam (ZaB (Zaf ?_)))
 refine sD F (Zaq (F.e rfl) ?_);clear F a;intro a F
 (refine sD F (Zbh (F.e rfl) (F.evs rfl) (Cal.mono (ZjB _ (hT.later M.ext) (M.heap (.there .here)) ) ?_));clear F;clear a;have M0 := M;clear M;rintro _ w ⟨rfl, N⟩ a F)
 replace M := M0.turn1 N (.there .here)
 clear M0 N
 have hip := Zfp xs k
 generalize wipV xs k = ip at *
 generalize wipK xs k = k1 at *
 skip
 (refine sD F (Zch F M rfl rfl rfl rfl ?_);clear F M;intro b6 w M a F)
 refine sD F (Zaq (F.e rfl) ?_);clear F a;intro a F
 (refine sD F (Zbh (F.e rfl) (F.evs rfl) (Cal.mono (Zba 4 (by omega) (by omega) _ (hT.later M.ext) (M.heap (.there (.there .here))) ) ?_));clear F;clear a;have M0 := M;clear M;rintro _ w ⟨rfl, N⟩ a F)
 replace M := M0.turn1 N (.there (.there .here))
 clear M0 N
 have v1 := Zbm xs k1 (n := 4) (by omega)
 have n1 := Zn0 (k := .i64) (xs := ZjE) v1.1 (by simpa [ZjE] using v1.2)
 have hbd := Zpz (nxV xs k1 4).toNat
 (refine sD F (Zcg (F.e rfl) (F.e rfl) (by omega) (by omega) ?_);clear F a;intro a F)
 (refine sD F (Zbo M (F.e rfl) (by repeat constructor) (n1) ?_);clear F a;intro a F)
 generalize ZjE.getD (nxV xs k1 4).toNat 0 = n at *
 generalize nxV xs k1 4 = q at *
 generalize nxK xs k1 = k2 at *
 have hcl : Zde n = n := Zg4 hbd.1 hbd.2
 (refine sD F (Zbh (F.e rfl) (F.evs rfl) (Cal.mono (Cal.to (ZkG ip hip n _) (by rw [hcl])) ?_));clear F;clear a;rintro _ w ⟨rfl, hE⟩ a F;replace M := M.later hE;clear hE)
 have hmi := Zj6 hip n
 have hvm := Zgb hip hbd.1 hbd.2
 generalize ZbH ip n = mip at *
 refine sD F (Zaq (F.e rfl) ?_);clear F a;intro a F
 (refine sD F (Zbh (F.e rfl) (F.evs rfl) (Cal.mono (Zuz _ (hT.later M.ext) (M.heap (.there (.there .here))) ) ?_));clear F;clear a;have M0 := M;clear M;rintro _ w ⟨e, k3, rfl, he, N⟩ a F)
 replace M := M0.turn1 N (.there (.there .here))
 clear M0 N
 have hd : IsDv ⟨mip, n, zr16, 0, e⟩ := ⟨hmi, ZrF⟩
 (refine sD F (Zaw F rfl (ZoU hmi n e) ?_);clear F a;intro a F)
 skip
 (refine sD F (Zdk M ?_);clear F M;intro b3 w M a F)
 (refine ZdT rfl F (ZbV M (F.e rfl) (F.e rfl) (Zaz hd) (Zbq _)  (by repeat constructor)  (Zag (by rw [Zaz hd];rfl)) (by repeat constructor) ?_);clear F M;intro w M a F)
 with_reducible refine ZaF (Zam (ZaB (ZaB (Zaf ?_))))
 refine sD F (Zaq (F.e rfl) ?_);clear F a;intro a F
 (refine sD F (Zbh (F.e rfl) (F.evs rfl) (Cal.mono (ZsK 3 (by omega) (by omega) _ (hT.later M.ext) (M.heap (.there (.there (.there .here)))) ) ?_));clear F;clear a;have M0 := M;clear M;rintro _ w ⟨c, k4, rfl, N⟩ a F)
 replace M := M0.turn1 N (.there (.there (.there .here)))
 clear M0 N
 cases c
 ·have g0 := ZaO hd
  with_reducible refine ZaF (Zam ?_)
  refine Zcm F rfl rfl ?_
  with_reducible refine ZcQ (Zam (ZaB (Zaf ?_)))
  refine sD F (Zc0 M (F.e rfl) (by repeat constructor) ‹_› ?_);clear F a;intro a F
  (refine ZdT rfl F (ZbV M (F.e rfl) (F.e rfl) (Zaz hd) (Zbq _)  (by repeat constructor)  (Zag (by rw [Zaz hd];rfl)) (by repeat constructor) ?_);clear F M;intro w M a F)
  with_reducible refine ZaF (Zam (Zb6 ?_))
  exact Zb3 F rfl (.cons (.cell (F.e rfl) (ZaP TAgg.h (M.heap (by repeat constructor)) g0)) .nil) ⟨_, k4, rfl, hd, by simp [Zcs, hvm, Zmk];omega, M.sub (by repeat (first | exact List.Sublist.refl _ | apply sC1))⟩
 ·with_reducible refine ZaF ?_
  with_reducible refine Zam ?_
  refine ZcV F rfl rfl (Zaf ?_)
  refine sD F (Zaq (F.e rfl) ?_);clear F a;intro a F
  (refine sD F (Zbh (F.e rfl) (F.evs rfl) (Cal.mono (Znc _ (hT.later M.ext) (M.heap (.there (.there (.there .here)))) ) ?_));clear F;clear a;have M0 := M;clear M;rintro _ w ⟨rfl, N⟩ a F)
  replace M := M0.turn1 N (.there (.there (.there .here)))
  clear M0 N
  have hpi : IsIP (ZbH (wpA xs k4) (wpN xs k4)) := Zj6 (Zfp _ _) _
  have hpb := Zq7 xs k4
  have hpv := Zgb (Zfp xs (wpK0 xs k4)) hpb.1 hpb.2
  change ZbO (ZbH (wpA xs k4) (wpN xs k4)) (wpN xs k4) = true at hpv
  generalize ZbH (wpA xs k4) (wpN xs k4) = sip at *
  generalize wpN xs k4 = sn at *
  generalize wpK xs k4 = k5 at *
  have hd2 : IsDv ⟨mip, n, sip, sn, e⟩ := ⟨hmi, hpi⟩
  have g0 := ZaO hd2
  refine sD F (Zay (F.e rfl) ?_);clear F a;intro a F
  (refine ZdT rfl F (ZbV M (F.e rfl) (F.e rfl) (ZeP hpi.len sn) (ZlI _ _)  (by repeat constructor)  (ZmU hd hpi sn) (by repeat constructor) ?_);clear F M;intro w M a F)
  replace M : Mem [bt] W w [(b3, .cells (dvC ⟨mip, n, sip, sn, e⟩).toArray 67 (0, 0)), (b6, _), (b2, _), (bt, _)] := M
  with_reducible refine ZaF (Zam (ZaB (Zaf ?_)))
  refine sD F (Zc0 M (F.e rfl) (by repeat constructor) ‹_› ?_);clear F a;intro a F
  (refine ZdT rfl F (ZbV M (F.e rfl) (F.e rfl) (Zaz hd2) (Zbq _)  (by repeat constructor)  (Zag (by rw [Zaz hd2];rfl)) (by repeat constructor) ?_);clear F M;intro w M a F)
  with_reducible refine ZaF (Zam (Zb6 ?_))
  exact Zb3 F rfl (.cons (.cell (F.e rfl) (ZaP TAgg.h (M.heap (by repeat constructor)) g0)) .nil) ⟨_, k5, rfl, hd2, by simp [Zcs, hvm, hpv];omega, M.sub (by repeat (first | exact List.Sublist.refl _ | apply sC1))⟩
end Go.Proofs.YtfhkmgcalcfibaaGreat
namespace Go.Proofs.YtfhkmgcalcfibaaGreat
open Go.RowKit
section
variable {c : Cx} {Q : Exit → Act → World → Prop} {ks : List KF} {fr : List (Nat × Value)} {x : RX} {rest : List Oper} {k : Nat} {xs : List (Nat × XP)} {E : ESt} {d : Nat} {ty : TypeId} {pos : String} {af : Array Edge}
theorem ZrG {p : XP} {h0 : Nat} {Vs : List Pred} (hlen : Vs.length = k) (hx : ∀ q ∈ xs, Vs[q.1]? = some (q.2.pred h0)) : ∀ q ∈ (k, p) :: xs, (Vs ++ [p.pred h0])[q.1]? = some (q.2.pred h0) := fun q hq => by
 rcases List.mem_cons.1 hq with rfl | hq
 ·rw [← hlen];simp
 ·exact Zfy hx q hq
theorem Zm9 {a : Act} {w : World} {o : Oper} {j n0 t2 : Nat} {p : XP} {Vs : List Pred} {ol : List Oper} (hx : ∀ q ∈ xs, Vs[q.1]? = some (q.2.pred n0)) (hj : (j, p) ∈ xs) (hd : (Za3 o).contains j = true) (ht : (ol.toArray[j]?).bind (·.dst) = some t2)
  (D : ∀ j' ∈ Za3 o, ∀ U, Vs[j']? = some U → U (Za9 ol.toArray j' a) w) : p.pred n0 (a.eval (.tmp t2)) w := by
 have h := D j (by simpa using hd) _ (hx _ hj)
 unfold Za9 at h
 rw [ht] at h
 exact h
theorem ZtW (j : Nat) {t e : TypeId} {len sz t2 : Nat} {y : Operand} {ik : IntKind} {n : Int} {o : Obj} [ht : TU c.P t (.slice e)] [hs : TSz c.P e sz] (hj : (j, XP.nw len o) ∈ xs) (hy : Ev fr y = some (.int ik n)) (h0 : 0 ≤ n) (h1 : n < len)
  (hk : FE c Q ks x (k + 1) rest fr ((k, .pt (0 + n.toNat * sz) o) :: xs) E) (hlt : flo x.Ef x.Rl [] x.n k (.indexAddr t (.tmp t2) y) = true := by rfl) (hnd : notIn d fr = true := by rfl)
  (hd : (Za3 ⟨some d, .indexAddr t (.tmp t2) y, ty, pos, af, none⟩).contains j = true := by rfl) (ht2 : (x.ol.toArray[j]?).bind (·.dst) = some t2 := by rfl) : FE c Q ks x k (⟨some d, .indexAddr t (.tmp t2) y, ty, pos, af, none⟩ :: rest) fr xs E := fun hE a w Vs hM hB hok hx => by
 intro hlen
 refine mX (V := (XP.pt (0 + n.toNat * sz) o).pred w.heap.size) hok hlt hnd (XP.stays hB _) (fun a' w' F' E' D' => ?_) (hk (fun sl l h q hq => Nat.lt_succ_of_lt (hE sl l h q hq)) a w _ hM hB hok (ZrG hlen hx)) hlen
 obtain ⟨b, hv, hb, ho⟩ := Zm9 hx hj hd ht2 D'
 exact Zcg hv (F'.e hy) h0 h1 ⟨Ext.refl _ _, b, rfl, hb, ho⟩
theorem ZtV (j : Nat) {t t2 off : Nat} {cs : List Value} {t' : TypeId} {fz : Nat × Nat} {v : Value} [ht : TOne c.P t] (hj : (j, XP.pt off (.cells cs.toArray t' fz)) ∈ xs) (hv : nth cs off = some v)
  (hk : FE c Q ks x (k + 1) rest ((d, v) :: fr) xs E) (hlt : flo x.Ef x.Rl [] x.n k (.load t (.tmp t2)) = true := by rfl) (hd0 : Nat.blt d c.n = true := by rfl)
  (hd : (Za3 ⟨some d, .load t (.tmp t2), ty, pos, af, none⟩).contains j = true := by rfl) (ht2 : (x.ol.toArray[j]?).bind (·.dst) = some t2 := by rfl) : FE c Q ks x k (⟨some d, .load t (.tmp t2), ty, pos, af, none⟩ :: rest) fr xs E := fun hE a w Vs hM hB hok hx => by
 intro hlen
 refine mKX hok hlt hd0 (fun a' w' F' E' D' => ?_) (hk (fun sl l h q hq => Nat.lt_succ_of_lt (hE sl l h q hq)) a w _ hM hB hok (Zfy hx)) hlen
 obtain ⟨b, hp, hb, ho⟩ := Zm9 hx hj hd ht2 D'
 exact Zdw hp ho hv ⟨Ext.refl _ _, rfl⟩
end
attribute [local irreducible] OpTo wpListIn Code.wpIn MW Cal
theorem Ztk {n : Int} (h0 : 0 ≤ n) (h1 : n < 5) : ∃ c : Int, nth [Value.int .i64 256, .int .i64 256, .int .i64 342, .int .i64 512, .int .i64 65535] (0 + n.toNat * 1) = some (.int .i64 c) ∧ 0 ≤ c ∧ c ≤ 65535 := by
 rcases (by omega : n = 0 ∨ n = 1 ∨ n = 2 ∨ n = 3 ∨ n = 4) with rfl | rfl | rfl | rfl | rfl
 ·exact ⟨256, rfl, by decide, by decide⟩
 ·exact ⟨256, rfl, by decide, by decide⟩
 ·exact ⟨342, rfl, by decide, by decide⟩
 ·exact ⟨512, rfl, by decide, by decide⟩
 ·exact ⟨65535, rfl, by decide, by decide⟩
def PhQT (p : Option Addr) (len cap bt : Nat) (r : Value) (W w' : World) : Prop := ∃ o k', SmQu o ∧ r = .agg (quC o).toArray ∧ Mem [bt] W w' [(bt, tobj p len cap k')]
theorem Zia {bt : Nat} {p : Option Addr} {len cap k : Nat} {xs : List Int} (W : World) (hT : ZcG W bt p len xs) (hb : W.heap[bt]? = some (tobj p len cap k)) :
  Cal Tryz.prog 59 [.pointer (some ⟨bt, 0, none⟩)].toArray W fun r w' => PhQT p len cap bt r W w' := by
 refine Zcp (n := 38) [bt] hb (by simp) Zal Zak Tryz.func59 rfl rfl rfl (gR 2 rfl (Zat fun b2 => gR 4 rfl (g_v (fun a w F M R r => Zaw F rfl rfl r) (gR 1 rfl ?_))))
 refine Za8 (ι := Int × Nat) 1 (fun j => .int .u16 j.1) (fun _ => True) (fun j => tobj p len cap j.2) (fun _ => []) rfl rfl rfl (fun w M => Cal.mono (ZjJ w (hT.later M.ext) (M.at_ _ (Zae (i := 1) rfl))) fun r w' h => by
  obtain ⟨x, k', q, N⟩ := h
  exact ⟨(x, k'), q, trivial, by simpa using N⟩) (fun _ => rfl) ?_
 rintro ⟨s, k1⟩ -
 dsimp only [List.nil_append]
 refine Zct (ι := QuaV) (fun o => .agg (quC o).toArray) SmQu (fun _ => []) rfl rfl (fun w M => Cal.mono (Zhj qu0 BdQu.zero s w) fun r w' h => by
  obtain ⟨o, ho, q, E⟩ := h
  exact ⟨o, q, ho, Mem.nil E⟩) ?_
 intro y hy
 dsimp only [List.nil_append]
 have n9 := Zbm xs k1 (n := 9) (by omega)
 refine Zat fun b3 => Zas 0 rfl rfl (Zbv trivial) (ZeM _) rfl (Zag (by rw [Zbv trivial];first | rfl | rw [Zbv ‹_›])) rfl ?_
 refine gR 6 rfl (ZaS 2 rfl rfl rfl (fun w M => Zba _ (by omega) (by omega) w (hT.later M.ext) (M.at_ _ (Zae (i := 2) rfl))) rfl (gR 4 rfl (Za1 (ι := QuaV × Int × Nat) ⟨fun (y, d, k2) => d.toNat, fun (y, d, k2) => SmQu y ∧ d < 9, fun (y, d, k2) => [(4, .int .i64 d), (3, .pointer (some ⟨b3, 0, none⟩)), (0, .pointer (some ⟨bt, 0, none⟩)), (2, .pointer (some ⟨b2, 0, none⟩))], fun (y, d, k2) => [[(b3, Obj.cells (quC y).toArray 122 (0, 0))], [(b2, .cells (quC qu0).toArray 122 (0, 0))], [(bt, tobj p len cap k2)]]⟩ (y, _, _) ⟨hy, by omega⟩ (fun a F => F.only [4, 3, 0, 2] rfl) (sX 17179869183 rfl) ?_)))
 clear n9 hy
 rintro ⟨y, d, k2⟩ ⟨hy, hd⟩
 dsimp only at hy hd ⊢
 have hb1 := hy.b
 by_cases hlt : 0 < d
 ·refine gR 7 rfl ?_
  refine ZaE rfl (dqT (by omega)) (gR 7 rfl (ZaS 2 rfl rfl rfl (fun w M => Zfm _ (by omega) (by omega) w (hT.later M.ext) (M.at_ _ (Zae (i := 2) rfl))) rfl (gR 2 rfl (g_if rfl (fun h1 => ?_) (fun h1 => ?_)))))
  focus
   replace h1 := dqU h1
   refine gR 1 rfl (Zah 0 rfl rfl (Zce trivial) ?_)
  rotate_left 1
  focus
   replace h1 := dqV h1
   refine gR 1 rfl (Zah 0 rfl rfl (Zce trivial) (gR 1 rfl (Zai 0 rfl rfl (ZkL trivial) ?_)))
  rotate_right 1
  ·refine Zct (ι := QuaV) (fun o => .agg (quC o).toArray) SmQu (fun _ => []) rfl rfl (fun w M => Cal.mono (Zmu y hb1 w) fun r w' h => by
    obtain ⟨o, ho, q, E⟩ := h
    exact ⟨o, q, ho, Mem.nil E⟩) ?_
   intro y2 hy2
   dsimp only [List.nil_append]
   refine Zas 0 rfl rfl (Zbv trivial) (ZeM _) rfl (Zag (by rw [Zbv trivial];first | rfl | rw [Zbv ‹_›])) rfl ?_
   refine gR 5 rfl (ZeX rfl rfl (Zax (by omega) (by omega)) (gR 2 rfl ?_))
   exact Zar (y2, d - 1, _) ⟨hy2, by dsimp only;omega⟩ (by dsimp only;omega) (fun a F => F.only [4, 3, 0, 2] rfl) (sX 17179869183 rfl)
  ·refine Zct (ι := QuaV) (fun o => .agg (quC o).toArray) SmQu (fun _ => []) rfl rfl (fun w M => Cal.mono (Zhj y hb1 y.next w) fun r w' h => by
    obtain ⟨o, ho, q, E⟩ := h
    exact ⟨o, q, ho, Mem.nil E⟩) ?_
   intro y2 hy2
   dsimp only [List.nil_append]
   refine Zas 0 rfl rfl (Zbv trivial) (ZeM _) rfl (Zag (by rw [Zbv trivial];first | rfl | rw [Zbv ‹_›])) rfl ?_
   refine gR 5 rfl (ZeX rfl rfl (Zax (by omega) (by omega)) (gR 2 rfl ?_))
   exact Zar (y2, d - 1, _) ⟨hy2, by dsimp only;omega⟩ (by dsimp only;omega) (fun a F => F.only [4, 3, 0, 2] rfl) (sX 17179869183 rfl)
 refine gR 7 rfl (Zav rfl (dqF (by omega)) (gR 2 rfl (ZaZ (gR 3 rfl (ZcD (ι := QuaV) ⟨fun y => SmQu y, fun y => [(3, .pointer (some ⟨b3, 0, none⟩)), (0, .pointer (some ⟨bt, 0, none⟩)), (2, .pointer (some ⟨b2, 0, none⟩))], fun y => [[(b3, Obj.cells (quC y).toArray 122 (0, 0))], [(b2, .cells (quC qu0).toArray 122 (0, 0))], [(bt, tobj p len cap k2)]]⟩ ?_ ?_)))))
 ·cases hk : y.known
  ·refine gR 3 rfl ?_
   refine Zai 0 rfl rfl (Zc6 trivial) (gR 3 rfl (ZaE rfl (notT ‹_›) ?_))
   refine gR 1 rfl (Zah 0 rfl rfl (Zce trivial) ?_)
   refine Zct (ι := QuaV) (fun o => .agg (quC o).toArray) SmQu (fun _ => []) rfl rfl (fun w M => Cal.mono (Zhj y hb1 0 w) fun r w' h => by
    obtain ⟨o, ho, q, E⟩ := h
    exact ⟨o, q, ho, Mem.nil E⟩) ?_
   intro y2 hy2
   dsimp only [List.nil_append]
   refine Zas 0 rfl rfl (Zbv trivial) (ZeM _) rfl (Zag (by rw [Zbv trivial];first | rfl | rw [Zbv ‹_›])) rfl ?_
   exact gR 1 rfl (Za6 y2 hy2 (fun a F => F.only [3, 0, 2] rfl) (sX 17179869183 rfl))
  ·refine gR 3 rfl ?_
   refine Zai 0 rfl rfl (Zc6 trivial) (gR 3 rfl (Zav rfl (notF ‹_›) ?_))
   exact gR 1 rfl (Za6 y hy (fun a F => F.only [3, 0, 2] rfl) (sX 17179869183 rfl))
 clear hy hb1 hlt hd y
 intro y hy
 have hb1 := hy.b
 dsimp only
 have n5 := Zbm xs (nxK xs k2) (n := 5) (by omega)
 obtain ⟨cc, hcc, c0, c1⟩ := Ztk n5.1 n5.2
 refine gR 5 rfl (ZaS 2 rfl rfl rfl (fun w M => Zfm _ (by omega) (by omega) w (hT.later M.ext) (M.at_ _ (Zae (i := 2) rfl))) rfl (gR 2 rfl (g_if rfl (fun h1 => ?_) (fun h1 => ?_))))
 ·replace h1 := dqU h1
  refine gR 2 rfl (Zah 0 rfl rfl (Zce trivial) (Zas 1 rfl rfl (Zbv trivial) (ZeM _) rfl (Zag (by rw [Zbv trivial];first | rfl | rw [Zbv ‹_›])) rfl ?_))
  exact gR 4 rfl (ZbB 1 rfl rfl rfl rfl (Zce trivial) fun w M => ⟨y, _, hy, rfl, M.sub (.cons _ (.cons _ (.refl _)))⟩)
 replace h1 := dqV h1
 refine gR 2 rfl (gR 1 rfl (Zfw 7 38 [bt] [3, 6] [] [[(bt, tobj p len cap (nxK xs k2))]] [[(b3, Obj.cells (quC y).toArray 122 (0, 0))], [(b2, .cells (quC qu0).toArray 122 (0, 0))]] rfl (by kernel_rfl) (by simpa using List.perm_append_comm (l₁ := [(b3, Obj.cells (quC y).toArray 122 (0, 0)), (b2, .cells (quC qu0).toArray 122 (0, 0))]) (l₂ := [(bt, tobj p len cap (nxK xs k2))])) (by simp) (Zen ?_)))
 refine fe_v (fun a2 w F M R r => Zb4 (F.e rfl) (M.at_ _ (.head _)) (show seg (quC y) 0 5 = some (quC y) from rfl) r) (Zuy rfl rfl rfl rfl (ZcE 60 rfl (ZtT (v := .int .i64 (nxV xs (nxK xs k2) 5)) (fun _ => [[(b3, Obj.cells (quC y).toArray 122 (0, 0))], [(b2, .cells (quC qu0).toArray 122 (0, 0))], [(bt, tobj p len cap (nxK xs (nxK xs k2)))]]) [] (fun i hi => ?_) ?_)))
 ·exact ZnO 2 rfl rfl rfl (.head _) (fun w M => Zba 5 (by omega) (by omega) w (hT.later M.ext) (M.at_ _ (Zae (i := 2) rfl))) rfl
 refine ZcE 60 rfl (ZtW 1 (.head _) rfl n5.1 (by omega) (ZtV 4 (.head _) hcc (ZcE 60 rfl (Zgv (κ := QuaV) (fun _ o => .agg (quC o).toArray) (fun _ o => SmQu o) (fun _ _ => [[(b3, Obj.cells (quC y).toArray 122 (0, 0))], [(b2, .cells (quC qu0).toArray 122 (0, 0))], [(bt, tobj p len cap (nxK xs (nxK xs k2)))]]) [] .any (fun i hi => ?_) (fun _ _ _ _ => trivial) ?_))))
 ·exact ZnN (fun o : QuaV => .agg (quC o).toArray) (fun o => SmQu o) (fun _ => []) rfl rfl (fun w M => Cal.mono (Zmt y hb1 cc (by omega) w) fun r w' h => by
   obtain ⟨o, ho, q, E⟩ := h
   exact ⟨o, q, ho, Mem.nil E⟩)
 refine ZhC rfl (by rintro i _ q hq;simp at hq;rcases hq with rfl <;> simp) ?_
 rintro ⟨_, o⟩ ⟨_, ho⟩
 refine ⟨_, rfl, ?_⟩
 dsimp only at ho ⊢
 refine Zas 1 rfl rfl rfl rfl rfl rfl rfl ?_
 exact gR 3 rfl (ZbB 1 rfl rfl rfl rfl rfl fun w M => ⟨o, _, ho, rfl, M.sub (.cons _ (.cons _ (.refl _)))⟩)
end Go.Proofs.YtfhkmgcalcfibaaGreat
namespace Go.Proofs.YtfhkmgcalcfibaaGreat
open Go.RowKit
attribute [local irreducible] OpTo wpListIn Code.wpIn MW Cal
theorem ZnI (t : Int) (W : World) : Cal Tryz.prog 194 [.int .i64 t].toArray W fun v w' => v = .bool (Za5 t) ∧ Ext [] W w' := by
 unfold Za5
 by_cases h : 0 ≤ t
 ·rw [dqT h, Bool.true_and]
  have h1 := dqT h
  exact Zao (n := 9) (S := []) Zal Zak Tryz.func194 rfl rfl rfl (gR 10 rfl (ZaQ 5 rfl (dqT (by omega)) (gR 7 rfl (Zab rfl rfl rfl fun w M => ⟨rfl, M.ext⟩))))
 ·rw [dqF h, Bool.false_and]
  have h1 := dqF h
  exact Zao (n := 9) (S := []) Zal Zak Tryz.func194 rfl rfl rfl (gR 10 rfl (ZaQ 5 rfl (dqF (by omega)) (gR 7 rfl (Zab rfl rfl rfl fun w M => ⟨rfl, M.ext⟩))))
theorem Zc8 (t : Int) (W : World) : Cal Tryz.prog 65 [.int .i64 t].toArray W fun v w' => v = .bool (Za5 t) ∧ Ext [] W w' := by
 unfold Za5
 by_cases h : 0 ≤ t
 ·rw [dqT h, Bool.true_and]
  have h1 := dqT h
  exact Zao (n := 9) (S := []) Zal Zak Tryz.func65 rfl rfl rfl (gR 10 rfl (ZaQ 5 rfl (dqT (by omega)) (gR 7 rfl (Zab rfl rfl rfl fun w M => ⟨rfl, M.ext⟩))))
 ·rw [dqF h, Bool.false_and]
  have h1 := dqF h
  exact Zao (n := 9) (S := []) Zal Zak Tryz.func65 rfl rfl rfl (gR 10 rfl (ZaQ 5 rfl (dqF (by omega)) (gR 7 rfl (Zab rfl rfl rfl fun w M => ⟨rfl, M.ext⟩))))
def orgD (self : Int) (o : OrgV) : DstV := ⟨o.dip, o.dbits, o.sip, o.sbits, self⟩
theorem ZoR (self : Int) (o : OrgV) (h : IsDv (orgD self o)) : Za2 [(0, 17), (17, 17), (34, 1)] dvZ [(0, pfC o.dip o.dbits), (1, pfC o.sip o.sbits), (2, [.int .u64 self])] = some (dvC (orgD self o)) := ZqL h
theorem ZkS {self : Int} {o : OrgV} (h : IsOg o) : IsDv (orgD self o) := h
theorem Zhp (self : Int) (o : OrgV) (ho : IsOg o) (W : World) : Cal Tryz.prog 88 [.int .u64 self, .agg (ogC o).toArray].toArray W fun v w' => v = .agg (dvC (orgD self o)).toArray ∧ Ext [] W w' := by
 have hd : IsDv (orgD self o) := ho
 refine Zao (n := 11) (S := []) Zal Zak Tryz.func88 rfl rfl rfl (gR 2 rfl (ZaA rfl rfl fun b3 => Zat fun b4 => gR 5 rfl (Zah 1 rfl rfl (Zre ‹_›) ?_)))
 refine gR 1 rfl (Zah 1 rfl rfl (Zrd ‹_›) ?_)
 refine gR 1 rfl (g_v (fun a w F M R r => Zaw F rfl (ZoR _ _ ‹_›) r) ?_)
 refine Zas 0 rfl rfl (Zaz ‹_›) (Zbq _) rfl (Zag (by rw [Zaz ‹_›];first | rfl | rw [Zaz ‹_›])) rfl ?_
 refine gR 3 rfl (ZbB 0 rfl rfl rfl rfl (ZaO ‹_›) fun w M => ?_)
 exact ⟨rfl, M.ext⟩
theorem Zex (self : Int) (o : OrgV) (ho : IsOg o) (W : World) : Cal Tryz.prog 91 [.int .u64 self, .agg (ogC o).toArray].toArray W fun v w' => v = .agg (dvC (orgD self o)).toArray ∧ Ext [] W w' := by
 have hd : IsDv (orgD self o) := ho
 refine Zao (n := 11) (S := []) Zal Zak Tryz.func91 rfl rfl rfl (gR 2 rfl (ZaA rfl rfl fun b3 => Zat fun b4 => gR 5 rfl (Zah 1 rfl rfl (Zre ‹_›) ?_)))
 refine gR 1 rfl (Zah 1 rfl rfl (Zrd ‹_›) ?_)
 refine gR 1 rfl (g_v (fun a w F M R r => Zaw F rfl (ZoR _ _ ‹_›) r) ?_)
 refine Zas 0 rfl rfl (Zaz ‹_›) (Zbq _) rfl (Zag (by rw [Zaz ‹_›];first | rfl | rw [Zaz ‹_›])) rfl ?_
 refine gR 3 rfl (ZbB 0 rfl rfl rfl rfl (ZaO ‹_›) fun w M => ?_)
 exact ⟨rfl, M.ext⟩
def req1 (r : ReqV) : Bool := Zcs r.to && decide (1 ≤ r.hops) && decide (r.hops ≤ 32) && Za5 r.next && decide (1 ≤ r.left) && decide (r.left ≤ 3)
def Zjv (a b : ReqV) : Int := cmpD a.to b.to
def Zdu (l : List ReqV) : Bool := vldL 64 req1 Zjv l
def org1 (self : Int) (o : OrgV) : Bool := Zcs (orgD self o)
def Zjw (self : Int) (a b : OrgV) : Int := cmpD (orgD self a) (orgD self b)
def Zec (self : Int) (l : List OrgV) : Bool := vldL 8 (org1 self) (Zjw self) l
def adj1 (self : Int) (a : AdjV) : Bool := !decide (a.nb = 0) && !decide (a.nb = self) && ZdW a.q && a.q.known && Za5 a.til && Za5 a.ans
def Zkn (a b : AdjV) : Int := a.nb - b.nb
def ZfB (self : Int) (l : List AdjV) : Bool := vldL 16 (adj1 self) Zkn l
theorem Zms (l : List ReqV) (hx : ∀ x ∈ l, IsRq x) (v : Value) (W : World) (hS : SlAt W 40 v l.length (rqsC l)) :
  Cal Tryz.prog 106 [v].toArray W fun r w' => r = .bool (Zdu l) ∧ Ext [] W w' := by
 obtain ⟨q, cap, rfl, _⟩ := id hS
 have hm := hS.memB [] (by simp)
 unfold Zdu
 generalize hV : vldL 64 req1 Zjv l = b0
 refine Zao (n := 60) (S := []) Zal Zak Tryz.func106 rfl rfl rfl ?_
 by_cases c0 : 64 < l.length
 ·refine gR 13 rfl ?_
  exact ZaE rfl (dqT (by omega)) (gR 7 rfl (Zab rfl rfl rfl fun w M => vl_L hV c0 M.ext))
 refine gR 13 rfl (Zav rfl (dqF (by omega)) (gR 11 rfl (Za1 (ι := Nat) ⟨fun (i : Nat) => l.length - i, fun (i : Nat) => i ≤ l.length ∧ (∀ j, j < i → vld1 req1 Zjv l j = true), fun (i : Nat) => [(10, .int .i64 i), (9, .int .i64 l.length), (8, .slice q l.length cap), (0, .slice q l.length cap)], fun (i : Nat) => []⟩ 0 ⟨by omega, by omega⟩ (fun a F => F.only [10, 9, 8, 0] rfl) (sX 17179869183 rfl) ?_)))
 rintro i ⟨hi_i, hv⟩
 by_cases hlt_i : i < l.length
 ·obtain ⟨b, o, cs, t', fz, rfl, hb, hs⟩ := hm (by omega)
  obtain ⟨x, hx0⟩ : ∃ x, x = l[i] := ⟨_, rfl⟩
  have hxm : x ∈ l := by rw [hx0];exact List.getElem_mem hlt_i
  have hxi : IsRq x := hx _ hxm
  have f1 : seg cs (o + (i : Int).toNat * 40) 40 = some (rqC x) := by rw [hx0];exact Za0 (ZeI hx) hs hlt_i (by omega)
  replace hx0 := hx0.symm
  have xd : IsDv x.to := hxi
  refine gR 6 rfl (ZaE rfl (dqT (by omega)) (gR 7 rfl (Zbk rfl rfl (by omega) (by omega) (ZbF rfl ‹_› (by with_reducible assumption) ?_))))
  refine Zat fun b4 => gR 1 rfl (Zas 0 rfl rfl (ZcC ‹_›) (ZeJ _) rfl (Zag (by rw [ZcC ‹_›];first | rfl | rw [ZcC ‹_›])) rfl ?_)
  refine gR 6 rfl (Zah 0 rfl rfl (ZkC ‹_›) ?_)
  refine Zad rfl rfl (fun w M => ZcI _ ‹_› _) ?_
  refine gR 2 rfl (Zan 19 rfl (fun h1 => ?_) (fun h1 => ?_))
  ·replace h1 := Zaa h1
   refine gR 37 rfl (ZaM (gR 2 rfl (Zab rfl rfl rfl fun w M => ?_)))
   exact vl_F hV hlt_i hx0.symm (by (unfold req1;simp [*];done)) M.ext
  replace h1 := Zac h1
  refine gR 1 rfl (Zai 0 rfl rfl (Zi2 ‹_›) ?_)
  refine gR 3 rfl (Zan 24 rfl (fun h2 => ?_) (fun h2 => ?_))
  ·replace h2 := dqU h2
   refine gR 32 rfl (ZaM (gR 2 rfl (Zab rfl rfl rfl fun w M => ?_)))
   exact vl_F hV hlt_i hx0.symm (by (unfold req1;simp [*] <;> omega)) M.ext
  replace h2 := dqV h2
  refine gR 1 rfl (Zai 0 rfl rfl (Zi2 ‹_›) ?_)
  refine gR 3 rfl (Zan 29 rfl (fun h3 => ?_) (fun h3 => ?_))
  ·replace h3 := dqU h3
   refine gR 27 rfl (ZaM (gR 2 rfl (Zab rfl rfl rfl fun w M => ?_)))
   exact vl_F hV hlt_i hx0.symm (by (unfold req1;simp [*] <;> omega)) M.ext
  replace h3 := dqV h3
  refine gR 1 rfl (Zai 0 rfl rfl (Zny ‹_›) ?_)
  refine Zad rfl rfl (fun w M => ZnI _ _) (gR 3 rfl (Zan 35 rfl (fun h4 => ?_) (fun h4 => ?_)))
  ·replace h4 := Zaa h4
   refine gR 21 rfl (ZaM (gR 2 rfl (Zab rfl rfl rfl fun w M => ?_)))
   exact vl_F hV hlt_i hx0.symm (by (unfold req1;simp [*];done)) M.ext
  replace h4 := Zac h4
  refine gR 1 rfl (Zai 0 rfl rfl (Zi1 ‹_›) ?_)
  refine gR 3 rfl (Zan 40 rfl (fun h5 => ?_) (fun h5 => ?_))
  ·replace h5 := dqU h5
   refine gR 16 rfl (ZaM (gR 2 rfl (Zab rfl rfl rfl fun w M => ?_)))
   exact vl_F hV hlt_i hx0.symm (by (unfold req1;simp [*] <;> omega)) M.ext
  replace h5 := dqV h5
  refine gR 1 rfl (Zai 0 rfl rfl (Zi1 ‹_›) ?_)
  refine gR 4 rfl (g_if rfl (fun h6 => ?_) (fun h6 => ?_))
  ·replace h6 := dqU h6
   refine gR 9 rfl (ZaM (gR 2 rfl (Zab rfl rfl rfl fun w M => ?_)))
   exact vl_F hV hlt_i hx0.symm (by (unfold req1;simp [*];done)) M.ext
  replace h6 := dqV h6
  refine gR 2 rfl ?_
  by_cases hi0 : 0 < i
  ·obtain ⟨y, hy0⟩ : ∃ y, y = l[i - 1]'(by omega) := ⟨_, rfl⟩
   have yI : IsRq y := by rw [hy0];exact hx _ (List.getElem_mem _)
   have f2 : seg cs (o + ((i : Int) - 1).toNat * 40) 40 = some (rqC y) := by rw [hy0];exact Za0 (ZeI hx) hs (show i - 1 < l.length by omega) (by omega)
   replace hy0 := hy0.symm
   have yd : IsDv y.to := yI
   refine gR 1 rfl (ZaG 14 60 rfl (by kernel_rfl) (fR 3 rfl (ZaX 47 rfl (dqT (by omega)) (fR 2 rfl (ZdR rfl rfl (Zax (by omega) (by omega)) (Zbb rfl rfl (by omega) (by omega) (fR 1 rfl (Zb1 rfl ‹_› (ZbP f2 (ZkC ‹_›) (by omega)) ?_))))))))
   refine fR 1 rfl (ZaN 0 rfl rfl (ZkC ‹_›) ?_)
   refine ZaH rfl rfl (fun w M => ZcX _ _ ‹_› ‹_› _) ?_
   refine fR 2 rfl (Zap rfl rfl (gR 2 rfl (g_if rfl (fun h1 => ?_) (fun h1 => ?_))))
   ·replace h1 := dqU h1
    exact gR 8 rfl (ZaM (gR 2 rfl (Zab rfl rfl rfl fun w M => vl_S hV hlt_i hi0 hx0.symm hy0.symm (by unfold Zjv;omega) M.ext)))
   ·replace h1 := dqV h1
    refine gR 4 rfl (ZaK rfl rfl (Zax (by omega) (by omega)) (gR 2 rfl ?_))
    exact Zar (i + 1) ⟨by omega, vl_N hlt_i hx0.symm hv (by (unfold req1;simp [*] <;> omega)) fun _ => by rw [hy0];exact (by unfold Zjv;omega)⟩ (by dsimp only;omega) (fun a F => F.only [10, 9, 8, 0] rfl) (sX 0 rfl)
  ·refine gR 1 rfl ?_
   refine ZaG 14 60 rfl (by kernel_rfl) (fR 3 rfl (ZaX 47 rfl (dqF (by omega)) (fR 11 rfl (Zap rfl rfl (gR 7 rfl (ZaK rfl rfl (Zax (by omega) (by omega)) (gR 2 rfl ?_)))))))
   exact Zar (i + 1) ⟨by omega, vl_N hlt_i hx0.symm hv (by (unfold req1;simp [*] <;> omega)) fun h => absurd h hi0⟩ (by dsimp only;omega) (fun a F => F.only [10, 9, 8, 0] rfl) (sX 0 rfl)
 ·have hil : i = l.length := by omega
  rw [hil] at hv
  exact gR 6 rfl (Zav rfl (dqF (by omega)) (gR 2 rfl (ZaZ (gR 8 rfl (Zab rfl rfl rfl fun w M => vl_T hV (by omega) hv M.ext)))))
theorem Zei (l : List ReqV) (hx : ∀ x ∈ l, IsRq x) (v : Value) (W : World) (hS : SlAt W 40 v l.length (rqsC l)) :
  Cal Tryz.prog 116 [v].toArray W fun r w' => r = .bool (Zdu l) ∧ Ext [] W w' := by
 obtain ⟨q, cap, rfl, _⟩ := id hS
 have hm := hS.memB [] (by simp)
 unfold Zdu
 generalize hV : vldL 64 req1 Zjv l = b0
 refine Zao (n := 62) (S := []) Zal Zak Tryz.func116 rfl rfl rfl ?_
 by_cases c0 : 64 < l.length
 ·refine gR 13 rfl ?_
  exact ZaE rfl (dqT (by omega)) (gR 7 rfl (Zab rfl rfl rfl fun w M => vl_L hV c0 M.ext))
 refine gR 13 rfl (Zav rfl (dqF (by omega)) (gR 11 rfl (Za1 (ι := Nat) ⟨fun (i : Nat) => l.length - i, fun (i : Nat) => i ≤ l.length ∧ (∀ j, j < i → vld1 req1 Zjv l j = true), fun (i : Nat) => [(10, .int .i64 i), (9, .int .i64 l.length), (8, .slice q l.length cap), (0, .slice q l.length cap)], fun (i : Nat) => []⟩ 0 ⟨by omega, by omega⟩ (fun a F => F.only [10, 9, 8, 0] rfl) (sX 17179869183 rfl) ?_)))
 rintro i ⟨hi_i, hv⟩
 by_cases hlt_i : i < l.length
 ·obtain ⟨b, o, cs, t', fz, rfl, hb, hs⟩ := hm (by omega)
  obtain ⟨x, hx0⟩ : ∃ x, x = l[i] := ⟨_, rfl⟩
  have hxm : x ∈ l := by rw [hx0];exact List.getElem_mem hlt_i
  have hxi : IsRq x := hx _ hxm
  have f1 : seg cs (o + (i : Int).toNat * 40) 40 = some (rqC x) := by rw [hx0];exact Za0 (ZeI hx) hs hlt_i (by omega)
  replace hx0 := hx0.symm
  have xd : IsDv x.to := hxi
  refine gR 6 rfl (ZaE rfl (dqT (by omega)) (gR 14 rfl (Zbk rfl rfl (by omega) (by omega) (ZbF rfl ‹_› (by with_reducible assumption) ?_))))
  refine Zat fun b4 => Zas 0 rfl rfl (ZcC ‹_›) (ZeJ _) rfl (Zag (by rw [ZcC ‹_›];first | rfl | rw [ZcC ‹_›])) rfl ?_
  refine gR 6 rfl (Zah 0 rfl rfl (ZkC ‹_›) ?_)
  refine Zad rfl rfl (fun w M => Zbg _ ‹_› _) ?_
  refine gR 2 rfl (Zan 21 rfl (fun h1 => ?_) (fun h1 => ?_))
  ·replace h1 := Zaa h1
   refine gR 37 rfl (ZaM (gR 2 rfl (Zab rfl rfl rfl fun w M => ?_)))
   exact vl_F hV hlt_i hx0.symm (by (unfold req1;simp [*];done)) M.ext
  replace h1 := Zac h1
  refine gR 1 rfl (Zai 0 rfl rfl (Zi2 ‹_›) ?_)
  refine gR 3 rfl (Zan 26 rfl (fun h2 => ?_) (fun h2 => ?_))
  ·replace h2 := dqU h2
   refine gR 32 rfl (ZaM (gR 2 rfl (Zab rfl rfl rfl fun w M => ?_)))
   exact vl_F hV hlt_i hx0.symm (by (unfold req1;simp [*] <;> omega)) M.ext
  replace h2 := dqV h2
  refine gR 1 rfl (Zai 0 rfl rfl (Zi2 ‹_›) ?_)
  refine gR 3 rfl (Zan 31 rfl (fun h3 => ?_) (fun h3 => ?_))
  ·replace h3 := dqU h3
   refine gR 27 rfl (ZaM (gR 2 rfl (Zab rfl rfl rfl fun w M => ?_)))
   exact vl_F hV hlt_i hx0.symm (by (unfold req1;simp [*] <;> omega)) M.ext
  replace h3 := dqV h3
  refine gR 1 rfl (Zai 0 rfl rfl (Zny ‹_›) ?_)
  refine Zad rfl rfl (fun w M => Zbd _ _) (gR 3 rfl (Zan 37 rfl (fun h4 => ?_) (fun h4 => ?_)))
  ·replace h4 := Zaa h4
   refine gR 21 rfl (ZaM (gR 2 rfl (Zab rfl rfl rfl fun w M => ?_)))
   exact vl_F hV hlt_i hx0.symm (by (unfold req1;simp [*];done)) M.ext
  replace h4 := Zac h4
  refine gR 1 rfl (Zai 0 rfl rfl (Zi1 ‹_›) ?_)
  refine gR 3 rfl (Zan 42 rfl (fun h5 => ?_) (fun h5 => ?_))
  ·replace h5 := dqU h5
   refine gR 16 rfl (ZaM (gR 2 rfl (Zab rfl rfl rfl fun w M => ?_)))
   exact vl_F hV hlt_i hx0.symm (by (unfold req1;simp [*] <;> omega)) M.ext
  replace h5 := dqV h5
  refine gR 1 rfl (Zai 0 rfl rfl (Zi1 ‹_›) ?_)
  refine gR 4 rfl (g_if rfl (fun h6 => ?_) (fun h6 => ?_))
  ·replace h6 := dqU h6
   refine gR 9 rfl (ZaM (gR 2 rfl (Zab rfl rfl rfl fun w M => ?_)))
   exact vl_F hV hlt_i hx0.symm (by (unfold req1;simp [*];done)) M.ext
  replace h6 := dqV h6
  refine gR 2 rfl ?_
  by_cases hi0 : 0 < i
  ·obtain ⟨y, hy0⟩ : ∃ y, y = l[i - 1]'(by omega) := ⟨_, rfl⟩
   have yI : IsRq y := by rw [hy0];exact hx _ (List.getElem_mem _)
   have f2 : seg cs (o + ((i : Int) - 1).toNat * 40) 40 = some (rqC y) := by rw [hy0];exact Za0 (ZeI hx) hs (show i - 1 < l.length by omega) (by omega)
   replace hy0 := hy0.symm
   have yd : IsDv y.to := yI
   refine gR 1 rfl (ZaG 14 62 rfl (by kernel_rfl) (fR 3 rfl (ZaX 49 rfl (dqT (by omega)) (fR 2 rfl (ZdR rfl rfl (Zax (by omega) (by omega)) (Zbb rfl rfl (by omega) (by omega) (fR 1 rfl (Zb1 rfl ‹_› (ZbP f2 (ZkC ‹_›) (by omega)) ?_))))))))
   refine fR 1 rfl (ZaN 0 rfl rfl (ZkC ‹_›) ?_)
   refine ZaH rfl rfl (fun w M => Zbt _ _ ‹_› ‹_› _) ?_
   refine fR 2 rfl (Zap rfl rfl (gR 2 rfl (g_if rfl (fun h1 => ?_) (fun h1 => ?_))))
   ·replace h1 := dqU h1
    exact gR 8 rfl (ZaM (gR 2 rfl (Zab rfl rfl rfl fun w M => vl_S hV hlt_i hi0 hx0.symm hy0.symm (by unfold Zjv;omega) M.ext)))
   ·replace h1 := dqV h1
    refine gR 4 rfl (ZaK rfl rfl (Zax (by omega) (by omega)) (gR 2 rfl ?_))
    exact Zar (i + 1) ⟨by omega, vl_N hlt_i hx0.symm hv (by (unfold req1;simp [*] <;> omega)) fun _ => by rw [hy0];exact (by unfold Zjv;omega)⟩ (by dsimp only;omega) (fun a F => F.only [10, 9, 8, 0] rfl) (sX 0 rfl)
  ·refine gR 1 rfl ?_
   refine ZaG 14 62 rfl (by kernel_rfl) (fR 3 rfl (ZaX 49 rfl (dqF (by omega)) (fR 11 rfl (Zap rfl rfl (gR 7 rfl (ZaK rfl rfl (Zax (by omega) (by omega)) (gR 2 rfl ?_)))))))
   exact Zar (i + 1) ⟨by omega, vl_N hlt_i hx0.symm hv (by (unfold req1;simp [*] <;> omega)) fun h => absurd h hi0⟩ (by dsimp only;omega) (fun a F => F.only [10, 9, 8, 0] rfl) (sX 0 rfl)
 ·have hil : i = l.length := by omega
  rw [hil] at hv
  exact gR 6 rfl (Zav rfl (dqF (by omega)) (gR 2 rfl (ZaZ (gR 8 rfl (Zab rfl rfl rfl fun w M => vl_T hV (by omega) hv M.ext)))))
theorem Zml (self : Int) (l : List OrgV) (hx : ∀ x ∈ l, IsOg x) (v : Value) (W : World) (hS : SlAt W 34 v l.length (ogsC l)) :
  Cal Tryz.prog 101 [.int .u64 self, v].toArray W fun r w' => r = .bool (Zec self l) ∧ Ext [] W w' := by
 obtain ⟨q, cap, rfl, _⟩ := id hS
 have hm := hS.memB [] (by simp)
 unfold Zec
 generalize hV : vldL 8 (org1 self) (Zjw self) l = b0
 refine Zao (n := 41) (S := []) Zal Zak Tryz.func101 rfl rfl rfl ?_
 by_cases c0 : 8 < l.length
 ·refine gR 13 rfl ?_
  exact ZaE rfl (dqT (by omega)) (gR 7 rfl (Zab rfl rfl rfl fun w M => vl_L hV c0 M.ext))
 refine gR 13 rfl (Zav rfl (dqF (by omega)) (gR 11 rfl (Za1 (ι := Nat) ⟨fun (i : Nat) => l.length - i, fun (i : Nat) => i ≤ l.length ∧ (∀ j, j < i → vld1 (org1 self) (Zjw self) l j = true), fun (i : Nat) => [(13, .int .i64 i), (12, .int .i64 l.length), (11, .slice q l.length cap), (1, .slice q l.length cap), (0, .int .u64 self)], fun (i : Nat) => []⟩ 0 ⟨by omega, by omega⟩ (fun a F => F.only [13, 12, 11, 1, 0] rfl) (sX 17179869183 rfl) ?_)))
 rintro i ⟨hi_i, hv⟩
 by_cases hlt_i : i < l.length
 ·obtain ⟨b, o, cs, t', fz, rfl, hb, hs⟩ := hm (by omega)
  obtain ⟨x, hx0⟩ : ∃ x, x = l[i] := ⟨_, rfl⟩
  have hxm : x ∈ l := by rw [hx0];exact List.getElem_mem hlt_i
  have hxi : IsOg x := hx _ hxm
  have f1 : seg cs (o + (i : Int).toNat * 34) 34 = some (ogC x) := by rw [hx0];exact Za0 (ZdK hx) hs hlt_i (by omega)
  replace hx0 := hx0.symm
  have xd : IsDv (orgD self x) := hxi
  by_cases hi0 : 0 < i
  ·obtain ⟨y, hy0⟩ : ∃ y, y = l[i - 1]'(by omega) := ⟨_, rfl⟩
   have yI : IsOg y := by rw [hy0];exact hx _ (List.getElem_mem _)
   have f2 : seg cs (o + ((i : Int) - 1).toNat * 34) 34 = some (ogC y) := by rw [hy0];exact Za0 (ZdK hx) hs (show i - 1 < l.length by omega) (by omega)
   replace hy0 := hy0.symm
   have yd : IsDv (orgD self y) := yI
   refine gR 6 rfl (ZaE rfl (dqT (by omega)) (gR 7 rfl (Zbk rfl rfl (by omega) (by omega) (ZbF rfl ‹_› (by with_reducible assumption) ?_))))
   refine Zat fun b6 => gR 1 rfl (Zas 0 rfl rfl (Zbl ‹_›) (ZcT _) rfl (Zag (by rw [Zbl ‹_›];first | rfl | rw [Zbl ‹_›])) rfl ?_)
   refine gR 5 rfl (Zah 0 rfl rfl (Zdr ‹_›) ?_)
   refine Zad rfl rfl (fun w M => Zhp _ _ ‹_› _) ?_
   refine Zat fun b7 => Zas 0 rfl rfl (Zaz ‹_›) (Zbq _) rfl (Zag (by rw [Zaz ‹_›];first | rfl | rw [Zaz ‹_›])) rfl ?_
   refine gR 3 rfl (ZaG 19 41 rfl (by kernel_rfl) (ZaN 0 rfl rfl (ZaO ‹_›) ?_))
   refine ZaH rfl rfl (fun w M => ZcI _ ‹_› _) ?_
   refine fR 2 rfl (ZbQ 24 rfl (fun h1 => ?_) (fun h1 => ?_))
   ·replace h1 := Zaa h1
    refine fR 15 rfl (Zap rfl rfl (gR 11 rfl (ZaM (gR 2 rfl (Zab rfl rfl rfl fun w M => ?_)))))
    exact vl_F hV hlt_i hx0.symm ‹_› M.ext
   ·replace h1 := Zac h1
    refine fR 3 rfl (ZaX 27 rfl (dqT (by omega)) (fR 3 rfl (ZdR rfl rfl (Zax (by omega) (by omega)) (Zbb rfl rfl (by omega) (by omega) (Zb1 rfl ‹_› (by with_reducible assumption) ?_)))))
    refine ZaH rfl rfl (fun w M => Zhp _ _ ‹_› _) ?_
    refine ZaN 0 rfl rfl (ZaO ‹_›) ?_
    refine ZaH rfl rfl (fun w M => ZcX _ _ ‹_› ‹_› _) ?_
    refine fR 3 rfl (Zap rfl rfl (gR 2 rfl (g_if rfl (fun h2 => ?_) (fun h2 => ?_))))
    ·replace h2 := dqU h2
     exact gR 8 rfl (ZaM (gR 2 rfl (Zab rfl rfl rfl fun w M => vl_S hV hlt_i hi0 hx0.symm hy0.symm (by unfold Zjw;omega) M.ext)))
    ·replace h2 := dqV h2
     refine gR 4 rfl (ZaK rfl rfl (Zax (by omega) (by omega)) (gR 2 rfl ?_))
     exact Zar (i + 1) ⟨by omega, vl_N hlt_i hx0.symm hv ‹_› fun _ => by rw [hy0];exact (by unfold Zjw;omega)⟩ (by dsimp only;omega) (fun a F => F.only [13, 12, 11, 1, 0] rfl) (sX 0 rfl)
  ·refine gR 6 rfl ?_
   refine ZaE rfl (dqT (by omega)) (gR 7 rfl (Zbk rfl rfl (by omega) (by omega) (ZbF rfl ‹_› (by with_reducible assumption) ?_)))
   refine Zat fun b6 => gR 1 rfl (Zas 0 rfl rfl (Zbl ‹_›) (ZcT _) rfl (Zag (by rw [Zbl ‹_›];first | rfl | rw [Zbl ‹_›])) rfl ?_)
   refine gR 5 rfl (Zah 0 rfl rfl (Zdr ‹_›) ?_)
   refine Zad rfl rfl (fun w M => Zhp _ _ ‹_› _) ?_
   refine Zat fun b7 => Zas 0 rfl rfl (Zaz ‹_›) (Zbq _) rfl (Zag (by rw [Zaz ‹_›];first | rfl | rw [Zaz ‹_›])) rfl ?_
   refine gR 3 rfl (ZaG 19 41 rfl (by kernel_rfl) (ZaN 0 rfl rfl (ZaO ‹_›) ?_))
   refine ZaH rfl rfl (fun w M => ZcI _ ‹_› _) ?_
   refine fR 2 rfl (ZbQ 24 rfl (fun h1 => ?_) (fun h1 => ?_))
   ·replace h1 := Zaa h1
    refine fR 15 rfl (Zap rfl rfl (gR 11 rfl (ZaM (gR 2 rfl (Zab rfl rfl rfl fun w M => ?_)))))
    exact vl_F hV hlt_i hx0.symm ‹_› M.ext
   ·replace h1 := Zac h1
    refine fR 3 rfl (ZaX 27 rfl (dqF (by omega)) (fR 12 rfl (Zap rfl rfl (gR 7 rfl (ZaK rfl rfl (Zax (by omega) (by omega)) (gR 2 rfl ?_))))))
    exact Zar (i + 1) ⟨by omega, vl_N hlt_i hx0.symm hv ‹_› fun h => absurd h hi0⟩ (by dsimp only;omega) (fun a F => F.only [13, 12, 11, 1, 0] rfl) (sX 0 rfl)
 ·have hil : i = l.length := by omega
  rw [hil] at hv
  exact gR 6 rfl (Zav rfl (dqF (by omega)) (gR 2 rfl (ZaZ (gR 8 rfl (Zab rfl rfl rfl fun w M => vl_T hV (by omega) hv M.ext)))))
theorem Zmm (self : Int) (l : List AdjV) (hx : ∀ x ∈ l, IsAj x) (hqB : ∀ x ∈ l, BdQu x.q) (v : Value) (W : World) (hS : SlAt W 8 v l.length (ajsC l)) :
  Cal Tryz.prog 102 [.int .u64 self, v].toArray W fun r w' => r = .bool (ZfB self l) ∧ Ext [] W w' := by
 obtain ⟨q, cap, rfl, _⟩ := id hS
 have hm := hS.memB [] (by simp)
 unfold ZfB
 generalize hV : vldL 16 (adj1 self) Zkn l = b0
 refine Zao (n := 64) (S := []) Zal Zak Tryz.func102 rfl rfl rfl ?_
 by_cases c0 : 16 < l.length
 ·refine gR 13 rfl ?_
  exact ZaE rfl (dqT (by omega)) (gR 7 rfl (Zab rfl rfl rfl fun w M => vl_L hV c0 M.ext))
 refine gR 13 rfl (Zav rfl (dqF (by omega)) (gR 11 rfl (Za1 (ι := Nat) ⟨fun (i : Nat) => l.length - i, fun (i : Nat) => i ≤ l.length ∧ (∀ j, j < i → vld1 (adj1 self) Zkn l j = true), fun (i : Nat) => [(12, .int .i64 i), (11, .int .i64 l.length), (10, .slice q l.length cap), (1, .slice q l.length cap), (0, .int .u64 self)], fun (i : Nat) => []⟩ 0 ⟨by omega, by omega⟩ (fun a F => F.only [12, 11, 10, 1, 0] rfl) (sX 17179869183 rfl) ?_)))
 rintro i ⟨hi_i, hv⟩
 by_cases hlt_i : i < l.length
 ·obtain ⟨b, o, cs, t', fz, rfl, hb, hs⟩ := hm (by omega)
  obtain ⟨x, hx0⟩ : ∃ x, x = l[i] := ⟨_, rfl⟩
  have hxm : x ∈ l := by rw [hx0];exact List.getElem_mem hlt_i
  have hxi : IsAj x := hx _ hxm
  have f1 : seg cs (o + (i : Int).toNat * 8) 8 = some (ajC x) := by rw [hx0];exact Za0 (Zjz hx) hs hlt_i (by omega)
  replace hx0 := hx0.symm
  have hbq := hqB _ hxm
  refine gR 6 rfl (ZaE rfl (dqT (by omega)) (gR 7 rfl (Zbk rfl rfl (by omega) (by omega) (ZbF rfl ‹_› (by with_reducible assumption) ?_))))
  refine Zat fun b6 => gR 1 rfl (Zas 0 rfl rfl (Zfn ‹_›) (ZiT _) rfl (Zag (by rw [Zfn ‹_›];first | rfl | rw [Zfn ‹_›])) rfl ?_)
  refine gR 6 rfl (Zai 0 rfl rfl (Zkp ‹_›) ?_)
  refine gR 2 rfl (Zan 20 rfl (fun h1 => ?_) (fun h1 => ?_))
  ·replace h1 := dqU h1
   refine gR 41 rfl (ZaM (gR 2 rfl (Zab rfl rfl rfl fun w M => ?_)))
   exact vl_F hV hlt_i hx0.symm (by (unfold adj1;simp [*];done)) M.ext
  replace h1 := dqV h1
  refine gR 1 rfl (Zai 0 rfl rfl (Zkp ‹_›) ?_)
  refine gR 4 rfl (Zan 26 rfl (fun h2 => ?_) (fun h2 => ?_))
  ·replace h2 := dqU h2
   refine gR 35 rfl (ZaM (gR 2 rfl (Zab rfl rfl rfl fun w M => ?_)))
   exact vl_F hV hlt_i hx0.symm (by (unfold adj1;simp [*];done)) M.ext
  replace h2 := dqV h2
  refine gR 1 rfl (Zah 0 rfl rfl (aj_q ‹_›) ?_)
  refine Zad rfl rfl (fun w M => ZpO _ ‹_› _) ?_
  refine gR 3 rfl (Zan 32 rfl (fun h3 => ?_) (fun h3 => ?_))
  ·replace h3 := Zaa h3
   refine gR 29 rfl (ZaM (gR 2 rfl (Zab rfl rfl rfl fun w M => ?_)))
   exact vl_F hV hlt_i hx0.symm (by (unfold adj1;simp [*];done)) M.ext
  replace h3 := Zac h3
  refine gR 2 rfl (Zai 0 rfl rfl (ZiS ‹_›) ?_)
  refine gR 3 rfl (Zan 38 rfl (fun h4 => ?_) (fun h4 => ?_))
  ·replace h4 := Zaa h4
   refine gR 23 rfl (ZaM (gR 2 rfl (Zab rfl rfl rfl fun w M => ?_)))
   exact vl_F hV hlt_i hx0.symm (by (unfold adj1;simp [*];done)) M.ext
  replace h4 := Zac h4
  refine gR 1 rfl (Zai 0 rfl rfl (ZrB ‹_›) ?_)
  refine Zad rfl rfl (fun w M => Zc8 _ _) (gR 3 rfl (Zan 44 rfl (fun h5 => ?_) (fun h5 => ?_)))
  ·replace h5 := Zaa h5
   refine gR 17 rfl (ZaM (gR 2 rfl (Zab rfl rfl rfl fun w M => ?_)))
   exact vl_F hV hlt_i hx0.symm (by (unfold adj1;simp [*];done)) M.ext
  replace h5 := Zac h5
  refine gR 1 rfl (Zai 0 rfl rfl (ZrC ‹_›) ?_)
  refine Zad rfl rfl (fun w M => Zc8 _ _) (gR 4 rfl (g_if rfl (fun h6 => ?_) (fun h6 => ?_)))
  ·replace h6 := Zaa h6
   refine gR 9 rfl (ZaM (gR 2 rfl (Zab rfl rfl rfl fun w M => ?_)))
   exact vl_F hV hlt_i hx0.symm (by (unfold adj1;simp [*];done)) M.ext
  replace h6 := Zac h6
  refine gR 2 rfl ?_
  by_cases hi0 : 0 < i
  ·obtain ⟨y, hy0⟩ : ∃ y, y = l[i - 1]'(by omega) := ⟨_, rfl⟩
   have yI : IsAj y := by rw [hy0];exact hx _ (List.getElem_mem _)
   have f2 : seg cs (o + ((i : Int) - 1).toNat * 8) 8 = some (ajC y) := by rw [hy0];exact Za0 (Zjz hx) hs (show i - 1 < l.length by omega) (by omega)
   replace hy0 := hy0.symm
   refine gR 1 rfl (ZaG 13 64 rfl (by kernel_rfl) (fR 3 rfl (ZaX 52 rfl (dqT (by omega)) (fR 2 rfl (ZdR rfl rfl (Zax (by omega) (by omega)) (Zbb rfl rfl (by omega) (by omega) (fR 1 rfl (Zrt rfl ‹_› (Zhe f2 (Zkp ‹_›) (by omega)) ?_))))))))
   refine fR 1 rfl (ZaW 0 rfl rfl (Zkp ‹_›) ?_)
   refine fR 2 rfl (Zap rfl rfl (gR 2 rfl (g_if rfl (fun h1 => ?_) (fun h1 => ?_))))
   ·replace h1 := dqU h1
    exact gR 8 rfl (ZaM (gR 2 rfl (Zab rfl rfl rfl fun w M => vl_S hV hlt_i hi0 hx0.symm hy0.symm (by unfold Zkn;omega) M.ext)))
   ·replace h1 := dqV h1
    refine gR 4 rfl (ZaK rfl rfl (Zax (by omega) (by omega)) (gR 2 rfl ?_))
    exact Zar (i + 1) ⟨by omega, vl_N hlt_i hx0.symm hv (by (unfold adj1;simp [*];done)) fun _ => by rw [hy0];exact (by unfold Zkn;omega)⟩ (by dsimp only;omega) (fun a F => F.only [12, 11, 10, 1, 0] rfl) (sX 0 rfl)
  ·refine gR 1 rfl ?_
   refine ZaG 13 64 rfl (by kernel_rfl) (fR 3 rfl (ZaX 52 rfl (dqF (by omega)) (fR 10 rfl (Zap rfl rfl (gR 7 rfl (ZaK rfl rfl (Zax (by omega) (by omega)) (gR 2 rfl ?_)))))))
   exact Zar (i + 1) ⟨by omega, vl_N hlt_i hx0.symm hv (by (unfold adj1;simp [*];done)) fun h => absurd h hi0⟩ (by dsimp only;omega) (fun a F => F.only [12, 11, 10, 1, 0] rfl) (sX 0 rfl)
 ·have hil : i = l.length := by omega
  rw [hil] at hv
  exact gR 6 rfl (Zav rfl (dqF (by omega)) (gR 2 rfl (ZaZ (gR 8 rfl (Zab rfl rfl rfl fun w M => vl_T hV (by omega) hv M.ext)))))
end Go.Proofs.YtfhkmgcalcfibaaGreat
namespace Go.Proofs.YtfhkmgcalcfibaaGreat
open Go.RowKit
def Zj5 (a b : Int) : Bool := let d := IntKind.u16.wrap (a - b);(decide (1 ≤ d) && decide (d < 32768)) || (decide (d = 32768) && decide (b < a))
def src1 (s : SrcV) : Bool := Zcs s.to && finD s.bst && Za5 s.til
def cmpS (a b : SrcV) : Int := cmpD a.to b.to
def ZdB (l : List SrcV) : Bool := vldL 256 src1 cmpS l
theorem Zha {l : List SrcV} : ZdB l = true ↔ l.length ≤ 256 ∧ (∀ a ∈ l, src1 a = true) ∧ AscC cmpS l := ZfA (fun _ _ _ h k => Zcr h k)
def ZuA (s : List SrcV) (now : Int) (t : DstV) : Option DisV := (s.find? fun x => decide (x.to = t) && decide (now < x.til)).map (·.bst)
def opt1 (o : OptV) : Bool := !decide (o.nb = 0) && Zdp o.cost
def cmpO (a b : OptV) : Int := cmpI a.nb b.nb
def Zkx (l : List OptV) : Bool := vldL 16 opt1 cmpO l
theorem ZmX {a b c : OptV} (h : cmpO a b < 0) (k : cmpO b c < 0) : cmpO a c < 0 := by
 unfold cmpO at *
 rw [Zo4] at *
 omega
theorem Zkw {l : List OptV} : Zkx l = true ↔ l.length ≤ 16 ∧ (∀ a ∈ l, opt1 a = true) ∧ AscC cmpO l := ZfA (fun _ _ _ h k => ZmX h k)
def ins1 (e : InsV) : Bool := Zcs e.to && (if e.nb = 0 then decide (e.own.met = inf) && decide (e.btn = -1) && Za5 e.til else finD e.own && (decide (e.btn = -1) || Za5 e.btn) && decide (e.til = 0))
def cmpN (a b : InsV) : Int := cmpD a.to b.to
def ZcJ (l : List InsV) : Bool := vldL 512 ins1 cmpN l
theorem ZcW {l : List InsV} : ZcJ l = true ↔ l.length ≤ 512 ∧ (∀ a ∈ l, ins1 a = true) ∧ AscC cmpN l := ZfA (fun _ _ _ h k => Zcr h k)
abbrev AscD (l : List DstV) : Prop := AscC cmpD l
def ZbL (a b : DstV) : Int := orI (cmpI a.dbits b.dbits) (cmpI a.sbits b.sbits)
def Zci (t : DstV) (src dst : List Int) : Bool := Zbu t.dip t.dbits dst && Zbu t.sip t.sbits src
def ZdY (src dst : List Int) (near : List InsV) (e : InsV) : List InsV :=
 if Zci e.to src dst then match near with
  | [] => [e]
  | y :: ys => if 0 < ZbL e.to y.to then [e] else if ZbL e.to y.to = 0 then y :: ys ++ [e] else y :: ys
 else near
def ZfQ (l : List InsV) (src dst : List Int) : List InsV := l.foldl (ZdY src dst) []
def ZgP (near : List InsV) (y : InsV) : InsV := near.foldl (fun c e => if e.own.met < c.own.met then e else c) y
def ZmH : List Int := [0, 0, 0, 0, 0, 0, 0, 0, 0, 0, 0, 0, 0, 0, 0, 0]
theorem ZgX : IsIP ZmH := ⟨rfl, by intro x hx;simp [ZmH] at hx;omega⟩
def in0 : InsV := ⟨⟨ZmH, 0, ZmH, 0, 0⟩, 0, di0, 0, 0⟩
def Zkb (near : List InsV) (mark : DstV) (marked : Bool) : InsV × Int := match near with
 | [] => (in0, 9)
 | y :: ys => if marked && decide (ZbL y.to mark < 0) then (in0, 9) else
  let c := if marked && (decide (y.to.dip = mark.dip) && decide (y.to.dbits = mark.dbits)) && (decide (y.to.sip = mark.sip) && decide (y.to.sbits = mark.sbits)) then (y :: ys).find? fun e => decide (e.to = mark) else some (ZgP (y :: ys) y)
  match c with
  | none => (in0, 9)
  | some c => if c.nb = 0 then (in0, 15) else (c, 0)
def Zdx (l : List InsV) (src dst : List Int) (mark : DstV) (marked : Bool) : InsV × Int :=
 if !ZcJ l || (marked && !Zcs mark) then (in0, 1) else Zkb (ZfQ l src dst) mark marked
end Go.Proofs.YtfhkmgcalcfibaaGreat
namespace Go.Proofs.YtfhkmgcalcfibaaGreat
open Go.RowKit
attribute [local irreducible] OpTo wpListIn Code.wpIn MW Cal
theorem Zi0 (t : Int) (W : World) : Cal Tryz.prog 191 [.int .i64 t].toArray W fun v w' => v = .bool (Za5 t) ∧ Ext [] W w' := by
 unfold Za5
 by_cases h : 0 ≤ t
 ·rw [dqT h, Bool.true_and]
  exact Zao (n := 9) (S := []) Zal Zak Tryz.func191 rfl rfl rfl (gR 10 rfl (ZaQ 5 rfl (dqT (by omega)) (gR 7 rfl (Zab rfl rfl rfl fun w M => ⟨rfl, M.ext⟩))))
 ·rw [dqF h, Bool.false_and]
  exact Zao (n := 9) (S := []) Zal Zak Tryz.func191 rfl rfl rfl (gR 10 rfl (ZaQ 5 rfl (dqF (by omega)) (gR 7 rfl (Zab rfl rfl rfl fun w M => ⟨rfl, M.ext⟩))))
theorem ZpF (t : Int) (W : World) : Cal Tryz.prog 189 [.int .i64 t].toArray W fun v w' => v = .bool (Za5 t) ∧ Ext [] W w' := by
 unfold Za5
 by_cases h : 0 ≤ t
 ·rw [dqT h, Bool.true_and]
  exact Zao (n := 9) (S := []) Zal Zak Tryz.func189 rfl rfl rfl (gR 10 rfl (ZaQ 5 rfl (dqT (by omega)) (gR 7 rfl (Zab rfl rfl rfl fun w M => ⟨rfl, M.ext⟩))))
 ·rw [dqF h, Bool.false_and]
  exact Zao (n := 9) (S := []) Zal Zak Tryz.func189 rfl rfl rfl (gR 10 rfl (ZaQ 5 rfl (dqF (by omega)) (gR 7 rfl (Zab rfl rfl rfl fun w M => ⟨rfl, M.ext⟩))))
theorem ZfD (d : DisV) (W : World) : Cal Tryz.prog 188 [.agg (diC d).toArray].toArray W fun v w' => v = .bool (Zdp d.met) ∧ Ext [] W w' := by
 have e1 := Zez (o := d) trivial
 exact Zao (n := 6) (S := []) Zal Zak Tryz.func188 rfl rfl rfl (gR 2 rfl (ZaA rfl rfl fun b1 => gR 6 rfl (Zai 0 rfl rfl (Zez trivial) (Zad rfl rfl (fun w M => ZlR _ _) (gR 4 rfl (Zab rfl rfl rfl fun w M => ⟨rfl, M.ext⟩))))))
theorem Znw (d : DisV) (W : World) : Cal Tryz.prog 190 [.agg (diC d).toArray].toArray W fun v w' => v = .bool (finD d) ∧ Ext [] W w' := by
 have e1 := Zez (o := d) trivial
 have e2 := Zcl (o := d) trivial
 unfold finD inf
 refine Zao (n := 10) (S := []) Zal Zak Tryz.func190 rfl rfl rfl ?_
 cases h1 : Zdp d.met
 ·refine gR 2 rfl ?_
  refine ZaA rfl rfl fun b1 => gR 5 rfl (Zah 0 rfl rfl (Zcl trivial) (Zad rfl rfl (fun w M => ZfD _ _) (gR 1 rfl (ZaQ 5 rfl ‹_› ?_))))
  exact gR 8 rfl (Zab rfl rfl rfl fun w M => ⟨rfl, M.ext⟩)
 ·by_cases h2 : d.met = 65535
  ·rw [dqT h2]
   refine gR 2 rfl (ZaA rfl rfl fun b1 => gR 5 rfl (Zah 0 rfl rfl (Zcl trivial) (Zad rfl rfl (fun w M => ZfD _ _) (gR 1 rfl (ZaQ 5 rfl ‹_› ?_)))))
   exact gR 1 rfl (Zai 0 rfl rfl (Zez trivial) (gR 6 rfl (Zab rfl rfl rfl fun w M => ⟨by simp [*], M.ext⟩)))
  ·rw [dqF h2]
   refine gR 2 rfl (ZaA rfl rfl fun b1 => gR 5 rfl (Zah 0 rfl rfl (Zcl trivial) (Zad rfl rfl (fun w M => ZfD _ _) (gR 1 rfl (ZaQ 5 rfl ‹_› ?_)))))
   exact gR 1 rfl (Zai 0 rfl rfl (Zez trivial) (gR 6 rfl (Zab rfl rfl rfl fun w M => ⟨by simp [*], M.ext⟩)))
theorem ZpK (x y : RouV) (ha : IsRo x) (hb : IsRo y) (W : World) : Cal Tryz.prog 192 [.agg (roC x).toArray, .agg (roC y).toArray].toArray W fun v w' => v = .int .i64 (cmpR x y) ∧ Ext [] W w' := by
 have a1 := ZeL ha
 have a2 := ZdV ha
 have c1 := ZeL hb
 have c2 := ZdV hb
 have hr : cmpR x y = orV [cmpD x.to y.to, cmpV x.nb y.nb] := by
  rw [Zo2 ha.1 hb.1]
  simp only [orV, orI]
  repeat' split
  all_goals first | rfl | (rename_i h;exact h) | (rename_i h;exact h.symm) | simp_all [cmpI, cmpV]
 rw [hr]
 refine Zao (n := 17) (S := []) Zal Zak Tryz.func192 rfl rfl rfl (gR 2 rfl (ZaA rfl rfl fun b2 => ZaA rfl rfl fun b3 => gR 4 rfl (ZaG 11 17 rfl (by kernel_rfl) (fR 1 rfl (ZaN 1 rfl rfl (ZeL ‹_›) ?_)))))
 refine fR 1 rfl (ZaN 0 rfl rfl (ZeL ‹_›) ?_)
 refine ZaH rfl rfl (fun w M => ZcX _ _ (And.left ‹_›) (And.left ‹_›) _) ?_
 refine fR 1 rfl (ZaW 1 rfl rfl (ZdV ‹_›) ?_)
 refine fR 1 rfl (ZaW 0 rfl rfl (ZdV ‹_›) ?_)
 refine ZaH rfl rfl (fun w M => ZqW _ _ _) (ZmT rfl rfl rfl rfl (fun b15 => ?_))
 exact Zad rfl rfl (fun w M => or_c (b := _) [cmpD x.to y.to, cmpV x.nb y.nb] 2 rfl (by omega) _ (M.at_ _ (Zae (i := 0) rfl))) (gR 4 rfl (Zab rfl rfl rfl fun w M => ⟨rfl, M.ext⟩))
theorem Ze7 (x y : DstV) (ha : IsDv x) (hb : IsDv y) (W : World) : Cal Tryz.prog 221 [.agg (dvC x).toArray, .agg (dvC y).toArray].toArray W fun v w' => v = .int .i64 (ZbL x y) ∧ Ext [] W w' := by
 have a1 := Zbf ha
 have a2 := Zbr ha
 have c1 := Zbf hb
 have c2 := Zbr hb
 have hr : ZbL x y = orV [cmpV x.dbits y.dbits, cmpV x.sbits y.sbits] := by
  simp only [ZbL, orV, orI]
  repeat' split
  all_goals first | rfl | (rename_i h;exact h) | (rename_i h;exact h.symm) | simp_all [cmpI, cmpV]
 rw [hr]
 refine Zao (n := 21) (S := []) Zal Zak Tryz.func221 rfl rfl rfl (gR 2 rfl (ZaA rfl rfl fun b2 => ZaA rfl rfl fun b3 => gR 4 rfl (ZaG 15 21 rfl (by kernel_rfl) (fR 2 rfl (ZaW 1 rfl rfl (Zbf ‹_›) ?_)))))
 refine fR 2 rfl (ZaW 0 rfl rfl (Zbf ‹_›) ?_)
 refine ZaH rfl rfl (fun w M => Zg3 _ _ _) (fR 2 rfl (ZaW 1 rfl rfl (Zbr ‹_›) ?_))
 refine fR 2 rfl (ZaW 0 rfl rfl (Zbr ‹_›) ?_)
 refine ZaH rfl rfl (fun w M => Zg3 _ _ _) (ZmT rfl rfl rfl rfl (fun b19 => ?_))
 exact Zad rfl rfl (fun w M => or_c (b := _) [cmpV x.dbits y.dbits, cmpV x.sbits y.sbits] 2 rfl (by omega) _ (M.at_ _ (Zae (i := 0) rfl))) (gR 4 rfl (Zab rfl rfl rfl fun w M => ⟨rfl, M.ext⟩))
theorem Zhh (e : InsV) (he : IsIn e) (W : World) : Cal Tryz.prog 223 [.agg (inC e).toArray].toArray W fun v w' => v = .bool (!decide (e.nb = 0)) ∧ Ext [] W w' := by
 have e1 := ZgO he
 refine Zao (n := 6) (S := []) Zal Zak Tryz.func223 rfl rfl rfl ?_
 by_cases h : e.nb = 0
 ·rw [dqT h]
  refine gR 2 rfl (ZaA rfl rfl fun b1 => gR 6 rfl (Zai 0 rfl rfl (ZgO ‹_›) ?_))
  exact gR 5 rfl (Zab rfl rfl rfl fun w M => ⟨by simp [*], M.ext⟩)
 ·rw [dqF h]
  refine gR 2 rfl (ZaA rfl rfl fun b1 => gR 6 rfl (Zai 0 rfl rfl (ZgO ‹_›) ?_))
  exact gR 5 rfl (Zab rfl rfl rfl fun w M => ⟨by simp [*], M.ext⟩)
theorem Zio (e : InsV) (he : IsIn e) (W : World) : Cal Tryz.prog 56 [.agg (inC e).toArray].toArray W fun v w' => v = .bool (!decide (e.nb = 0)) ∧ Ext [] W w' := by
 have e1 := ZgO he
 refine Zao (n := 6) (S := []) Zal Zak Tryz.func56 rfl rfl rfl ?_
 by_cases h : e.nb = 0
 ·rw [dqT h]
  refine gR 2 rfl (ZaA rfl rfl fun b1 => gR 6 rfl (Zai 0 rfl rfl (ZgO ‹_›) ?_))
  exact gR 5 rfl (Zab rfl rfl rfl fun w M => ⟨by simp [*], M.ext⟩)
 ·rw [dqF h]
  refine gR 2 rfl (ZaA rfl rfl fun b1 => gR 6 rfl (Zai 0 rfl rfl (ZgO ‹_›) ?_))
  exact gR 5 rfl (Zab rfl rfl rfl fun w M => ⟨by simp [*], M.ext⟩)
theorem ZdH (x y : DstV) (ha : IsDv x) (hb : IsDv y) (W : World) : Cal Tryz.prog 133 [.agg (dvC x).toArray, .agg (dvC y).toArray].toArray W fun v w' => v = .int .i64 (ZbL x y) ∧ Ext [] W w' := by
 have a1 := Zbf ha
 have a2 := Zbr ha
 have c1 := Zbf hb
 have c2 := Zbr hb
 unfold ZbL orI cmpI
 refine Zao (n := 33) (S := []) Zal Zak Tryz.func133 rfl rfl rfl ?_
 by_cases h0 : x.dbits = y.dbits
 ·rw [if_neg (by omega : ¬ x.dbits < y.dbits), if_neg (by omega : ¬ y.dbits < x.dbits), if_pos rfl]
  by_cases h1 : y.sbits < x.sbits
  ·rw [if_neg (by omega : ¬ x.sbits < y.sbits), if_pos h1]
   refine gR 2 rfl (ZaA rfl rfl fun b2 => ZaA rfl rfl fun b3 => gR 8 rfl (Zai 1 rfl rfl (Zbf ‹_›) ?_))
   refine gR 2 rfl (Zai 0 rfl rfl (Zbf ‹_›) ?_)
   refine gR 3 rfl (Zav rfl (bneF (by omega)) (gR 7 rfl (Zai 1 rfl rfl (Zbr ‹_›) ?_)))
   refine gR 2 rfl (Zai 0 rfl rfl (Zbr ‹_›) ?_)
   exact gR 3 rfl (ZaE rfl (dqT (by omega)) (gR 7 rfl (Zab rfl rfl rfl fun w M => ⟨rfl, M.ext⟩)))
  ·by_cases h2 : x.sbits < y.sbits
   ·rw [if_pos h2]
    refine gR 2 rfl (ZaA rfl rfl fun b2 => ZaA rfl rfl fun b3 => gR 8 rfl (Zai 1 rfl rfl (Zbf ‹_›) ?_))
    refine gR 2 rfl (Zai 0 rfl rfl (Zbf ‹_›) ?_)
    refine gR 3 rfl (Zav rfl (bneF (by omega)) (gR 7 rfl (Zai 1 rfl rfl (Zbr ‹_›) ?_)))
    refine gR 2 rfl (Zai 0 rfl rfl (Zbr ‹_›) ?_)
    refine gR 3 rfl (Zav rfl (dqF (by omega)) (gR 7 rfl (Zai 1 rfl rfl (Zbr ‹_›) ?_)))
    refine gR 2 rfl (Zai 0 rfl rfl (Zbr ‹_›) ?_)
    exact gR 3 rfl (ZaE rfl (dqT (by omega)) (gR 7 rfl (Zab rfl rfl rfl fun w M => ⟨rfl, M.ext⟩)))
   ·rw [if_neg h1, if_neg h2]
    refine gR 2 rfl (ZaA rfl rfl fun b2 => ZaA rfl rfl fun b3 => gR 8 rfl (Zai 1 rfl rfl (Zbf ‹_›) ?_))
    refine gR 2 rfl (Zai 0 rfl rfl (Zbf ‹_›) ?_)
    refine gR 3 rfl (Zav rfl (bneF (by omega)) (gR 7 rfl (Zai 1 rfl rfl (Zbr ‹_›) ?_)))
    refine gR 2 rfl (Zai 0 rfl rfl (Zbr ‹_›) ?_)
    refine gR 3 rfl (Zav rfl (dqF (by omega)) (gR 7 rfl (Zai 1 rfl rfl (Zbr ‹_›) ?_)))
    refine gR 2 rfl (Zai 0 rfl rfl (Zbr ‹_›) ?_)
    exact gR 3 rfl (Zav rfl (dqF (by omega)) (gR 8 rfl (Zab rfl rfl rfl fun w M => ⟨rfl, M.ext⟩)))
 ·by_cases h1 : y.dbits < x.dbits
  ·rw [if_neg (by omega : ¬ x.dbits < y.dbits), if_pos h1, if_neg (by omega)]
   refine gR 2 rfl (ZaA rfl rfl fun b2 => ZaA rfl rfl fun b3 => gR 8 rfl (Zai 1 rfl rfl (Zbf ‹_›) ?_))
   refine gR 2 rfl (Zai 0 rfl rfl (Zbf ‹_›) ?_)
   refine gR 3 rfl (ZaE rfl (bne_iff_ne.2 (by omega)) (gR 5 rfl (Zai 1 rfl rfl (Zbf ‹_›) ?_)))
   refine gR 2 rfl (Zai 0 rfl rfl (Zbf ‹_›) ?_)
   exact gR 3 rfl (ZaE rfl (dqT (by omega)) (gR 8 rfl (Zab rfl rfl rfl fun w M => ⟨rfl, M.ext⟩)))
  ·rw [if_pos (by omega : x.dbits < y.dbits), if_neg (by omega)]
   refine gR 2 rfl (ZaA rfl rfl fun b2 => ZaA rfl rfl fun b3 => gR 8 rfl (Zai 1 rfl rfl (Zbf ‹_›) ?_))
   refine gR 2 rfl (Zai 0 rfl rfl (Zbf ‹_›) ?_)
   refine gR 3 rfl (ZaE rfl (bne_iff_ne.2 (by omega)) (gR 5 rfl (Zai 1 rfl rfl (Zbf ‹_›) ?_)))
   refine gR 2 rfl (Zai 0 rfl rfl (Zbf ‹_›) ?_)
   exact gR 3 rfl (Zav rfl (dqF (by omega)) (gR 9 rfl (Zab rfl rfl rfl fun w M => ⟨rfl, M.ext⟩)))
theorem Zhs (t : DstV) (ht : IsDv t) (src dst : List Int) (hs : IsIP src) (hd : IsIP dst) (W : World) : Cal Tryz.prog 132 [.agg (dvC t).toArray, .agg (ipC src).toArray, .agg (ipC dst).toArray].toArray W fun v w' => v = .bool (Zci t src dst) ∧ Ext [] W w' := by
 have i1 : IsIP t.dip := ht.1
 have i2 : IsIP t.sip := ht.2
 have a3 : seg (ipC src) 0 16 = some (ipC src) := Zbw (ZaU hs.len)
 have a4 : seg (ipC dst) 0 16 = some (ipC dst) := Zbw (ZaU hd.len)
 unfold Zci
 refine Zao (n := 17) (S := []) Zal Zak Tryz.func132 rfl rfl rfl ?_
 cases h1 : Zbu t.dip t.dbits dst
 ·refine gR 2 rfl ?_
  refine ZaA rfl rfl fun b3 => ZaA rfl rfl fun b4 => ZaA rfl rfl fun b5 => gR 6 rfl (Zah 2 rfl rfl (Zb9 ‹_›) ?_)
  refine Zah 0 rfl rfl (by with_reducible assumption) ?_
  refine Zad rfl rfl (fun w M => ZdI _ _ ‹_› _ ‹_› _) ?_
  refine gR 1 rfl (ZaQ 11 rfl ‹_› ?_)
  exact gR 9 rfl (Zab rfl rfl rfl fun w M => ⟨rfl, M.ext⟩)
 ·cases h2 : Zbu t.sip t.sbits src
  ·refine gR 2 rfl ?_
   refine ZaA rfl rfl fun b3 => ZaA rfl rfl fun b4 => ZaA rfl rfl fun b5 => gR 6 rfl (Zah 2 rfl rfl (Zb9 ‹_›) ?_)
   refine Zah 0 rfl rfl (by with_reducible assumption) ?_
   refine Zad rfl rfl (fun w M => ZdI _ _ ‹_› _ ‹_› _) ?_
   refine gR 1 rfl (ZaQ 11 rfl ‹_› ?_)
   refine gR 1 rfl (Zah 2 rfl rfl (ZcP ‹_›) ?_)
   refine Zah 1 rfl rfl (by with_reducible assumption) ?_
   refine Zad rfl rfl (fun w M => ZdI _ _ ‹_› _ ‹_› _) ?_
   exact gR 5 rfl (Zab rfl rfl rfl fun w M => ⟨by simp [*], M.ext⟩)
  ·refine gR 2 rfl ?_
   refine ZaA rfl rfl fun b3 => ZaA rfl rfl fun b4 => ZaA rfl rfl fun b5 => gR 6 rfl (Zah 2 rfl rfl (Zb9 ‹_›) ?_)
   refine Zah 0 rfl rfl (by with_reducible assumption) ?_
   refine Zad rfl rfl (fun w M => ZdI _ _ ‹_› _ ‹_› _) ?_
   refine gR 1 rfl (ZaQ 11 rfl ‹_› ?_)
   refine gR 1 rfl (Zah 2 rfl rfl (ZcP ‹_›) ?_)
   refine Zah 1 rfl rfl (by with_reducible assumption) ?_
   refine Zad rfl rfl (fun w M => ZdI _ _ ‹_› _ ‹_› _) ?_
   exact gR 5 rfl (Zab rfl rfl rfl fun w M => ⟨by simp [*], M.ext⟩)
theorem Zof (e : InsV) (he : IsIn e) (t : DstV) (ht : IsDv t) {bt : Nat} {ft : Nat × Nat} (W : World) (hb : W.heap[bt]? = some (.cells (dvC t).toArray 67 ft)) : Cal Tryz.prog 222 [.agg (inC e).toArray, .pointer (some ⟨bt, 0, none⟩)].toArray W fun v w' => v = .bool (decide (e.to = t)) ∧ Ext [] W w' := by
 have e1 := Zcy he
 have e2 := ZaO ht
 have e3 := Zep he.1
 have e5 := Zep ht
 have e4 := ZoS he.1 ht
 refine ZbU (n := 8) [] Tryz.func222 rfl rfl rfl ?_
 intro a w F M hwW
 refine ZaB (Zaf ?_)
 (refine sD F (Zft M (F.e rfl) rfl ?_);clear F M;intro b2 w M a F)
 refine sD F (Zau (F.e rfl) ?_);clear F a;intro a F
 with_reducible refine ZaF (Zam (ZaB (Zaf ?_)))
 refine sD F (Zay (F.e rfl) fun a F => sD F (Zc0 M (F.e rfl) (by repeat constructor) ‹_› ?_));iterate 2 clear F a
 intro a F
 refine sD F (ZlL M (F.e rfl) ‹_› ‹_› ?_);clear F a;intro a F
 refine sD F (Zj3 (F.e rfl) (F.e rfl) ‹_› ‹_› ?_);clear F a;intro a F
 refine sD F (Zau (F.e rfl) ?_);clear F a;intro a F
 with_reducible refine ZaF (Zam (Zb6 ?_))
 rw [e4] at F
 exact Zb3 F rfl (.cons (.tmp (F.e rfl)) .nil) (⟨rfl, M.ext⟩)
theorem Zlw (e : InsV) (he : IsIn e) (W : World) : Cal Tryz.prog 193 [.agg (inC e).toArray].toArray W fun v w' => v = .bool (ins1 e) ∧ Ext [] W w' := by
 have hd : IsDv e.to := he.1
 refine Zao (n := 41) (S := []) Zal Zak Tryz.func193 rfl rfl rfl ?_
 unfold ins1
 refine gR 2 rfl (ZaA rfl rfl fun b1 => gR 7 rfl (Zah 0 rfl rfl (Zcy ‹_›) ?_))
 refine Zad rfl rfl (fun w M => ZcI _ ‹_› _) ?_
 refine gR 3 rfl (g_if rfl (fun h1 => ?_) (fun h1 => ?_))
 ·replace h1 := Zaa h1
  refine gR 7 rfl (Zab rfl rfl rfl fun w M => ?_)
  exact ⟨by simp [*];done, M.ext⟩
 ·replace h1 := Zac h1
  refine gR 5 rfl (Zah 0 rfl rfl (Zbi ‹_›) ?_)
  refine Zad rfl rfl (fun w M => Zhh _ ‹_› _) ?_
  refine gR 2 rfl (g_if rfl (fun h2 => ?_) (fun h2 => ?_))
  ·replace h2 := ZbE h2
   refine gR 3 rfl (Zah 0 rfl rfl (ZiG ‹_›) ?_)
   refine Zad rfl rfl (fun w M => Znw _ _) (gR 1 rfl (Zan 12 rfl (fun h3 => ?_) (fun h3 => ?_)))
   ·refine gR 1 rfl (Zai 0 rfl rfl (ZiH ‹_›) ?_)
    refine gR 2 rfl (Zan 16 rfl (fun h4 => ?_) (fun h4 => ?_))
    ·replace h4 := dqU h4
     refine gR 7 rfl (Zai 0 rfl rfl (ZiF ‹_›) ?_)
     refine gR 7 rfl (Zab rfl rfl rfl fun w M => ?_)
     exact ⟨by congr 1;rw [Bool.eq_iff_iff];simp [*], M.ext⟩
    ·replace h4 := dqV h4
     refine gR 1 rfl (Zai 0 rfl rfl (ZiH ‹_›) ?_)
     refine Zad rfl rfl (fun w M => Zi0 _ _) (gR 3 rfl (Zan 22 rfl (fun h5 => ?_) (fun h5 => ?_)))
     ·refine gR 1 rfl (Zai 0 rfl rfl (ZiF ‹_›) ?_)
      refine gR 7 rfl (Zab rfl rfl rfl fun w M => ?_)
      exact ⟨by congr 1;rw [Bool.eq_iff_iff];simp [*], M.ext⟩
     ·refine gR 9 rfl (Zab rfl rfl rfl fun w M => ?_)
      exact ⟨by simp [*];done, M.ext⟩
   ·refine gR 19 rfl (Zab rfl rfl rfl fun w M => ?_)
    exact ⟨by simp [*];done, M.ext⟩
  ·replace h2 := ZaV h2
   refine gR 6 rfl (Zai 0 rfl rfl (ZbC ‹_›) ?_)
   refine gR 2 rfl (Zan 31 rfl (fun h3 => ?_) (fun h3 => ?_))
   ·replace h3 := dqU h3
    refine gR 1 rfl (Zai 0 rfl rfl (ZiH ‹_›) ?_)
    refine gR 3 rfl (Zan 36 rfl (fun h4 => ?_) (fun h4 => ?_))
    ·replace h4 := dqU h4
     refine gR 1 rfl (Zai 0 rfl rfl (ZiF ‹_›) ?_)
     refine Zad rfl rfl (fun w M => Zi0 _ _) (gR 5 rfl (Zab rfl rfl rfl fun w M => ?_))
     exact ⟨by unfold inf;simp [*];done, M.ext⟩
    ·replace h4 := dqV h4
     refine gR 8 rfl (Zab rfl rfl rfl fun w M => ?_)
     exact ⟨by simp [*];done, M.ext⟩
   ·replace h3 := dqV h3
    refine gR 13 rfl (Zab rfl rfl rfl fun w M => ?_)
    exact ⟨by unfold inf;simp [*];done, M.ext⟩
theorem Znv (l : List RouV) (hx : ∀ x ∈ l, IsRo x) (v : Value) (W : World) (hS : SlAt W 39 v l.length (rosC l)) :
  Cal Tryz.prog 104 [v].toArray W fun r w' => r = .bool (Zdh l) ∧ Ext [] W w' := by
 obtain ⟨q, cap, rfl, _⟩ := id hS
 have hm := hS.memB [] (by simp)
 unfold Zdh
 generalize hV : vldL 512 rou1 cmpR l = b0
 refine Zao (n := 49) (S := []) Zal Zak Tryz.func104 rfl rfl rfl ?_
 by_cases c0 : 512 < l.length
 ·refine gR 13 rfl ?_
  exact ZaE rfl (dqT (by omega)) (gR 7 rfl (Zab rfl rfl rfl fun w M => vl_L hV c0 M.ext))
 refine gR 13 rfl (Zav rfl (dqF (by omega)) (gR 11 rfl (Za1 (ι := Nat) ⟨fun (i : Nat) => l.length - i, fun (i : Nat) => i ≤ l.length ∧ (∀ j, j < i → vld1 rou1 cmpR l j = true), fun (i : Nat) => [(10, .int .i64 i), (9, .int .i64 l.length), (8, .slice q l.length cap), (0, .slice q l.length cap)], fun (i : Nat) => []⟩ 0 ⟨by omega, by omega⟩ (fun a F => F.only [10, 9, 8, 0] rfl) (sX 17179869183 rfl) ?_)))
 rintro i ⟨hi_i, hv⟩
 by_cases hlt_i : i < l.length
 ·obtain ⟨b, o, cs, t', fz, rfl, hb, hs⟩ := hm (by omega)
  obtain ⟨x, hx0⟩ : ∃ x, x = l[i] := ⟨_, rfl⟩
  have hxm : x ∈ l := by rw [hx0];exact List.getElem_mem hlt_i
  have hxi : IsRo x := hx _ hxm
  have f1 : seg cs (o + (i : Int).toNat * 39) 39 = some (roC x) := by rw [hx0];exact Za0 (Zeg hx) hs hlt_i (by omega)
  replace hx0 := hx0.symm
  have xd : IsDv x.to := hxi.1
  refine gR 6 rfl (ZaE rfl (dqT (by omega)) (gR 7 rfl (Zbk rfl rfl (by omega) (by omega) (ZbF rfl ‹_› (by with_reducible assumption) ?_))))
  refine Zat fun b4 => gR 1 rfl (Zas 0 rfl rfl (Zbz ‹_›) (Zdq _) rfl (Zag (by rw [Zbz ‹_›];first | rfl | rw [Zbz ‹_›])) rfl ?_)
  refine gR 6 rfl (Zah 0 rfl rfl (ZeL ‹_›) ?_)
  refine Zad rfl rfl (fun w M => ZcI _ ‹_› _) ?_
  refine gR 2 rfl (Zan 19 rfl (fun h1 => ?_) (fun h1 => ?_))
  ·replace h1 := Zaa h1
   exact gR 28 rfl (ZaM (gR 2 rfl (Zab rfl rfl rfl fun w M => vl_F hV hlt_i hx0.symm (by (unfold rou1;simp [*];done)) M.ext)))
  replace h1 := Zac h1
  refine gR 1 rfl (Zai 0 rfl rfl (ZdV ‹_›) ?_)
  refine gR 3 rfl (Zan 24 rfl (fun h2 => ?_) (fun h2 => ?_))
  ·replace h2 := dqU h2
   exact gR 23 rfl (ZaM (gR 2 rfl (Zab rfl rfl rfl fun w M => vl_F hV hlt_i hx0.symm (by (unfold rou1;simp [*];done)) M.ext)))
  replace h2 := dqV h2
  refine gR 1 rfl (Zah 0 rfl rfl (ro_said ‹_›) ?_)
  refine Zad rfl rfl (fun w M => Znw _ _) (gR 3 rfl (Zan 30 rfl (fun h3 => ?_) (fun h3 => ?_)))
  ·replace h3 := Zaa h3
   exact gR 17 rfl (ZaM (gR 2 rfl (Zab rfl rfl rfl fun w M => vl_F hV hlt_i hx0.symm (by (unfold rou1;simp [*];done)) M.ext)))
  replace h3 := Zac h3
  refine gR 1 rfl (Zai 0 rfl rfl (Zrb ‹_›) ?_)
  refine Zad rfl rfl (fun w M => Zi0 _ _) (gR 4 rfl (g_if rfl (fun h4 => ?_) (fun h4 => ?_)))
  ·replace h4 := Zaa h4
   exact gR 9 rfl (ZaM (gR 2 rfl (Zab rfl rfl rfl fun w M => vl_F hV hlt_i hx0.symm (by (unfold rou1;simp [*];done)) M.ext)))
  replace h4 := Zac h4
  refine gR 2 rfl ?_
  by_cases hi0 : 0 < i
  ·obtain ⟨y, hy0⟩ : ∃ y, y = l[i - 1]'(by omega) := ⟨_, rfl⟩
   have yI : IsRo y := by rw [hy0];exact hx _ (List.getElem_mem _)
   have f2 : seg cs (o + ((i : Int) - 1).toNat * 39) 39 = some (roC y) := by rw [hy0];exact Za0 (Zeg hx) hs (show i - 1 < l.length by omega) (by omega)
   replace hy0 := hy0.symm
   have yd : IsDv y.to := yI.1
   refine gR 1 rfl (ZaG 12 49 rfl (by kernel_rfl) (fR 3 rfl (ZaX 38 rfl (dqT (by omega)) (fR 2 rfl (ZdR rfl rfl (Zax (by omega) (by omega)) (Zbb rfl rfl (by omega) (by omega) (Zb1 rfl ‹_› (by with_reducible assumption) ?_)))))))
   refine ZaN 0 rfl rfl (ZfJ ‹_›) ?_
   refine ZaH rfl rfl (fun w M => ZpK _ _ ‹_› ‹_› _) ?_
   refine fR 2 rfl (Zap rfl rfl (gR 2 rfl (g_if rfl (fun h1 => ?_) (fun h1 => ?_))))
   ·replace h1 := dqU h1
    exact gR 8 rfl (ZaM (gR 2 rfl (Zab rfl rfl rfl fun w M => vl_S hV hlt_i hi0 hx0.symm hy0.symm (by omega) M.ext)))
   ·replace h1 := dqV h1
    refine gR 4 rfl (ZaK rfl rfl (Zax (by omega) (by omega)) (gR 2 rfl ?_))
    exact Zar (i + 1) ⟨by omega, vl_N hlt_i hx0.symm hv (by (unfold rou1;simp [*];done)) fun _ => by rw [hy0];exact (by omega)⟩ (by dsimp only;omega) (fun a F => F.only [10, 9, 8, 0] rfl) (sX 0 rfl)
  ·refine gR 1 rfl ?_
   exact ZaG 12 49 rfl (by kernel_rfl) (fR 3 rfl (ZaX 38 rfl (dqF (by omega)) (fR 9 rfl (Zap rfl rfl (gR 7 rfl (ZaK rfl rfl (Zax (by omega) (by omega)) (gR 2 rfl (Zar (i + 1) ⟨by omega, vl_N hlt_i hx0.symm hv (by (unfold rou1;simp [*];done)) fun h => absurd h hi0⟩ (by dsimp only;omega) (fun a F => F.only [10, 9, 8, 0] rfl) (sX 0 rfl)))))))))
 ·have hil : i = l.length := by omega
  rw [hil] at hv
  exact gR 6 rfl (Zav rfl (dqF (by omega)) (gR 2 rfl (ZaZ (gR 8 rfl (Zab rfl rfl rfl fun w M => vl_T hV (by omega) hv M.ext)))))
theorem Zns (l : List SrcV) (hx : ∀ x ∈ l, IsSr x) (v : Value) (W : World) (hS : SlAt W 38 v l.length (srsC l)) :
  Cal Tryz.prog 103 [v].toArray W fun r w' => r = .bool (ZdB l) ∧ Ext [] W w' := by
 obtain ⟨q, cap, rfl, _⟩ := id hS
 have hm := hS.memB [] (by simp)
 unfold ZdB
 generalize hV : vldL 256 src1 cmpS l = b0
 refine Zao (n := 52) (S := []) Zal Zak Tryz.func103 rfl rfl rfl ?_
 by_cases c0 : 256 < l.length
 ·refine gR 13 rfl ?_
  exact ZaE rfl (dqT (by omega)) (gR 7 rfl (Zab rfl rfl rfl fun w M => vl_L hV c0 M.ext))
 refine gR 13 rfl (Zav rfl (dqF (by omega)) (gR 11 rfl (Za1 (ι := Nat) ⟨fun (i : Nat) => l.length - i, fun (i : Nat) => i ≤ l.length ∧ (∀ j, j < i → vld1 src1 cmpS l j = true), fun (i : Nat) => [(10, .int .i64 i), (9, .int .i64 l.length), (8, .slice q l.length cap), (0, .slice q l.length cap)], fun (i : Nat) => []⟩ 0 ⟨by omega, by omega⟩ (fun a F => F.only [10, 9, 8, 0] rfl) (sX 17179869183 rfl) ?_)))
 rintro i ⟨hi_i, hv⟩
 by_cases hlt_i : i < l.length
 ·obtain ⟨b, o, cs, t', fz, rfl, hb, hs⟩ := hm (by omega)
  obtain ⟨x, hx0⟩ : ∃ x, x = l[i] := ⟨_, rfl⟩
  have hxm : x ∈ l := by rw [hx0];exact List.getElem_mem hlt_i
  have hxi : IsSr x := hx _ hxm
  have f1 : seg cs (o + (i : Int).toNat * 38) 38 = some (srC x) := by rw [hx0];exact Za0 (Zgd hx) hs hlt_i (by omega)
  replace hx0 := hx0.symm
  have xd : IsDv x.to := hxi.1
  refine gR 6 rfl (ZaE rfl (dqT (by omega)) (gR 7 rfl (Zbk rfl rfl (by omega) (by omega) (ZbF rfl ‹_› (by with_reducible assumption) ?_))))
  refine Zat fun b4 => gR 1 rfl (Zas 0 rfl rfl (ZcK ‹_›) (Zfh _) rfl (Zag (by rw [ZcK ‹_›];first | rfl | rw [ZcK ‹_›])) rfl ?_)
  refine gR 6 rfl (Zah 0 rfl rfl (ZjF ‹_›) ?_)
  refine Zad rfl rfl (fun w M => ZcI _ ‹_› _) ?_
  refine gR 2 rfl (Zan 19 rfl (fun h1 => ?_) (fun h1 => ?_))
  ·replace h1 := Zaa h1
   exact gR 29 rfl (ZaM (gR 2 rfl (Zab rfl rfl rfl fun w M => vl_F hV hlt_i hx0.symm (by (unfold src1;simp [*];done)) M.ext)))
  replace h1 := Zac h1
  refine gR 1 rfl (Zah 0 rfl rfl (Znp ‹_›) ?_)
  refine Zad rfl rfl (fun w M => ZfD _ _) (gR 3 rfl (Zan 25 rfl (fun h2 => ?_) (fun h2 => ?_)))
  ·replace h2 := Zaa h2
   exact gR 23 rfl (ZaM (gR 2 rfl (Zab rfl rfl rfl fun w M => vl_F hV hlt_i hx0.symm (by (unfold src1 finD inf;simp [*])) M.ext)))
  replace h2 := Zac h2
  refine gR 2 rfl (Zai 0 rfl rfl (Zie ‹_›) ?_)
  refine gR 3 rfl (Zan 31 rfl (fun h3 => ?_) (fun h3 => ?_))
  ·replace h3 := dqU h3
   exact gR 17 rfl (ZaM (gR 2 rfl (Zab rfl rfl rfl fun w M => vl_F hV hlt_i hx0.symm (by (unfold src1 finD inf;simp [*])) M.ext)))
  replace h3 := dqV h3
  refine gR 1 rfl (Zai 0 rfl rfl (Zno ‹_›) ?_)
  refine Zad rfl rfl (fun w M => ZpF _ _) (gR 4 rfl (g_if rfl (fun h4 => ?_) (fun h4 => ?_)))
  ·replace h4 := Zaa h4
   exact gR 9 rfl (ZaM (gR 2 rfl (Zab rfl rfl rfl fun w M => vl_F hV hlt_i hx0.symm (by (unfold src1;simp [*];done)) M.ext)))
  replace h4 := Zac h4
  refine gR 2 rfl ?_
  by_cases hi0 : 0 < i
  ·obtain ⟨y, hy0⟩ : ∃ y, y = l[i - 1]'(by omega) := ⟨_, rfl⟩
   have yI : IsSr y := by rw [hy0];exact hx _ (List.getElem_mem _)
   have f2 : seg cs (o + ((i : Int) - 1).toNat * 38) 38 = some (srC y) := by rw [hy0];exact Za0 (Zgd hx) hs (show i - 1 < l.length by omega) (by omega)
   replace hy0 := hy0.symm
   have yd : IsDv y.to := yI.1
   refine gR 1 rfl (ZaG 14 52 rfl (by kernel_rfl) (fR 3 rfl (ZaX 39 rfl (dqT (by omega)) (fR 2 rfl (ZdR rfl rfl (Zax (by omega) (by omega)) (Zbb rfl rfl (by omega) (by omega) (fR 1 rfl (Zb1 rfl ‹_› (ZbP f2 (ZjF ‹_›) (by omega)) ?_))))))))
   refine fR 1 rfl (ZaN 0 rfl rfl (ZjF ‹_›) ?_)
   refine ZaH rfl rfl (fun w M => ZcX _ _ ‹_› ‹_› _) ?_
   refine fR 2 rfl (Zap rfl rfl (gR 2 rfl (g_if rfl (fun h1 => ?_) (fun h1 => ?_))))
   ·replace h1 := dqU h1
    exact gR 8 rfl (ZaM (gR 2 rfl (Zab rfl rfl rfl fun w M => vl_S hV hlt_i hi0 hx0.symm hy0.symm (by unfold cmpS;omega) M.ext)))
   ·replace h1 := dqV h1
    refine gR 4 rfl (ZaK rfl rfl (Zax (by omega) (by omega)) (gR 2 rfl ?_))
    exact Zar (i + 1) ⟨by omega, vl_N hlt_i hx0.symm hv (by (unfold src1 finD inf;simp [*])) fun _ => by rw [hy0];exact (by unfold cmpS;omega)⟩ (by dsimp only;omega) (fun a F => F.only [10, 9, 8, 0] rfl) (sX 0 rfl)
  ·refine gR 1 rfl ?_
   exact ZaG 14 52 rfl (by kernel_rfl) (fR 3 rfl (ZaX 39 rfl (dqF (by omega)) (fR 11 rfl (Zap rfl rfl (gR 7 rfl (ZaK rfl rfl (Zax (by omega) (by omega)) (gR 2 rfl (Zar (i + 1) ⟨by omega, vl_N hlt_i hx0.symm hv (by (unfold src1 finD inf;simp [*])) fun h => absurd h hi0⟩ (by dsimp only;omega) (fun a F => F.only [10, 9, 8, 0] rfl) (sX 0 rfl)))))))))
 ·have hil : i = l.length := by omega
  rw [hil] at hv
  exact gR 6 rfl (Zav rfl (dqF (by omega)) (gR 2 rfl (ZaZ (gR 8 rfl (Zab rfl rfl rfl fun w M => vl_T hV (by omega) hv M.ext)))))
theorem Zik (l : List InsV) (hx : ∀ x ∈ l, IsIn x) (v : Value) (W : World) (hS : SlAt W 40 v l.length (insC l)) :
  Cal Tryz.prog 105 [v].toArray W fun r w' => r = .bool (ZcJ l) ∧ Ext [] W w' := by
 obtain ⟨q, cap, rfl, _⟩ := id hS
 have hm := hS.memB [] (by simp)
 unfold ZcJ
 generalize hV : vldL 512 ins1 cmpN l = b0
 refine Zao (n := 35) (S := []) Zal Zak Tryz.func105 rfl rfl rfl ?_
 by_cases c0 : 512 < l.length
 ·refine gR 13 rfl ?_
  exact ZaE rfl (dqT (by omega)) (gR 7 rfl (Zab rfl rfl rfl fun w M => vl_L hV c0 M.ext))
 refine gR 13 rfl (Zav rfl (dqF (by omega)) (gR 11 rfl (Za1 (ι := Nat) ⟨fun (i : Nat) => l.length - i, fun (i : Nat) => i ≤ l.length ∧ (∀ j, j < i → vld1 ins1 cmpN l j = true), fun (i : Nat) => [(10, .int .i64 i), (9, .int .i64 l.length), (8, .slice q l.length cap), (0, .slice q l.length cap)], fun (i : Nat) => []⟩ 0 ⟨by omega, by omega⟩ (fun a F => F.only [10, 9, 8, 0] rfl) (sX 17179869183 rfl) ?_)))
 rintro i ⟨hi_i, hv⟩
 by_cases hlt_i : i < l.length
 ·obtain ⟨b, o, cs, t', fz, rfl, hb, hs⟩ := hm (by omega)
  obtain ⟨x, hx0⟩ : ∃ x, x = l[i] := ⟨_, rfl⟩
  have hxm : x ∈ l := by rw [hx0];exact List.getElem_mem hlt_i
  have hxi : IsIn x := hx _ hxm
  have f1 : seg cs (o + (i : Int).toNat * 40) 40 = some (inC x) := by rw [hx0];exact Za0 (Zb5 hx) hs hlt_i (by omega)
  replace hx0 := hx0.symm
  have xd : IsDv x.to := hxi.1
  by_cases hi0 : 0 < i
  ·obtain ⟨y, hy0⟩ : ∃ y, y = l[i - 1]'(by omega) := ⟨_, rfl⟩
   have yI : IsIn y := by rw [hy0];exact hx _ (List.getElem_mem _)
   have f2 : seg cs (o + ((i : Int) - 1).toNat * 40) 40 = some (inC y) := by rw [hy0];exact Za0 (Zb5 hx) hs (show i - 1 < l.length by omega) (by omega)
   replace hy0 := hy0.symm
   have yd : IsDv y.to := yI.1
   refine gR 6 rfl (ZaE rfl (dqT (by omega)) (gR 7 rfl (Zbk rfl rfl (by omega) (by omega) (ZbF rfl ‹_› (by with_reducible assumption) ?_))))
   refine Zat fun b4 => gR 1 rfl (Zas 0 rfl rfl (Zaj ‹_›) (ZaY _) rfl (Zag (by rw [Zaj ‹_›];first | rfl | rw [Zaj ‹_›])) rfl ?_)
   refine gR 3 rfl (ZaG 19 35 rfl (by kernel_rfl) (ZaN 0 rfl rfl (Zbi ‹_›) ?_))
   refine ZaH rfl rfl (fun w M => Zlw _ ‹_› _) ?_
   refine fR 2 rfl (ZbQ 18 rfl (fun h1 => ?_) (fun h1 => ?_))
   ·replace h1 := Zaa h1
    exact fR 15 rfl (Zap rfl rfl (gR 11 rfl (ZaM (gR 2 rfl (Zab rfl rfl rfl fun w M => vl_F hV hlt_i hx0.symm ‹_› M.ext)))))
   ·replace h1 := Zac h1
    refine fR 3 rfl (ZaX 21 rfl (dqT (by omega)) (fR 2 rfl (ZdR rfl rfl (Zax (by omega) (by omega)) (Zbb rfl rfl (by omega) (by omega) (fR 1 rfl (Zb1 rfl ‹_› (ZbP f2 (Zcy ‹_›) (by omega)) ?_))))))
    refine fR 1 rfl (ZaN 0 rfl rfl (Zcy ‹_›) ?_)
    refine ZaH rfl rfl (fun w M => ZcX _ _ ‹_› ‹_› _) ?_
    refine fR 3 rfl (Zap rfl rfl (gR 2 rfl (g_if rfl (fun h2 => ?_) (fun h2 => ?_))))
    ·replace h2 := dqU h2
     exact gR 8 rfl (ZaM (gR 2 rfl (Zab rfl rfl rfl fun w M => vl_S hV hlt_i hi0 hx0.symm hy0.symm (by unfold cmpN;omega) M.ext)))
    ·replace h2 := dqV h2
     refine gR 4 rfl (ZaK rfl rfl (Zax (by omega) (by omega)) (gR 2 rfl ?_))
     exact Zar (i + 1) ⟨by omega, vl_N hlt_i hx0.symm hv ‹_› fun _ => by rw [hy0];exact (by unfold cmpN;omega)⟩ (by dsimp only;omega) (fun a F => F.only [10, 9, 8, 0] rfl) (sX 0 rfl)
  ·refine gR 6 rfl ?_
   refine ZaE rfl (dqT (by omega)) (gR 7 rfl (Zbk rfl rfl (by omega) (by omega) (ZbF rfl ‹_› (by with_reducible assumption) ?_)))
   refine Zat fun b4 => gR 1 rfl (Zas 0 rfl rfl (Zaj ‹_›) (ZaY _) rfl (Zag (by rw [Zaj ‹_›];first | rfl | rw [Zaj ‹_›])) rfl ?_)
   refine gR 3 rfl (ZaG 19 35 rfl (by kernel_rfl) (ZaN 0 rfl rfl (Zbi ‹_›) ?_))
   refine ZaH rfl rfl (fun w M => Zlw _ ‹_› _) ?_
   refine fR 2 rfl (ZbQ 18 rfl (fun h1 => ?_) (fun h1 => ?_))
   ·replace h1 := Zaa h1
    exact fR 15 rfl (Zap rfl rfl (gR 11 rfl (ZaM (gR 2 rfl (Zab rfl rfl rfl fun w M => vl_F hV hlt_i hx0.symm ‹_› M.ext)))))
   ·replace h1 := Zac h1
    exact fR 3 rfl (ZaX 21 rfl (dqF (by omega)) (fR 12 rfl (Zap rfl rfl (gR 7 rfl (ZaK rfl rfl (Zax (by omega) (by omega)) (gR 2 rfl (Zar (i + 1) ⟨by omega, vl_N hlt_i hx0.symm hv ‹_› fun h => absurd h hi0⟩ (by dsimp only;omega) (fun a F => F.only [10, 9, 8, 0] rfl) (sX 0 rfl))))))))
 ·have hil : i = l.length := by omega
  rw [hil] at hv
  exact gR 6 rfl (Zav rfl (dqF (by omega)) (gR 2 rfl (ZaZ (gR 8 rfl (Zab rfl rfl rfl fun w M => vl_T hV (by omega) hv M.ext)))))
def hitS (now : Int) (t : DstV) (x : SrcV) : Bool := decide (x.to = t) && decide (now < x.til)
theorem Has.app {l : List (Nat × Obj)} {b : Nat} {o : Obj} (h : Has l b o) : ∀ q : List (Nat × Obj), Has (q ++ l) b o
 | [] => h
 | _ :: q => .there (h.app q)
end Go.Proofs.YtfhkmgcalcfibaaGreat
namespace Go.Proofs.YtfhkmgcalcfibaaGreat
open Go.Shelf
def Zif : Go.Shelf.Ren := ⟨fun | 6 => 204 | 15 => 181 | 14 => 284 | 28 => 277 | 29 => 278 | 20 => 326 | 21 => 327 | 22 => 328 | 23 => 329 | 24 => 330 | 25 => 331 | 26 => 332 | 27 => 333 | 46 => 352 | 47 => 322 | 48 => 323 | 49 => 353 | 50 => 354 | 57 => 368 | n => n, fun | 22 => 49 | 24 => 100 | 25 => 243 | 3 => 3 | 39 => 185 | 0 => 0 | 53 => 297 | 55 => 40 | 4 => 4 | 46 => 291 | 45 => 290 | 50 => 268 | 5 => 5 | 9 => 9 | 66 => 326 | 70 => 329 | 76 => 345 | 77 => 346 | n => n, fun | n => n⟩
theorem Ztb : Go.Proofs.SlLaysF0.n6 Tryz.prog Zif := {
 mixed := by kernel_rfl
 f6 := ⟨Tryz.f204.name, by decide, Tryz.func204.trans (congrArg some (by kernel_rfl))⟩
 f14 := ⟨Tryz.f284.name, by decide, Tryz.func284.trans (congrArg some (by kernel_rfl))⟩
 f15 := Tryz.func181.trans (congrArg some (by kernel_rfl))
 f20 := ⟨Tryz.f326.name, by decide, Tryz.func326.trans (congrArg some (by kernel_rfl))⟩
 f21 := ⟨Tryz.f327.name, by decide, Tryz.func327.trans (congrArg some (by kernel_rfl))⟩
 f22 := ⟨Tryz.f328.name, by decide, Tryz.func328.trans (congrArg some (by kernel_rfl))⟩
 f23 := ⟨Tryz.f329.name, by decide, Tryz.func329.trans (congrArg some (by kernel_rfl))⟩
 f24 := ⟨Tryz.f330.name, by decide, Tryz.func330.trans (congrArg some (by kernel_rfl))⟩
 f25 := ⟨Tryz.f331.name, by decide, Tryz.func331.trans (congrArg some (by kernel_rfl))⟩
 f26 := ⟨Tryz.f332.name, by decide, Tryz.func332.trans (congrArg some (by kernel_rfl))⟩
 f27 := ⟨Tryz.f333.name, by decide, Tryz.func333.trans (congrArg some (by kernel_rfl))⟩
 f28 := Tryz.func277.trans (congrArg some (by kernel_rfl))
 f29 := Tryz.func278.trans (congrArg some (by kernel_rfl))
 f46 := ⟨Tryz.f352.name, by decide, Tryz.func352.trans (congrArg some (by kernel_rfl))⟩
 f47 := Tryz.func322.trans (congrArg some (by kernel_rfl))
 f48 := Tryz.func323.trans (congrArg some (by kernel_rfl))
 f49 := ⟨Tryz.f353.name, by decide, Tryz.func353.trans (congrArg some (by kernel_rfl))⟩
 f50 := ⟨Tryz.f354.name, by decide, Tryz.func354.trans (congrArg some (by kernel_rfl))⟩
 f57 := ⟨Tryz.f368.name, by decide, Tryz.func368.trans (congrArg some (by kernel_rfl))⟩
 t0 := Tryz.underlying0
 a0 := Tryz.isAgg0
 z0 := Tryz.sizeOf0
 v0 := Tryz.zeroValue0
 t3 := Tryz.underlying3
 a3 := Tryz.isAgg3
 z3 := Tryz.sizeOf3
 v3 := Tryz.zeroValue3
 t4 := Tryz.underlying4
 a4 := Tryz.isAgg4
 z4 := Tryz.sizeOf4
 v4 := Tryz.zeroValue4
 t5 := Tryz.underlying5
 a5 := Tryz.isAgg5
 z5 := Tryz.sizeOf5
 v5 := Tryz.zeroValue5
 t9 := Tryz.underlying9
 a9 := Tryz.isAgg9
 z9 := Tryz.sizeOf9
 v9 := Tryz.zeroValue9
 t22 := Tryz.underlying49
 a22 := Tryz.isAgg49
 z22 := Tryz.sizeOf49
 v22 := Tryz.zeroValue49
 t25 := Tryz.underlying243
 a25 := Tryz.isAgg243
 z25 := Tryz.sizeOf243
 v25 := Tryz.zeroValue243
 t39 := Tryz.underlying185
 a39 := Tryz.isAgg185
 z39 := Tryz.sizeOf185
 v39 := Tryz.zeroValue185
 t45 := Tryz.underlying290
 a45 := Tryz.isAgg290
 z45 := Tryz.sizeOf290
 v45 := Tryz.zeroValue290
 t46 := Tryz.underlying291
 a46 := Tryz.isAgg291
 z46 := Tryz.sizeOf291
 v46 := Tryz.zeroValue291
 t50 := Tryz.underlying268
 a50 := Tryz.isAgg268
 z50 := Tryz.sizeOf268
 v50 := Tryz.zeroValue268
 t53 := Tryz.underlying297
 a53 := Tryz.isAgg297
 z53 := Tryz.sizeOf297
 v53 := Tryz.zeroValue297
 t55 := Tryz.underlying40
 a55 := Tryz.isAgg40
 z55 := Tryz.sizeOf40
 v55 := Tryz.zeroValue40
 t66 := Tryz.underlying326
 a66 := Tryz.isAgg326
 z66 := Tryz.sizeOf326
 v66 := Tryz.zeroValue326
 t70 := Tryz.underlying329
 a70 := Tryz.isAgg329
 z70 := Tryz.sizeOf329
 v70 := Tryz.zeroValue329
 t76 := Tryz.underlying345
 a76 := Tryz.isAgg345
 z76 := Tryz.sizeOf345
 v76 := Tryz.zeroValue345
 t77 := Tryz.underlying346
 a77 := Tryz.isAgg346
 z77 := Tryz.sizeOf346
 v77 := Tryz.zeroValue346 }
end Go.Proofs.YtfhkmgcalcfibaaGreat
namespace Go.Proofs.YtfhkmgcalcfibaaGreat
open Go.RowKit Go.Sort
attribute [local irreducible] OpTo wpListIn Code.wpIn MW Cal
abbrev ADst := {d : DstV // IsDv d}
def z16 : List Int := [0, 0, 0, 0, 0, 0, 0, 0, 0, 0, 0, 0, 0, 0, 0, 0]
theorem Zq6 : IsIP z16 := ⟨rfl, by intro x hx;simp [z16] at hx;omega⟩
instance : Inhabited ADst := ⟨⟨⟨z16, 0, z16, 0, 0⟩, Zq6, Zq6⟩⟩
def cfD (x y : ADst) : Int := cmpD x.1 y.1
theorem ltD (x y : ADst) : ltOf cfD x y = true ↔ cmpD x.1 y.1 < 0 := decide_eq_true_iff
theorem Zqj (x y : ADst) : ltOf cfD x y = false ↔ ¬ cmpD x.1 y.1 < 0 := decide_eq_false_iff_not
theorem swoD : SWO (ltOf cfD) where
 irrefl x := by rw [Zqj, Zf5];omega
 trans x y z h1 h2 := by rw [ltD] at *;exact Zcr h1 h2
 ntrans x y z h1 h2 := by
  rw [Zqj] at *
  intro h
  have h3 := ZeZ x.1 y.1
  rcases Int.lt_trichotomy (cmpD y.1 x.1) 0 with h4 | h4 | h4
  ·exact h2 (Zcr h4 h)
  ·rw [Zf4 y.2 x.2 h4] at h2
   exact h2 h
  ·omega
theorem totD (x y : ADst) (h1 : ltOf cfD x y = false) (h2 : ltOf cfD y x = false) : x = y := by
 rw [Zqj] at *
 have h3 := ZeZ x.1 y.1
 exact Subtype.ext (Zf4 x.2 y.2 (by omega))
theorem Zox : ∀ {l : List AdvV}, (l.map (·.to)).Nodup → ∀ {a : AdvV}, a ∈ l → getO l a.to = some a.own
 | [], _, _, h => by cases h
 | x :: l, hn, a, h => by
  rw [Zoy]
  simp only [List.map_cons, List.nodup_cons, List.mem_map, not_exists, not_and] at hn
  rcases List.mem_cons.1 h with rfl | h
  ·simp
  ·rw [if_neg fun e => hn.1 a h e.symm]
   exact Zox hn.2 h
end Go.Proofs.YtfhkmgcalcfibaaGreat
namespace Go.Proofs.YtfhkmgcalcfibaaGreat
open Go.RowKit
attribute [local irreducible] OpTo wpListIn Code.wpIn MW Cal
theorem ZgH : IsIn in0 := ⟨⟨ZgX, ZgX⟩, trivial⟩
def Zfg {α : Type} (p : α → Bool) (ls : List α) : Int := match ls.findIdx? p with | some i => i | none => -1
theorem Zjj {α : Type} {p : α → Bool} {ls : List α} {i : Nat} (hi : i < ls.length) (h : p ls[i] = true) (hn : ∀ j (hj : j < i), p ls[j] = false) : Zfg p ls = i := by
 have : ls.findIdx? p = some i := List.findIdx?_eq_some_iff_getElem.2 ⟨hi, h, fun j hj => by simp [hn j hj]⟩
 simp [Zfg, this]
theorem Zgt {α : Type} {p : α → Bool} {ls : List α} (hn : ∀ j (hj : j < ls.length), p ls[j] = false) : Zfg p ls = -1 := by
 have : ls.findIdx? p = none := List.findIdx?_eq_none_iff.2 fun x hx => by
  obtain ⟨j, hj, rfl⟩ := List.mem_iff_getElem.1 hx
  exact hn j hj
 simp [Zfg, this]
theorem Zlc {α : Type} (p : α → Bool) (ls : List α) : (Zfg p ls = -1 ∧ ∀ x ∈ ls, p x = false) ∨ (∃ i, ∃ hi : i < ls.length, Zfg p ls = i ∧ p ls[i] = true ∧ ∀ j (hj : j < i), p ls[j] = false) := by
 unfold Zfg
 cases h : ls.findIdx? p with
 | none => exact .inl ⟨rfl, fun x hx => List.findIdx?_eq_none_iff.1 h x hx⟩
 | some i =>
  obtain ⟨h1, h2, h3⟩ := List.findIdx?_eq_some_iff_getElem.1 h
  exact .inr ⟨i, h1, rfl, h2, fun j hj => by simpa using h3 j hj⟩
theorem ZmS {α : Type} {p : α → Bool} {ls : List α} : (Zfg p ls = -1 ∧ ls.find? p = none) ∨ ∃ i, ∃ hi : i < ls.length, Zfg p ls = (i : Nat) ∧ ls.find? p = some ls[i] := by
 rcases Zlc p ls with ⟨h1, h2⟩ | ⟨i, hi, h1, h2, h3⟩
 ·exact .inl ⟨h1, List.find?_eq_none.2 fun x hx => by rw [h2 x hx];simp⟩
 ·refine .inr ⟨i, hi, h1, ?_⟩
  rw [List.find?_eq_some_iff_getElem]
  exact ⟨h2, i, hi, rfl, fun j hj => by rw [h3 j hj];rfl⟩
theorem Zqx {v : Value} {ls : List InsV} (W : World) (hS : SlAt W 40 v ls.length (insC ls)) (hls : ∀ l ∈ ls, IsIn l) (hlen : ls.length ≤ 1000) (g : FuncId) [hg : ZaD Tryz.prog g] (caps : List Value) (p : InsV → Bool)
  (hcl : ∀ w l, Ext [] W w → l ∈ ls → Cal Tryz.prog g (.agg (inC l).toArray :: caps).toArray w fun v w' => v = .bool (p l) ∧ Ext [] w w') :
  Cal Tryz.prog 198 [v, .func (.func g) #[] caps.toArray].toArray W fun x w' => x = .int .i64 (Zfg p ls) ∧ Ext [] W w' := by
 obtain ⟨q, cap, rfl, hcap, hsp, hl, hm⟩ := hS
 refine ZbU (n := 19) [] Tryz.func198 rfl rfl rfl ?_
 intro a w F M hwW
 refine ZaB (Zaf ?_)
 refine sD F (Zau (F.e rfl) ?_);clear F a;intro a F
 with_reducible refine ZaF (Zam (ZaB (ZaB (Zaf ?_))))
 refine sD F (Zaq (F.e rfl) fun a F => sD F (Zek (F.e rfl) fun a F => sD F (Zaq (F.e rfl) ?_)));iterate 3 clear F a
 intro a F
 with_reducible refine ZaF (Zam (ZbT ?_))
 refine ZgK (fun k a w => ∃ i : Nat, k = ls.length - i ∧ i ≤ ls.length ∧ (∀ j (hj : j < i) (hj2 : j < ls.length), p ls[j] = false) ∧ Frm a 19 [] [(8, .int .i64 i), (7, .int .i64 ls.length), (0, .slice q ls.length cap), (1, .func (.func g) #[] caps.toArray)] ∧ Mem [] W w []) ls.length ⟨0, rfl, by omega, by omega, F.only [8, 7, 0, 1] rfl, M⟩ ?_
 clear F M
 rintro k a w ⟨i, hk, hi, hno, F, M⟩
 by_cases hlt : i < ls.length
 ·obtain ⟨b, o, cs, t, fz, rfl, hb, hs⟩ := hm (by omega)
  have e1 : seg cs (o + (i : Int).toNat * 40) 40 = some (inC ls[i]) := Za0 (Zb5 hls) hs hlt (by omega)
  refine ZaB (Zaf ?_)
  refine sD F (ZgG (F.e rfl) (F.e rfl) (by omega) ?_);clear F a;intro a F
  with_reducible refine ZaF (Zam (ZaB ?_))
  refine ZcV F rfl rfl ?_
  with_reducible refine ZcQ (Zam (ZaB (ZbT (ZaB (Zaf ?_)))))
  refine sD F (Zaq (F.e rfl) fun a F => sD F (Zau (F.e rfl) ?_));iterate 2 clear F a
  intro a F
  with_reducible refine ZaF (Zam (ZaB (Zaf ?_)))
  refine sD F (Zaq (F.e rfl) fun a F => sD F (Zaq (F.e rfl) fun a F => sD F (Zaq (F.e rfl) fun a F => sD F (Zcg (F.e rfl) (F.e rfl) (by omega) (by omega) fun a F => sD F (ZlL M (F.e rfl) ‹_› ‹_› ?_)))));iterate 5 clear F a
  intro a F
  (refine sD F (Zi8 (us := (.agg (inC ls[i]).toArray :: caps).toArray) (F.e rfl) (F.evs rfl) (by simp) (Cal.mono (hcl _ ls[i] M.ext (List.getElem_mem hlt)) ?_));clear F;clear a;rintro _ w ⟨rfl, hE⟩ a F;replace M := M.later hE;clear hE)
  cases hp : p ls[i]
  ·rw [hp] at F
   with_reducible refine ZaF (Zam ?_)
   refine Zcm F rfl rfl ?_
   with_reducible refine ZcQ (Zmy (Zam (Zaf ?_)))
   refine sD F (ZgN (F.e rfl) (F.e rfl) (Zax (by omega) (by omega)) fun a F => sD F (Zaq (F.e rfl) ?_));iterate 2 clear F a
   intro a F
   with_reducible refine ZaF (Zam ?_)
   exact ⟨_, by omega, i + 1, rfl, by omega, fun j hj hj2 => by
    rcases Nat.lt_or_ge j i with h | h
    ·exact hno j h hj2
    ·obtain rfl : j = i := by omega
     exact hp, F.only [8, 7, 0, 1] rfl, M⟩
  ·rw [hp] at F
   with_reducible refine ZaF (Zam ?_)
   refine ZcV F rfl rfl (ZaB (Zaf ?_))
   refine sD F (Zaq (F.e rfl) fun a F => sD F (Zau (F.e rfl) ?_));iterate 2 clear F a
   intro a F
   with_reducible refine ZaF (Zam (Zb6 (Zis (Zdj (Zdj (Zis (Zdj ?_)))))))
   refine Zb3 F rfl (.cons (.tmp (F.e rfl)) .nil) ?_
   exact ⟨by rw [Zjj hlt hp fun j hj => hno j hj (by omega)];rfl, M.ext⟩
 ·obtain rfl : i = ls.length := by omega
  refine ZaB (Zaf ?_)
  refine sD F (Zhq (F.e rfl) (F.e rfl) (by omega) ?_);clear F a;intro a F
  with_reducible refine ZaF (Zam (ZaB ?_))
  refine Zcm F rfl rfl ?_
  with_reducible refine Zf6 (ZcM (ZcM (ZgD (Zam (ZaB (Zaf ?_))))))
  refine sD F (Zau (F.e rfl) ?_);clear F a;intro a F
  with_reducible refine ZaF (Zam (Zb6 ?_))
  refine Zb3 F rfl (.cons (.tmp (F.e rfl)) .nil) ?_
  exact ⟨by rw [Zgt fun j hj => hno j hj hj];rfl, M.ext⟩
theorem Ziz {l : List InsV} {src dst : List Int} {i : Nat} (h : i < l.length) : ZfQ (l.take (i + 1)) src dst = ZdY src dst (ZfQ (l.take i) src dst) l[i] := by
 unfold ZfQ
 rw [List.take_add_one, List.getElem?_eq_getElem h, List.foldl_append]
 rfl
theorem Zn2 {src dst : List Int} {near : List InsV} {e : InsV} {p : InsV → Prop} (h : ∀ x ∈ near, p x) (he : p e) : ∀ x ∈ ZdY src dst near e, p x := by
 unfold ZdY
 split
 ·split
  ·simpa using he
  ·split
   ·simpa using he
   ·split
    ·intro x hx
     rcases List.mem_append.1 hx with h1 | h1
     ·exact h x h1
     ·simp at h1;rw [h1];exact he
    ·exact h
 ·exact h
theorem ZeT {src dst : List Int} {p : InsV → Prop} : ∀ {l : List InsV}, (∀ x ∈ l, p x) → ∀ x ∈ ZfQ l src dst, p x := by
 intro l h
 unfold ZfQ
 have key : ∀ (l near : List InsV), (∀ x ∈ l, p x) → (∀ x ∈ near, p x) → ∀ x ∈ l.foldl (ZdY src dst) near, p x := by
  intro l
  induction l with
  | nil => intro near _ h;exact h
  | cons a l ih =>
   intro near h1 h2
   rw [List.foldl_cons]
   exact ih _ (fun x hx => h1 x (List.mem_cons_of_mem _ hx)) (Zn2 h2 (h1 a (by simp)))
 exact key l [] h (by simp)
theorem Zn3 {src dst : List Int} {near : List InsV} {e : InsV} : (ZdY src dst near e).length ≤ near.length + 1 := by
 unfold ZdY
 split
 ·split
  ·simp
  ·split
   ·simp
   ·split <;> simp
 ·omega
theorem ZfP {src dst : List Int} {l : List InsV} : (ZfQ l src dst).length ≤ l.length := by
 unfold ZfQ
 have key : ∀ (l near : List InsV), (l.foldl (ZdY src dst) near).length ≤ near.length + l.length := by
  intro l
  induction l with
  | nil => intro near;simp
  | cons a l ih =>
   intro near
   rw [List.foldl_cons]
   have h1 := ih (ZdY src dst near a)
   have h2 := Zn3 (src := src) (dst := dst) (near := near) (e := a)
   simp only [List.length_cons]
   omega
 simpa using key l []
theorem ZiN {near : List InsV} {y : InsV} {i : Nat} (h : i < near.length) : ZgP (near.take (i + 1)) y = if near[i].own.met < (ZgP (near.take i) y).own.met then near[i] else ZgP (near.take i) y := by
 unfold ZgP
 rw [List.take_add_one, List.getElem?_eq_getElem h, List.foldl_append]
 rfl
theorem Zlh {near : List InsV} {y : InsV} {p : InsV → Prop} (h : ∀ x ∈ near, p x) (hy : p y) : p (ZgP near y) := by
 unfold ZgP
 induction near generalizing y with
 | nil => exact hy
 | cons a l ih =>
  rw [List.foldl_cons]
  refine ih (fun x hx => h x (List.mem_cons_of_mem _ hx)) ?_
  split
  ·exact h a (by simp)
  ·exact hy
theorem Zl6 {a b : List Int} {n m : Int} (h : a.length = b.length) : eqVs (pfC a n) (pfC b m) = (decide (a = b) && decide (n = m)) := by
 rw [ZhD h]
 by_cases h1 : a = b <;> by_cases h2 : n = m <;> simp [h1, h2]
end Go.Proofs.YtfhkmgcalcfibaaGreat
namespace Go.Proofs.YtfhkmgcalcfibaaGreat
open Go.RowKit
section
variable {now : Int} {s : List SrcV} {cm : List (Int × Int)} {t : DstV} {l : List RouV}
end
structure Yet {α : Type} (to : α → DstV) (l : List α) (ds : List DstV) (r : Nat) : Prop where
 le : r ≤ l.length
 gone : ∀ j (hj : j < l.length), j < r → to l[j] ∉ ds
 yet : ∀ j (hj : j < l.length), r ≤ j → to l[j] ∈ ds
abbrev Weak {α : Type} (to : α → DstV) (l : List α) : Prop := l.Pairwise fun a b => ¬ cmpD (to b) (to a) < 0
theorem Yet.next {α : Type} {to : α → DstV} {l : List α} {t : DstV} {ds : List DstV} {r r1 : Nat} (hW : Weak to l) (hd : AscD (t :: ds)) (hi : ∀ x ∈ t :: ds, IsDv x) (h : Yet to l (t :: ds) r) (hr : r ≤ r1) (hle : r1 ≤ l.length) (he : ∀ j (hj : j < l.length), r ≤ j → j < r1 → to l[j] = t) (hn : ∀ hj : r1 < l.length, to l[r1] ≠ t) : Yet to l ds r1 ∧ ∀ j (hj : j < l.length), r1 ≤ j → to l[j] ≠ t := by
 have hd1 := List.pairwise_cons.1 hd
 have htn : t ∉ ds := fun h => by have := hd1.1 t h;rw [Zf5] at this;omega
 have key : ∀ j (hj : j < l.length), r1 ≤ j → to l[j] ≠ t := by
  intro j hj h1 e
  have hr1 : r1 < l.length := by omega
  have h2 := h.yet r1 hr1 hr
  have h3 : cmpD t (to l[r1]) < 0 := by
   rcases List.mem_cons.1 h2 with h4 | h4
   ·exact absurd h4 (hn hr1)
   ·exact hd1.1 _ h4
  rcases Nat.lt_or_ge r1 j with h5 | h5
  ·have := (List.pairwise_iff_getElem.1 hW) r1 j hr1 hj h5
   rw [e] at this
   exact this h3
  ·obtain rfl : j = r1 := by omega
   exact hn hj e
 refine ⟨⟨hle, fun j hj h1 h2 => ?_, fun j hj h1 => ?_⟩, key⟩
 ·rcases Nat.lt_or_ge j r with h3 | h3
  ·exact h.gone j hj h3 (List.mem_cons_of_mem _ h2)
  ·rw [he j hj h3 h1] at h2
   exact htn h2
 ·rcases List.mem_cons.1 (h.yet j hj (by omega)) with h2 | h2
  ·exact absurd h2 (key j hj h1)
  ·exact h2
theorem Yet.before {α : Type} {to : α → DstV} {l : List α} {t : DstV} {ds : List DstV} {r : Nat} (h : Yet to l (t :: ds) r) : ∀ j (hj : j < l.length), j < r → to l[j] ≠ t := fun j hj h1 e => h.gone j hj h1 (by rw [e];simp)
def k5 : OptV := ⟨5, 300⟩
section
variable {t : DstV} {d : DisV} {now til : Int}
end
end Go.Proofs.YtfhkmgcalcfibaaGreat
namespace Go.Proofs.YtfhkmgcalcfibaaGreat
open Go.RowKit
attribute [local irreducible] OpTo wpListIn Code.wpIn MW Cal
theorem Zip (x y : RouV) (ha : IsRo x) (hb : IsRo y) (W : World) : Cal Tryz.prog 199 [.agg (roC x).toArray, .agg (roC y).toArray].toArray W fun v w' => v = .int .i64 (cmpR x y) ∧ Ext [] W w' := by
 have a1 := ZeL ha
 have a2 := ZdV ha
 have c1 := ZeL hb
 have c2 := ZdV hb
 rw [Zo2 ha.1 hb.1]
 unfold orI cmpI
 refine Zao (n := 24) (S := []) Zal Zak Tryz.func199 rfl rfl rfl ?_
 by_cases k : cmpD x.to y.to = 0
 ·rw [if_pos k]
  by_cases k2 : x.nb < y.nb
  ·rw [if_pos k2]
   refine gR 2 rfl (ZaA rfl rfl fun b2 => ZaA rfl rfl fun b3 => gR 7 rfl (Zah 1 rfl rfl (ZeL ‹_›) ?_))
   refine gR 1 rfl (Zah 0 rfl rfl (ZeL ‹_›) ?_)
   refine Zad rfl rfl (fun w M => Zbt _ _ (And.left ‹_›) (And.left ‹_›) _) ?_
   refine gR 9 rfl (Zav rfl (bneF (by omega)) (gR 6 rfl (Zai 1 rfl rfl (ZdV ‹_›) ?_)))
   refine gR 1 rfl (Zai 0 rfl rfl (ZdV ‹_›) ?_)
   exact gR 3 rfl (ZaE rfl (dqT (by omega)) (gR 7 rfl (Zab rfl rfl rfl fun w M => ⟨rfl, M.ext⟩)))
  ·rw [if_neg k2]
   by_cases k3 : y.nb < x.nb
   ·rw [if_pos k3]
    refine gR 2 rfl (ZaA rfl rfl fun b2 => ZaA rfl rfl fun b3 => gR 7 rfl (Zah 1 rfl rfl (ZeL ‹_›) ?_))
    refine gR 1 rfl (Zah 0 rfl rfl (ZeL ‹_›) ?_)
    refine Zad rfl rfl (fun w M => Zbt _ _ (And.left ‹_›) (And.left ‹_›) _) ?_
    refine gR 9 rfl (Zav rfl (bneF (by omega)) (gR 6 rfl (Zai 1 rfl rfl (ZdV ‹_›) ?_)))
    refine gR 1 rfl (Zai 0 rfl rfl (ZdV ‹_›) ?_)
    refine gR 3 rfl (Zav rfl (dqF (by omega)) (gR 6 rfl (Zai 1 rfl rfl (ZdV ‹_›) ?_)))
    refine gR 1 rfl (Zai 0 rfl rfl (ZdV ‹_›) ?_)
    exact gR 3 rfl (ZaE rfl (dqT (by omega)) (gR 7 rfl (Zab rfl rfl rfl fun w M => ⟨rfl, M.ext⟩)))
   ·rw [if_neg k3]
    refine gR 2 rfl (ZaA rfl rfl fun b2 => ZaA rfl rfl fun b3 => gR 7 rfl (Zah 1 rfl rfl (ZeL ‹_›) ?_))
    refine gR 1 rfl (Zah 0 rfl rfl (ZeL ‹_›) ?_)
    refine Zad rfl rfl (fun w M => Zbt _ _ (And.left ‹_›) (And.left ‹_›) _) ?_
    refine gR 9 rfl (Zav rfl (bneF (by omega)) (gR 6 rfl (Zai 1 rfl rfl (ZdV ‹_›) ?_)))
    refine gR 1 rfl (Zai 0 rfl rfl (ZdV ‹_›) ?_)
    refine gR 3 rfl (Zav rfl (dqF (by omega)) (gR 6 rfl (Zai 1 rfl rfl (ZdV ‹_›) ?_)))
    refine gR 1 rfl (Zai 0 rfl rfl (ZdV ‹_›) ?_)
    exact gR 3 rfl (Zav rfl (dqF (by omega)) (gR 8 rfl (Zab rfl rfl rfl fun w M => ⟨rfl, M.ext⟩)))
 ·rw [if_neg k]
  refine gR 2 rfl (ZaA rfl rfl fun b2 => ZaA rfl rfl fun b3 => gR 7 rfl (Zah 1 rfl rfl (ZeL ‹_›) ?_))
  refine gR 1 rfl (Zah 0 rfl rfl (ZeL ‹_›) ?_)
  refine Zad rfl rfl (fun w M => Zbt _ _ (And.left ‹_›) (And.left ‹_›) _) ?_
  exact gR 9 rfl (ZaE rfl (bne_iff_ne.2 (by omega)) (gR 8 rfl (Zab rfl rfl rfl fun w M => ⟨rfl, M.ext⟩)))
theorem Zeh (l : List RouV) (hx : ∀ x ∈ l, IsRo x) (v : Value) (W : World) (hS : SlAt W 39 v l.length (rosC l)) :
  Cal Tryz.prog 114 [v].toArray W fun r w' => r = .bool (Zdh l) ∧ Ext [] W w' := by
 obtain ⟨q, cap, rfl, _⟩ := id hS
 have hm := hS.memB [] (by simp)
 unfold Zdh
 generalize hV : vldL 512 rou1 cmpR l = b0
 refine Zao (n := 70) (S := []) Zal Zak Tryz.func114 rfl rfl rfl ?_
 by_cases c0 : 512 < l.length
 ·refine gR 13 rfl ?_
  exact ZaE rfl (dqT (by omega)) (gR 7 rfl (Zab rfl rfl rfl fun w M => vl_L hV c0 M.ext))
 refine gR 13 rfl (Zav rfl (dqF (by omega)) (gR 11 rfl (Za1 (ι := Nat) ⟨fun (i : Nat) => l.length - i, fun (i : Nat) => i ≤ l.length ∧ (∀ j, j < i → vld1 rou1 cmpR l j = true), fun (i : Nat) => [(9, .int .i64 i), (8, .int .i64 l.length), (7, .slice q l.length cap), (0, .slice q l.length cap)], fun (i : Nat) => []⟩ 0 ⟨by omega, by omega⟩ (fun a F => F.only [9, 8, 7, 0] rfl) (sX 17179869183 rfl) ?_)))
 rintro i ⟨hi_i, hv⟩
 by_cases hlt_i : i < l.length
 ·obtain ⟨b, o, cs, t', fz, rfl, hb, hs⟩ := hm (by omega)
  obtain ⟨x, hx0⟩ : ∃ x, x = l[i] := ⟨_, rfl⟩
  have hxm : x ∈ l := by rw [hx0];exact List.getElem_mem hlt_i
  have hxi : IsRo x := hx _ hxm
  have f1 : seg cs (o + (i : Int).toNat * 39) 39 = some (roC x) := by rw [hx0];exact Za0 (Zeg hx) hs hlt_i (by omega)
  replace hx0 := hx0.symm
  have xd : IsDv x.to := hxi.1
  refine gR 6 rfl (ZaE rfl (dqT (by omega)) (gR 15 rfl (Zbk rfl rfl (by omega) (by omega) (gR 1 rfl (ZbF rfl ‹_› (ZbP ‹_› (ZeL ‹_›) (by omega)) ?_)))))
  refine Zad rfl rfl (fun w M => Zbg _ ‹_› _) ?_
  refine gR 2 rfl (Zan 19 rfl (fun h1 => ?_) (fun h1 => ?_))
  ·replace h1 := Zaa h1
   exact gR 46 rfl (ZaM (gR 2 rfl (Zab rfl rfl rfl fun w M => vl_F hV hlt_i hx0.symm (by (unfold rou1;simp [*];done)) M.ext)))
  replace h1 := Zac h1
  refine gR 2 rfl (Zbk rfl rfl (by omega) (by omega) (gR 1 rfl (Zkg rfl ‹_› (Zhe ‹_› (ZdV ‹_›) (by omega)) ?_)))
  refine gR 3 rfl (Zan 27 rfl (fun h2 => ?_) (fun h2 => ?_))
  ·replace h2 := dqU h2
   exact gR 38 rfl (ZaM (gR 2 rfl (Zab rfl rfl rfl fun w M => vl_F hV hlt_i hx0.symm (by (unfold rou1;simp [*];done)) M.ext)))
  replace h2 := dqV h2
  refine gR 2 rfl (Zbk rfl rfl (by omega) (by omega) (gR 1 rfl (ZbF rfl ‹_› (ZbP ‹_› (ro_said ‹_›) (by omega)) ?_)))
  refine Zad rfl rfl (fun w M => Zcv _ _) (gR 3 rfl (Zan 36 rfl (fun h3 => ?_) (fun h3 => ?_)))
  ·replace h3 := Zaa h3
   exact gR 29 rfl (ZaM (gR 2 rfl (Zab rfl rfl rfl fun w M => vl_F hV hlt_i hx0.symm (by (unfold rou1 finD inf;simp [*])) M.ext)))
  replace h3 := Zac h3
  refine gR 2 rfl (Zbk rfl rfl (by omega) (by omega) (gR 2 rfl (Zkg rfl ‹_› (Zhe ‹_› (ZkF ‹_›) (by omega)) ?_)))
  refine gR 3 rfl (Zan 45 rfl (fun h4 => ?_) (fun h4 => ?_))
  ·replace h4 := dqU h4
   exact gR 20 rfl (ZaM (gR 2 rfl (Zab rfl rfl rfl fun w M => vl_F hV hlt_i hx0.symm (by (unfold rou1 finD inf;simp [*])) M.ext)))
  replace h4 := dqV h4
  refine gR 2 rfl (Zbk rfl rfl (by omega) (by omega) (gR 1 rfl (Zkg rfl ‹_› (Zhe ‹_› (Zrb ‹_›) (by omega)) ?_)))
  refine Zad rfl rfl (fun w M => Zbd _ _) (gR 4 rfl (g_if rfl (fun h5 => ?_) (fun h5 => ?_)))
  ·replace h5 := Zaa h5
   exact gR 9 rfl (ZaM (gR 2 rfl (Zab rfl rfl rfl fun w M => vl_F hV hlt_i hx0.symm (by (unfold rou1;simp [*];done)) M.ext)))
  replace h5 := Zac h5
  refine gR 2 rfl ?_
  by_cases hi0 : 0 < i
  ·obtain ⟨y, hy0⟩ : ∃ y, y = l[i - 1]'(by omega) := ⟨_, rfl⟩
   have yI : IsRo y := by rw [hy0];exact hx _ (List.getElem_mem _)
   have f2 : seg cs (o + ((i : Int) - 1).toNat * 39) 39 = some (roC y) := by rw [hy0];exact Za0 (Zeg hx) hs (show i - 1 < l.length by omega) (by omega)
   replace hy0 := hy0.symm
   have yd : IsDv y.to := yI.1
   refine gR 1 rfl (ZaG 15 70 rfl (by kernel_rfl) (fR 3 rfl (ZaX 56 rfl (dqT (by omega)) (fR 2 rfl (ZdR rfl rfl (Zax (by omega) (by omega)) (Zbb rfl rfl (by omega) (by omega) (Zb1 rfl ‹_› (by with_reducible assumption) ?_)))))))
   refine fR 2 rfl (Zbb rfl rfl (by omega) (by omega) (Zb1 rfl ‹_› (by with_reducible assumption) ?_))
   refine ZaH rfl rfl (fun w M => Zip _ _ ‹_› ‹_› _) ?_
   refine fR 2 rfl (Zap rfl rfl (gR 2 rfl (g_if rfl (fun h1 => ?_) (fun h1 => ?_))))
   ·replace h1 := dqU h1
    exact gR 8 rfl (ZaM (gR 2 rfl (Zab rfl rfl rfl fun w M => vl_S hV hlt_i hi0 hx0.symm hy0.symm (by omega) M.ext)))
   ·replace h1 := dqV h1
    refine gR 4 rfl (ZaK rfl rfl (Zax (by omega) (by omega)) (gR 2 rfl ?_))
    exact Zar (i + 1) ⟨by omega, vl_N hlt_i hx0.symm hv (by (unfold rou1 finD inf;simp [*])) fun _ => by rw [hy0];exact (by omega)⟩ (by dsimp only;omega) (fun a F => F.only [9, 8, 7, 0] rfl) (sX 17179869183 rfl)
  ·refine gR 1 rfl ?_
   exact ZaG 15 70 rfl (by kernel_rfl) (fR 3 rfl (ZaX 56 rfl (dqF (by omega)) (fR 12 rfl (Zap rfl rfl (gR 7 rfl (ZaK rfl rfl (Zax (by omega) (by omega)) (gR 2 rfl (Zar (i + 1) ⟨by omega, vl_N hlt_i hx0.symm hv (by (unfold rou1 finD inf;simp [*])) fun h => absurd h hi0⟩ (by dsimp only;omega) (fun a F => F.only [9, 8, 7, 0] rfl) (sX 17179869183 rfl)))))))))
 ·have hil : i = l.length := by omega
  rw [hil] at hv
  exact gR 6 rfl (Zav rfl (dqF (by omega)) (gR 2 rfl (ZaZ (gR 8 rfl (Zab rfl rfl rfl fun w M => vl_T hV (by omega) hv M.ext)))))
theorem ZdG (l : List SrcV) (hx : ∀ x ∈ l, IsSr x) (v : Value) (W : World) (hS : SlAt W 38 v l.length (srsC l)) :
  Cal Tryz.prog 72 [v].toArray W fun r w' => r = .bool (ZdB l) ∧ Ext [] W w' := by
 obtain ⟨q, cap, rfl, _⟩ := id hS
 have hm := hS.memB [] (by simp)
 unfold ZdB
 generalize hV : vldL 256 src1 cmpS l = b0
 refine Zao (n := 64) (S := []) Zal Zak Tryz.func72 rfl rfl rfl ?_
 by_cases c0 : 256 < l.length
 ·refine gR 13 rfl ?_
  exact ZaE rfl (dqT (by omega)) (gR 7 rfl (Zab rfl rfl rfl fun w M => vl_L hV c0 M.ext))
 refine gR 13 rfl (Zav rfl (dqF (by omega)) (gR 11 rfl (Za1 (ι := Nat) ⟨fun (i : Nat) => l.length - i, fun (i : Nat) => i ≤ l.length ∧ (∀ j, j < i → vld1 src1 cmpS l j = true), fun (i : Nat) => [(9, .int .i64 i), (8, .int .i64 l.length), (7, .slice q l.length cap), (0, .slice q l.length cap)], fun (i : Nat) => []⟩ 0 ⟨by omega, by omega⟩ (fun a F => F.only [9, 8, 7, 0] rfl) (sX 17179869183 rfl) ?_)))
 rintro i ⟨hi_i, hv⟩
 by_cases hlt_i : i < l.length
 ·obtain ⟨b, o, cs, t', fz, rfl, hb, hs⟩ := hm (by omega)
  obtain ⟨x, hx0⟩ : ∃ x, x = l[i] := ⟨_, rfl⟩
  have hxm : x ∈ l := by rw [hx0];exact List.getElem_mem hlt_i
  have hxi : IsSr x := hx _ hxm
  have f1 : seg cs (o + (i : Int).toNat * 38) 38 = some (srC x) := by rw [hx0];exact Za0 (Zgd hx) hs hlt_i (by omega)
  replace hx0 := hx0.symm
  have xd : IsDv x.to := hxi.1
  refine gR 6 rfl (ZaE rfl (dqT (by omega)) (gR 15 rfl (Zbk rfl rfl (by omega) (by omega) (gR 1 rfl (ZbF rfl ‹_› (ZbP ‹_› (ZjF ‹_›) (by omega)) ?_)))))
  refine Zad rfl rfl (fun w M => Zbg _ ‹_› _) ?_
  refine gR 2 rfl (Zan 19 rfl (fun h1 => ?_) (fun h1 => ?_))
  ·replace h1 := Zaa h1
   exact gR 38 rfl (ZaM (gR 2 rfl (Zab rfl rfl rfl fun w M => vl_F hV hlt_i hx0.symm (by (unfold src1;simp [*];done)) M.ext)))
  replace h1 := Zac h1
  refine gR 2 rfl (Zbk rfl rfl (by omega) (by omega) (gR 1 rfl (ZbF rfl ‹_› (ZbP ‹_› (Znp ‹_›) (by omega)) ?_)))
  refine Zad rfl rfl (fun w M => Zcv _ _) (gR 3 rfl (Zan 28 rfl (fun h2 => ?_) (fun h2 => ?_)))
  ·replace h2 := Zaa h2
   exact gR 29 rfl (ZaM (gR 2 rfl (Zab rfl rfl rfl fun w M => vl_F hV hlt_i hx0.symm (by (unfold src1 finD inf;simp [*])) M.ext)))
  replace h2 := Zac h2
  refine gR 2 rfl (Zbk rfl rfl (by omega) (by omega) (gR 2 rfl (Zkg rfl ‹_› (Zhe ‹_› (Zie ‹_›) (by omega)) ?_)))
  refine gR 3 rfl (Zan 37 rfl (fun h3 => ?_) (fun h3 => ?_))
  ·replace h3 := dqU h3
   exact gR 20 rfl (ZaM (gR 2 rfl (Zab rfl rfl rfl fun w M => vl_F hV hlt_i hx0.symm (by (unfold src1 finD inf;simp [*])) M.ext)))
  replace h3 := dqV h3
  refine gR 2 rfl (Zbk rfl rfl (by omega) (by omega) (gR 1 rfl (Zkg rfl ‹_› (Zhe ‹_› (Zno ‹_›) (by omega)) ?_)))
  refine Zad rfl rfl (fun w M => Zbd _ _) (gR 4 rfl (g_if rfl (fun h4 => ?_) (fun h4 => ?_)))
  ·replace h4 := Zaa h4
   exact gR 9 rfl (ZaM (gR 2 rfl (Zab rfl rfl rfl fun w M => vl_F hV hlt_i hx0.symm (by (unfold src1;simp [*];done)) M.ext)))
  replace h4 := Zac h4
  refine gR 2 rfl ?_
  by_cases hi0 : 0 < i
  ·obtain ⟨y, hy0⟩ : ∃ y, y = l[i - 1]'(by omega) := ⟨_, rfl⟩
   have yI : IsSr y := by rw [hy0];exact hx _ (List.getElem_mem _)
   have f2 : seg cs (o + ((i : Int) - 1).toNat * 38) 38 = some (srC y) := by rw [hy0];exact Za0 (Zgd hx) hs (show i - 1 < l.length by omega) (by omega)
   replace hy0 := hy0.symm
   have yd : IsDv y.to := yI.1
   refine gR 1 rfl (ZaG 17 64 rfl (by kernel_rfl) (fR 3 rfl (ZaX 48 rfl (dqT (by omega)) (fR 2 rfl (ZdR rfl rfl (Zax (by omega) (by omega)) (Zbb rfl rfl (by omega) (by omega) (fR 1 rfl (Zb1 rfl ‹_› (ZbP f2 (ZjF ‹_›) (by omega)) ?_))))))))
   refine fR 2 rfl (Zbb rfl rfl (by omega) (by omega) (fR 1 rfl (Zb1 rfl ‹_› (ZbP f1 (ZjF ‹_›) (by omega)) ?_)))
   refine ZaH rfl rfl (fun w M => Zbt _ _ ‹_› ‹_› _) ?_
   refine fR 2 rfl (Zap rfl rfl (gR 2 rfl (g_if rfl (fun h1 => ?_) (fun h1 => ?_))))
   ·replace h1 := dqU h1
    exact gR 8 rfl (ZaM (gR 2 rfl (Zab rfl rfl rfl fun w M => vl_S hV hlt_i hi0 hx0.symm hy0.symm (by unfold cmpS;omega) M.ext)))
   ·replace h1 := dqV h1
    refine gR 4 rfl (ZaK rfl rfl (Zax (by omega) (by omega)) (gR 2 rfl ?_))
    exact Zar (i + 1) ⟨by omega, vl_N hlt_i hx0.symm hv (by (unfold src1 finD inf;simp [*])) fun _ => by rw [hy0];exact (by unfold cmpS;omega)⟩ (by dsimp only;omega) (fun a F => F.only [9, 8, 7, 0] rfl) (sX 17179869183 rfl)
  ·refine gR 1 rfl ?_
   exact ZaG 17 64 rfl (by kernel_rfl) (fR 3 rfl (ZaX 48 rfl (dqF (by omega)) (fR 14 rfl (Zap rfl rfl (gR 7 rfl (ZaK rfl rfl (Zax (by omega) (by omega)) (gR 2 rfl (Zar (i + 1) ⟨by omega, vl_N hlt_i hx0.symm hv (by (unfold src1 finD inf;simp [*])) fun h => absurd h hi0⟩ (by dsimp only;omega) (fun a F => F.only [9, 8, 7, 0] rfl) (sX 17179869183 rfl)))))))))
 ·have hil : i = l.length := by omega
  rw [hil] at hv
  exact gR 6 rfl (Zav rfl (dqF (by omega)) (gR 2 rfl (ZaZ (gR 8 rfl (Zab rfl rfl rfl fun w M => vl_T hV (by omega) hv M.ext)))))
theorem ZjP (e : InsV) (he : IsIn e) (W : World) : Cal Tryz.prog 200 [.agg (inC e).toArray].toArray W fun v w' => v = .bool (ins1 e) ∧ Ext [] W w' := by
 have hd : IsDv e.to := he.1
 refine Zao (n := 49) (S := []) Zal Zak Tryz.func200 rfl rfl rfl ?_
 unfold ins1
 by_cases k : e.own.met = 65535
 ·have hvv : Zdp e.own.met = true := by rw [k];rfl
  have hf : finD e.own = false := by unfold finD inf;simp [k]
  refine gR 2 rfl (ZaA rfl rfl fun b1 => gR 7 rfl (Zah 0 rfl rfl (Zcy ‹_›) ?_))
  refine Zad rfl rfl (fun w M => Zbg _ ‹_› _) ?_
  refine gR 2 rfl (Zan 7 rfl (fun h1 => ?_) (fun h1 => ?_))
  ·replace h1 := Zaa h1
   refine gR 15 rfl (Zab rfl rfl rfl fun w M => ?_)
   exact ⟨by simp [*];done, M.ext⟩
  ·replace h1 := Zac h1
   refine gR 1 rfl (Zah 0 rfl rfl (ZiG ‹_›) ?_)
   refine Zad rfl rfl (fun w M => Zcv _ _) (gR 4 rfl (Zav rfl (notF ‹_›) ?_))
   refine gR 6 rfl (Zai 0 rfl rfl (ZgO ‹_›) ?_)
   refine gR 3 rfl (g_if rfl (fun h2 => ?_) (fun h2 => ?_))
   ·replace h2 := ZbE h2
    refine gR 4 rfl (Zai 0 rfl rfl (ZbC ‹_›) ?_)
    refine gR 2 rfl (ZaQ 20 rfl (bneF (by omega)) (gR 19 rfl (Zab rfl rfl rfl fun w M => ?_)))
    exact ⟨by simp [*];done, M.ext⟩
   ·replace h2 := ZaV h2
    refine gR 6 rfl (Zai 0 rfl rfl (ZbC ‹_›) ?_)
    refine gR 2 rfl (ZaQ 39 rfl (dqT (by omega)) (gR 1 rfl (Zai 0 rfl rfl (ZiH ‹_›) ?_)))
    refine gR 3 rfl (Zan 44 rfl (fun h3 => ?_) (fun h3 => ?_))
    ·replace h3 := dqU h3
     refine gR 1 rfl (Zai 0 rfl rfl (ZiF ‹_›) ?_)
     refine Zad rfl rfl (fun w M => Zbd _ _) (gR 5 rfl (Zab rfl rfl rfl fun w M => ?_))
     exact ⟨by unfold inf;simp [*];done, M.ext⟩
    ·replace h3 := dqV h3
     refine gR 8 rfl (Zab rfl rfl rfl fun w M => ?_)
     exact ⟨by simp [*];done, M.ext⟩
 ·have hf : finD e.own = Zdp e.own.met := by unfold finD inf;simp [k]
  refine gR 2 rfl (ZaA rfl rfl fun b1 => gR 7 rfl (Zah 0 rfl rfl (Zcy ‹_›) ?_))
  refine Zad rfl rfl (fun w M => Zbg _ ‹_› _) ?_
  refine gR 2 rfl (Zan 7 rfl (fun h1 => ?_) (fun h1 => ?_))
  ·replace h1 := Zaa h1
   refine gR 15 rfl (Zab rfl rfl rfl fun w M => ?_)
   exact ⟨by simp [*];done, M.ext⟩
  ·replace h1 := Zac h1
   refine gR 1 rfl (Zah 0 rfl rfl (ZiG ‹_›) ?_)
   refine Zad rfl rfl (fun w M => Zcv _ _) (gR 4 rfl (g_if rfl (fun h2 => ?_) (fun h2 => ?_)))
   ·replace h2 := Zaa h2
    refine gR 7 rfl (Zab rfl rfl rfl fun w M => ?_)
    exact ⟨by unfold inf;simp [*];done, M.ext⟩
   ·replace h2 := Zac h2
    refine gR 6 rfl (Zai 0 rfl rfl (ZgO ‹_›) ?_)
    refine gR 3 rfl (g_if rfl (fun h3 => ?_) (fun h3 => ?_))
    ·replace h3 := ZbE h3
     refine gR 4 rfl (Zai 0 rfl rfl (ZbC ‹_›) ?_)
     refine gR 2 rfl (ZaQ 20 rfl (bne_iff_ne.2 (by omega)) (gR 1 rfl (Zai 0 rfl rfl (ZiH ‹_›) ?_)))
     refine gR 2 rfl (Zan 24 rfl (fun h4 => ?_) (fun h4 => ?_))
     ·replace h4 := dqU h4
      refine gR 7 rfl (Zai 0 rfl rfl (ZiF ‹_›) ?_)
      refine gR 7 rfl (Zab rfl rfl rfl fun w M => ?_)
      exact ⟨by simp [*];rfl, M.ext⟩
     ·replace h4 := dqV h4
      refine gR 1 rfl (Zai 0 rfl rfl (ZiH ‹_›) ?_)
      refine Zad rfl rfl (fun w M => Zbd _ _) (gR 3 rfl (Zan 30 rfl (fun h5 => ?_) (fun h5 => ?_)))
      ·refine gR 1 rfl (Zai 0 rfl rfl (ZiF ‹_›) ?_)
       refine gR 7 rfl (Zab rfl rfl rfl fun w M => ?_)
       exact ⟨by simp [*];rfl, M.ext⟩
      ·refine gR 9 rfl (Zab rfl rfl rfl fun w M => ?_)
       exact ⟨by simp [*];done, M.ext⟩
    ·replace h3 := ZaV h3
     refine gR 6 rfl (Zai 0 rfl rfl (ZbC ‹_›) ?_)
     refine gR 2 rfl (ZaQ 39 rfl (dqF (by omega)) (gR 13 rfl (Zab rfl rfl rfl fun w M => ?_)))
     exact ⟨by unfold inf;simp [*];done, M.ext⟩
theorem Zhm (l : List InsV) (hx : ∀ x ∈ l, IsIn x) (v : Value) (W : World) (hS : SlAt W 40 v l.length (insC l)) :
  Cal Tryz.prog 115 [v].toArray W fun r w' => r = .bool (ZcJ l) ∧ Ext [] W w' := by
 obtain ⟨q, cap, rfl, _⟩ := id hS
 have hm := hS.memB [] (by simp)
 unfold ZcJ
 generalize hV : vldL 512 ins1 cmpN l = b0
 refine Zao (n := 38) (S := []) Zal Zak Tryz.func115 rfl rfl rfl ?_
 by_cases c0 : 512 < l.length
 ·refine gR 13 rfl ?_
  exact ZaE rfl (dqT (by omega)) (gR 7 rfl (Zab rfl rfl rfl fun w M => vl_L hV c0 M.ext))
 refine gR 13 rfl (Zav rfl (dqF (by omega)) (gR 11 rfl (Za1 (ι := Nat) ⟨fun (i : Nat) => l.length - i, fun (i : Nat) => i ≤ l.length ∧ (∀ j, j < i → vld1 ins1 cmpN l j = true), fun (i : Nat) => [(9, .int .i64 i), (8, .int .i64 l.length), (7, .slice q l.length cap), (0, .slice q l.length cap)], fun (i : Nat) => []⟩ 0 ⟨by omega, by omega⟩ (fun a F => F.only [9, 8, 7, 0] rfl) (sX 17179869183 rfl) ?_)))
 rintro i ⟨hi_i, hv⟩
 by_cases hlt_i : i < l.length
 ·obtain ⟨b, o, cs, t', fz, rfl, hb, hs⟩ := hm (by omega)
  obtain ⟨x, hx0⟩ : ∃ x, x = l[i] := ⟨_, rfl⟩
  have hxm : x ∈ l := by rw [hx0];exact List.getElem_mem hlt_i
  have hxi : IsIn x := hx _ hxm
  have f1 : seg cs (o + (i : Int).toNat * 40) 40 = some (inC x) := by rw [hx0];exact Za0 (Zb5 hx) hs hlt_i (by omega)
  replace hx0 := hx0.symm
  have xd : IsDv x.to := hxi.1
  by_cases hi0 : 0 < i
  ·obtain ⟨y, hy0⟩ : ∃ y, y = l[i - 1]'(by omega) := ⟨_, rfl⟩
   have yI : IsIn y := by rw [hy0];exact hx _ (List.getElem_mem _)
   have f2 : seg cs (o + ((i : Int) - 1).toNat * 40) 40 = some (inC y) := by rw [hy0];exact Za0 (Zb5 hx) hs (show i - 1 < l.length by omega) (by omega)
   replace hy0 := hy0.symm
   have yd : IsDv y.to := yI.1
   refine gR 6 rfl (ZaE rfl (dqT (by omega)) (gR 11 rfl (ZaG 25 38 rfl (by kernel_rfl) (fR 2 rfl (Zbb rfl rfl (by omega) (by omega) (Zb1 rfl ‹_› (by with_reducible assumption) ?_))))))
   refine ZaH rfl rfl (fun w M => ZjP _ ‹_› _) ?_
   refine fR 2 rfl (ZbQ 18 rfl (fun h1 => ?_) (fun h1 => ?_))
   ·replace h1 := Zaa h1
    exact fR 18 rfl (Zap rfl rfl (gR 11 rfl (ZaM (gR 2 rfl (Zab rfl rfl rfl fun w M => vl_F hV hlt_i hx0.symm ‹_› M.ext)))))
   ·replace h1 := Zac h1
    refine fR 3 rfl (ZaX 21 rfl (dqT (by omega)) (fR 2 rfl (ZdR rfl rfl (Zax (by omega) (by omega)) (Zbb rfl rfl (by omega) (by omega) (fR 1 rfl (Zb1 rfl ‹_› (ZbP f2 (Zcy ‹_›) (by omega)) ?_))))))
    refine fR 2 rfl (Zbb rfl rfl (by omega) (by omega) (fR 1 rfl (Zb1 rfl ‹_› (ZbP f1 (Zcy ‹_›) (by omega)) ?_)))
    refine ZaH rfl rfl (fun w M => Zbt _ _ ‹_› ‹_› _) ?_
    refine fR 3 rfl (Zap rfl rfl (gR 2 rfl (g_if rfl (fun h2 => ?_) (fun h2 => ?_))))
    ·replace h2 := dqU h2
     exact gR 8 rfl (ZaM (gR 2 rfl (Zab rfl rfl rfl fun w M => vl_S hV hlt_i hi0 hx0.symm hy0.symm (by unfold cmpN;omega) M.ext)))
    ·replace h2 := dqV h2
     refine gR 4 rfl (ZaK rfl rfl (Zax (by omega) (by omega)) (gR 2 rfl ?_))
     exact Zar (i + 1) ⟨by omega, vl_N hlt_i hx0.symm hv ‹_› fun _ => by rw [hy0];exact (by unfold cmpN;omega)⟩ (by dsimp only;omega) (fun a F => F.only [9, 8, 7, 0] rfl) (sX 17179869183 rfl)
  ·refine gR 6 rfl ?_
   refine ZaE rfl (dqT (by omega)) (gR 11 rfl (ZaG 25 38 rfl (by kernel_rfl) (fR 2 rfl (Zbb rfl rfl (by omega) (by omega) (Zb1 rfl ‹_› (by with_reducible assumption) ?_)))))
   refine ZaH rfl rfl (fun w M => ZjP _ ‹_› _) ?_
   refine fR 2 rfl (ZbQ 18 rfl (fun h1 => ?_) (fun h1 => ?_))
   ·replace h1 := Zaa h1
    exact fR 18 rfl (Zap rfl rfl (gR 11 rfl (ZaM (gR 2 rfl (Zab rfl rfl rfl fun w M => vl_F hV hlt_i hx0.symm ‹_› M.ext)))))
   ·replace h1 := Zac h1
    exact fR 3 rfl (ZaX 21 rfl (dqF (by omega)) (fR 15 rfl (Zap rfl rfl (gR 7 rfl (ZaK rfl rfl (Zax (by omega) (by omega)) (gR 2 rfl (Zar (i + 1) ⟨by omega, vl_N hlt_i hx0.symm hv ‹_› fun h => absurd h hi0⟩ (by dsimp only;omega) (fun a F => F.only [9, 8, 7, 0] rfl) (sX 17179869183 rfl))))))))
 ·have hil : i = l.length := by omega
  rw [hil] at hv
  exact gR 6 rfl (Zav rfl (dqF (by omega)) (gR 2 rfl (ZaZ (gR 8 rfl (Zab rfl rfl rfl fun w M => vl_T hV (by omega) hv M.ext)))))
end Go.Proofs.YtfhkmgcalcfibaaGreat
namespace Go.Proofs.YtfhkmgcalcfibaaGreat
open Go.RowKit
section
variable {c : Cx} {Q : Exit → Act → World → Prop} {ks : List KF} {fr : List (Nat × Value)} {l : Row} {d : Nat} {ty : TypeId} {pos : String} {af : Array Edge} {g : Option (Nat × Bool)} {aa : Array Oper} {rest : List Oper}
theorem ZqB {fn : Fn} {xs ys : List Operand} {vs us : List Value} (h1 : evL fr xs = some vs) (h2 : evL fr ys = some us) (hk : G c Q ks (.ops aa rest) ((d, .func fn vs.toArray us.toArray) :: fr) l) (hd : Nat.blt d c.n = true := by rfl) (hg : gOk aa fr g = some true := by rfl) :
  G c Q ks (.ops aa (⟨some d, .makeFunc fn xs.toArray ys.toArray, ty, pos, af, g⟩ :: rest)) fr l := g_v (fun a w F M R r => Zgk (F.evs h1) (F.evs h2) r) hk rfl hd hg
theorem ZgZ {v : Value} {y : Operand} {fn : FuncId} {ys : List Operand} {ts : Array TypeId} {vs us : List Value} [hb : ZaD c.P fn] (hx : Ev fr y = some (.func (.func fn) #[] us.toArray)) (ha : evL fr ys = some vs)
  (hc : ∀ w, Mem c.S c.W w l.flatten → Cal c.P fn (vs ++ us).toArray w fun u w' => u = v ∧ Ext [] w w')
  (hk : G c Q ks (.ops aa rest) ((d, v) :: fr) l) (hd : Nat.blt d c.n = true := by rfl) (hg : gOk aa fr g = some true := by rfl) : G c Q ks (.ops aa (⟨some d, .call ⟨.value y, ys.toArray, ts⟩, ty, pos, af, g⟩ :: rest)) fr l :=
 g_op rfl hd hg fun a w F M => Zi8 (us := (vs ++ us).toArray) (F.e hx) (F.evs ha) (by simp) (Cal.mono (hc w M) fun u w' h a' F' => by
  obtain ⟨rfl, E⟩ := h
  exact hk a' w' F' (M.later E))
end
attribute [local irreducible] OpTo wpListIn Code.wpIn MW Cal
structure RtV where
 self : Int
 seq : Int
 raised : Int
 quiet : Int
 hello : Int
 nextH : Int
 full : Int
 og : List OrgV
 aj : List AdjV
 sr : List SrcV
 ro : List RouV
 ins : List InsV
 rq : List ReqV
 av : List AdvV
structure RtX where
 og : Value
 aj : Value
 sr : Value
 ro : Value
 ins : Value
 rq : Value
 av : Value
def rtC (s : RtV) (x : RtX) : List Value := [.int .u64 s.self, .int .u16 s.seq, .int .i64 s.raised, .int .i64 s.quiet, .int .u16 s.hello, .int .i64 s.nextH, x.og, x.aj, x.sr, x.ro, x.ins, x.rq, x.av, .int .i64 s.full]
structure RtAt (W : World) (s : RtV) (x : RtX) : Prop where
 og : SlAt W 34 x.og s.og.length (ogsC s.og)
 aj : SlAt W 8 x.aj s.aj.length (ajsC s.aj)
 sr : SlAt W 38 x.sr s.sr.length (srsC s.sr)
 ro : SlAt W 39 x.ro s.ro.length (rosC s.ro)
 ins : SlAt W 40 x.ins s.ins.length (insC s.ins)
 rq : SlAt W 40 x.rq s.rq.length (rqsC s.rq)
 av : SlAt W 37 x.av s.av.length (avsC s.av)
structure IsRt (s : RtV) : Prop where
 og : ∀ x ∈ s.og, IsOg x
 aj : ∀ x ∈ s.aj, IsAj x
 sr : ∀ x ∈ s.sr, IsSr x
 ro : ∀ x ∈ s.ro, IsRo x
 ins : ∀ x ∈ s.ins, IsIn x
 rq : ∀ x ∈ s.rq, IsRq x
 av : ∀ x ∈ s.av, IsAv x
 q : ∀ x ∈ s.aj, BdQu x.q
theorem RtAt.later {W w : World} {s : RtV} {x : RtX} (h : RtAt W s x) (E : Ext [] W w) : RtAt w s x := ⟨h.og.later E, h.aj.later E, h.sr.later E, h.ro.later E, h.ins.later E, h.rq.later E, h.av.later E⟩
def ZaR (s : RtV) : Bool := !decide (s.self = 0) && Za5 s.raised && Za5 s.quiet && Za5 s.nextH && Zec s.self s.og && ZfB s.self s.aj && ZdB s.sr && Zdh s.ro && ZcJ s.ins && Zdu s.rq && (Zee s.av && Za5 s.full) && !(s.ro.any fun x => decide (x.to.rt = s.self)) && !(s.ins.any fun x => decide (x.to.rt = s.self))
theorem Zqz {α : Type} {p : α → Bool} {l : List α} {i : Nat} (h : i < l.length) (hno : ∀ j (hj : j < i) (hj2 : j < l.length), p l[j] = false) (hp : p l[i] = false) : ∀ j (hj : j < i + 1) (hj2 : j < l.length), p l[j] = false := fun j hj hj2 => by
 rcases Nat.lt_or_ge j i with h1 | h1
 ·exact hno j h1 hj2
 ·obtain rfl : j = i := by omega
  exact hp
theorem Zki {α : Type} (p : α → Bool) (l : List α) : decide (0 ≤ Zfg p l) = l.any p := by
 unfold Zfg
 cases h : l.findIdx? p with
 | none =>
  rw [List.findIdx?_eq_none_iff] at h
  rw [List.any_eq_false.2 (fun x hx => by rw [h x hx];simp)]
  rfl
 | some i =>
  obtain ⟨hi, h1, _⟩ := List.findIdx?_eq_some_iff_getElem.1 h
  rw [List.any_eq_true.2 ⟨l[i], List.getElem_mem hi, h1⟩]
  simp
theorem Zon (l : List RouV) (hx : ∀ x ∈ l, IsRo x) (v : Value) (W : World) (hS : SlAt W 39 v l.length (rosC l)) (hlen : l.length ≤ 1000) (g : FuncId) [hg : ZaD Tryz.prog g] (caps : List Value) (p : RouV → Bool)
  (hcl : ∀ w x, Ext [] W w → x ∈ l → Cal Tryz.prog g ([Value.agg (roC x).toArray] ++ caps).toArray w fun v w' => v = .bool (p x) ∧ Ext [] w w') :
  Cal Tryz.prog 197 [v, .func (.func g) #[] caps.toArray].toArray W fun x w' => x = .int .i64 (Zfg p l) ∧ Ext [] W w' := by
 obtain ⟨q, cap, rfl, _⟩ := id hS
 have hm := hS.memB [] (by simp)
 refine Zao (n := 19) (S := []) Zal Zak Tryz.func197 rfl rfl rfl (gR 14 rfl (Za1 (ι := Nat) ⟨fun (i : Nat) => l.length - i, fun (i : Nat) => i ≤ l.length ∧ (∀ j (hj : j < i) (hj2 : j < l.length), p l[j] = false), fun (i : Nat) => [(8, .int .i64 i), (7, .int .i64 l.length), (0, .slice q l.length cap), (1, .func (.func g) #[] caps.toArray)], fun (i : Nat) => []⟩ 0 ⟨by omega, by omega⟩ (fun a F => F.only [8, 7, 0, 1] rfl) (sX 17179869183 rfl) ?_))
 rintro i ⟨hi_i, hno⟩
 by_cases hlt_i : i < l.length
 ·obtain ⟨b, o, cs, t', fz, rfl, hb, hs⟩ := hm (by omega)
  obtain ⟨x, hx0⟩ : ∃ x, x = l[i] := ⟨_, rfl⟩
  have hxm : x ∈ l := by rw [hx0];exact List.getElem_mem hlt_i
  have hxi : IsRo x := hx _ hxm
  have f1 : seg cs (o + (i : Int).toNat * 39) 39 = some (roC x) := by rw [hx0];exact Za0 (Zeg hx) hs hlt_i (by omega)
  have hx0s := hx0.symm
  refine gR 6 rfl (ZaE rfl (dqT (by omega)) (gR 15 rfl (Zbk rfl rfl (by omega) (by omega) (ZbF rfl ‹_› (by with_reducible assumption) ?_))))
  refine ZgZ (v := .bool (p x)) rfl rfl (fun w M => hcl w x M.ext hxm) ?_
  cases hp : p x
  ·refine gR 7 rfl ?_
   exact ZaK rfl rfl (Zax (by omega) (by omega)) (gR 2 rfl (Zar (i + 1) ⟨by omega, Zqz hlt_i hno (hx0s ▸ hp)⟩ (by dsimp only;omega) (fun a F => F.only [8, 7, 0, 1] rfl) (sX 17179869183 rfl)))
  ·refine gR 12 rfl ?_
   exact ZaM (gR 2 rfl (Zab rfl rfl rfl fun w M => ⟨by rw [Zjj hlt_i (hx0s ▸ hp) fun j hj => hno j hj (by omega)], M.ext⟩))
 ·obtain rfl : i = l.length := by omega
  exact gR 6 rfl (Zav rfl (dqF (by omega)) (gR 2 rfl (ZaZ (gR 8 rfl (Zab rfl rfl rfl fun w M => ⟨by rw [Zgt fun j hj => hno j hj hj], M.ext⟩)))))
theorem Zuf (l : List RouV) (hx : ∀ x ∈ l, IsRo x) (v : Value) (W : World) (hS : SlAt W 39 v l.length (rosC l)) (hlen : l.length ≤ 1000) (g : FuncId) [hg : ZaD Tryz.prog g] (caps : List Value) (p : RouV → Bool)
  (hcl : ∀ w x, Ext [] W w → x ∈ l → Cal Tryz.prog g ([Value.agg (roC x).toArray] ++ caps).toArray w fun v w' => v = .bool (p x) ∧ Ext [] w w') :
  Cal Tryz.prog 108 [v, .func (.func g) #[] caps.toArray].toArray W fun x w' => x = .bool (l.any p) ∧ Ext [] W w' := by
 exact Zao (n := 9) (S := []) Zal Zak Tryz.func108 rfl rfl rfl (gR 9 rfl (Zad (v := .int .i64 (Zfg p l)) rfl rfl (fun w M => Zon l hx v w (hS.later M.ext) hlen g caps p fun w' x E hxl => hcl w' x (M.ext.trans E) hxl) (gR 5 rfl (Zab rfl rfl rfl fun w M => ⟨congrArg Value.bool (Zki p l), M.ext⟩))))
theorem Zoq (l : List InsV) (hx : ∀ x ∈ l, IsIn x) (v : Value) (W : World) (hS : SlAt W 40 v l.length (insC l)) (hlen : l.length ≤ 1000) (g : FuncId) [hg : ZaD Tryz.prog g] (caps : List Value) (p : InsV → Bool)
  (hcl : ∀ w x, Ext [] W w → x ∈ l → Cal Tryz.prog g ([Value.agg (inC x).toArray] ++ caps).toArray w fun v w' => v = .bool (p x) ∧ Ext [] w w') :
  Cal Tryz.prog 198 [v, .func (.func g) #[] caps.toArray].toArray W fun x w' => x = .int .i64 (Zfg p l) ∧ Ext [] W w' := by
 obtain ⟨q, cap, rfl, _⟩ := id hS
 have hm := hS.memB [] (by simp)
 refine Zao (n := 19) (S := []) Zal Zak Tryz.func198 rfl rfl rfl (gR 14 rfl (Za1 (ι := Nat) ⟨fun (i : Nat) => l.length - i, fun (i : Nat) => i ≤ l.length ∧ (∀ j (hj : j < i) (hj2 : j < l.length), p l[j] = false), fun (i : Nat) => [(8, .int .i64 i), (7, .int .i64 l.length), (0, .slice q l.length cap), (1, .func (.func g) #[] caps.toArray)], fun (i : Nat) => []⟩ 0 ⟨by omega, by omega⟩ (fun a F => F.only [8, 7, 0, 1] rfl) (sX 17179869183 rfl) ?_))
 rintro i ⟨hi_i, hno⟩
 by_cases hlt_i : i < l.length
 ·obtain ⟨b, o, cs, t', fz, rfl, hb, hs⟩ := hm (by omega)
  obtain ⟨x, hx0⟩ : ∃ x, x = l[i] := ⟨_, rfl⟩
  have hxm : x ∈ l := by rw [hx0];exact List.getElem_mem hlt_i
  have hxi : IsIn x := hx _ hxm
  have f1 : seg cs (o + (i : Int).toNat * 40) 40 = some (inC x) := by rw [hx0];exact Za0 (Zb5 hx) hs hlt_i (by omega)
  have hx0s := hx0.symm
  refine gR 6 rfl (ZaE rfl (dqT (by omega)) (gR 15 rfl (Zbk rfl rfl (by omega) (by omega) (ZbF rfl ‹_› (by with_reducible assumption) ?_))))
  refine ZgZ (v := .bool (p x)) rfl rfl (fun w M => hcl w x M.ext hxm) ?_
  cases hp : p x
  ·refine gR 7 rfl ?_
   exact ZaK rfl rfl (Zax (by omega) (by omega)) (gR 2 rfl (Zar (i + 1) ⟨by omega, Zqz hlt_i hno (hx0s ▸ hp)⟩ (by dsimp only;omega) (fun a F => F.only [8, 7, 0, 1] rfl) (sX 17179869183 rfl)))
  ·refine gR 12 rfl ?_
   exact ZaM (gR 2 rfl (Zab rfl rfl rfl fun w M => ⟨by rw [Zjj hlt_i (hx0s ▸ hp) fun j hj => hno j hj (by omega)], M.ext⟩))
 ·obtain rfl : i = l.length := by omega
  exact gR 6 rfl (Zav rfl (dqF (by omega)) (gR 2 rfl (ZaZ (gR 8 rfl (Zab rfl rfl rfl fun w M => ⟨by rw [Zgt fun j hj => hno j hj hj], M.ext⟩)))))
theorem ZrA (l : List InsV) (hx : ∀ x ∈ l, IsIn x) (v : Value) (W : World) (hS : SlAt W 40 v l.length (insC l)) (hlen : l.length ≤ 1000) (g : FuncId) [hg : ZaD Tryz.prog g] (caps : List Value) (p : InsV → Bool)
  (hcl : ∀ w x, Ext [] W w → x ∈ l → Cal Tryz.prog g ([Value.agg (inC x).toArray] ++ caps).toArray w fun v w' => v = .bool (p x) ∧ Ext [] w w') :
  Cal Tryz.prog 110 [v, .func (.func g) #[] caps.toArray].toArray W fun x w' => x = .bool (l.any p) ∧ Ext [] W w' := by
 exact Zao (n := 9) (S := []) Zal Zak Tryz.func110 rfl rfl rfl (gR 9 rfl (Zad (v := .int .i64 (Zfg p l)) rfl rfl (fun w M => Zoq l hx v w (hS.later M.ext) hlen g caps p fun w' x E hxl => hcl w' x (M.ext.trans E) hxl) (gR 5 rfl (Zab rfl rfl rfl fun w M => ⟨congrArg Value.bool (Zki p l), M.ext⟩))))
end Go.Proofs.YtfhkmgcalcfibaaGreat
namespace Go.Proofs.YtfhkmgcalcfibaaGreat
open Go.ChangeShapes Go.WideShapes Go.ChangeAt Go.RowKit
theorem Znf {v : Value} (h : wfV .b v = true) : ∃ b, v = .bool b := by
 cases v <;> simp [wfV] at h ⊢
section
variable {H : Type} {enc : TypeId × Value → H} {w : World} {base : Nat} {sp : Nat → Bool} {held : Bool}
set_option maxRecDepth 100000 in
theorem Zt4 (n : Nat) (cs : List Value) (y : DataW H × List MemPlace) (h : DataW.trod enc Tryz.prog w base sp held n 85 cs = some y) : ∃ x : OrgV, IsOg x ∧ cs = ogC x := by
 have hw := Zcf 8 85 (List.replicate 16 (.i .u8) ++ (.i .i64 :: (List.replicate 16 (.i .u8) ++ [.i .i64]))) (by kernel_rfl) n cs y h (.inl (by kernel_rfl))
 obtain ⟨c0, c1, rfl, h1, h2⟩ := ZbD hw
 obtain ⟨a1, rfl, hl1, hb1⟩ := Zfe c0 16 h1
 obtain ⟨x1, c2, rfl, g1, h3⟩ := ZaL h2
 obtain ⟨c3, c4, rfl, h4, h5⟩ := ZbD (ks := List.replicate 16 (LK.i .u8)) (ks' := [LK.i .i64]) h3
 obtain ⟨a2, rfl, hl2, hb2⟩ := Zfe c3 16 h4
 obtain ⟨x2, c5, rfl, g2, h6⟩ := ZaL h5
 obtain rfl := ZeC h6
 obtain ⟨n1, rfl, _, _⟩ := ZaT g1
 obtain ⟨n2, rfl, _, _⟩ := ZaT g2
 exact ⟨⟨a1, n1, a2, n2⟩, ⟨⟨hl1, hb1⟩, ⟨hl2, hb2⟩⟩, by simp [ogC, pfC]⟩
set_option maxRecDepth 100000 in
theorem Zt8 (n : Nat) (cs : List Value) (y : DataW H × List MemPlace) (h : DataW.trod enc Tryz.prog w base sp held n 124 cs = some y) : ∃ x : AdjV, (IsAj x ∧ BdQu x.q) ∧ cs = ajC x := by
 have hw := Zcf 8 124 [.i .u64, .b, .i .u8, .i .i64, .i .u16, .i .i64, .i .i64, .i .i64] (by kernel_rfl) n cs y h (.inl (by kernel_rfl))
 obtain ⟨y0, d0, rfl, k0, r0⟩ := ZaL hw
 obtain ⟨m0, rfl, p0, q0⟩ := ZaT k0
 obtain ⟨y1, d1, rfl, k1, r1⟩ := ZaL r0
 obtain ⟨m1, rfl⟩ := Znf k1
 obtain ⟨y2, d2, rfl, k2, r2⟩ := ZaL r1
 obtain ⟨m2, rfl, p2, q2⟩ := ZaT k2
 obtain ⟨y3, d3, rfl, k3, r3⟩ := ZaL r2
 obtain ⟨m3, rfl, p3, q3⟩ := ZaT k3
 obtain ⟨y4, d4, rfl, k4, r4⟩ := ZaL r3
 obtain ⟨m4, rfl, p4, q4⟩ := ZaT k4
 obtain ⟨y5, d5, rfl, k5, r5⟩ := ZaL r4
 obtain ⟨m5, rfl, p5, q5⟩ := ZaT k5
 obtain ⟨y6, d6, rfl, k6, r6⟩ := ZaL r5
 obtain ⟨m6, rfl, p6, q6⟩ := ZaT k6
 obtain ⟨y7, d7, rfl, k7, r7⟩ := ZaL r6
 obtain ⟨m7, rfl, p7, q7⟩ := ZaT k7
 obtain rfl := ZeC r7
 simp only [loK, hiK] at p2 q2 p3 q3 p5 q5
 exact ⟨⟨m0, ⟨m1, m2, m3, m4, m5⟩, m6, m7⟩, ⟨trivial, ⟨⟨p2, by dsimp only;omega⟩, ⟨p3, q3⟩, ⟨p5, q5⟩⟩⟩, rfl⟩
set_option maxRecDepth 100000 in
theorem Zt2 (n : Nat) (cs : List Value) (y : DataW H × List MemPlace) (h : DataW.trod enc Tryz.prog w base sp held n 171 cs = some y) : ∃ x : ReqV, IsRq x ∧ cs = rqC x := by
 have hw := Zcf 8 171 (List.replicate 16 (.i .u8) ++ (.i .i64 :: (List.replicate 16 (.i .u8) ++ [.i .i64, .i .u64, .i .u16, .i .i64, .i .u64, .i .i64, .i .i64]))) (by kernel_rfl) n cs y h (.inl (by kernel_rfl))
 obtain ⟨c0, c1, rfl, h1, h2⟩ := ZbD hw
 obtain ⟨a1, rfl, hl1, hb1⟩ := Zfe c0 16 h1
 obtain ⟨x1, c2, rfl, g1, h3⟩ := ZaL h2
 obtain ⟨c3, c4, rfl, h4, h5⟩ := ZbD (ks := List.replicate 16 (LK.i .u8)) (ks' := [LK.i .i64, .i .u64, .i .u16, .i .i64, .i .u64, .i .i64, .i .i64]) h3
 obtain ⟨a2, rfl, hl2, hb2⟩ := Zfe c3 16 h4
 obtain ⟨n1, rfl, _, _⟩ := ZaT g1
 obtain ⟨y0, d0, rfl, k0, r0⟩ := ZaL h5
 obtain ⟨m0, rfl, _, _⟩ := ZaT k0
 obtain ⟨y1, d1, rfl, k1, r1⟩ := ZaL r0
 obtain ⟨m1, rfl, _, _⟩ := ZaT k1
 obtain ⟨y2, d2, rfl, k2, r2⟩ := ZaL r1
 obtain ⟨m2, rfl, _, _⟩ := ZaT k2
 obtain ⟨y3, d3, rfl, k3, r3⟩ := ZaL r2
 obtain ⟨m3, rfl, _, _⟩ := ZaT k3
 obtain ⟨y4, d4, rfl, k4, r4⟩ := ZaL r3
 obtain ⟨m4, rfl, _, _⟩ := ZaT k4
 obtain ⟨y5, d5, rfl, k5, r5⟩ := ZaL r4
 obtain ⟨m5, rfl, _, _⟩ := ZaT k5
 obtain ⟨y6, d6, rfl, k6, r6⟩ := ZaL r5
 obtain ⟨m6, rfl, _, _⟩ := ZaT k6
 obtain rfl := ZeC r6
 exact ⟨⟨⟨a1, n1, a2, m0, m1⟩, m2, m3, m4, m5, m6⟩, ⟨⟨hl1, hb1⟩, ⟨hl2, hb2⟩⟩, by simp [rqC, dvC, pfC]⟩
set_option maxRecDepth 100000 in
theorem Zt1 (n : Nat) (cs : List Value) (y : DataW H × List MemPlace) (h : DataW.trod enc Tryz.prog w base sp held n 53 cs = some y) : ∃ (s : RtV) (x : RtX), IsRt s ∧ RtAt w s x ∧ cs = rtC s x := by
 obtain ⟨xs, m, rfl, _, hl, hn, hat⟩ := DataW.trod_struct Tryz.underlying53 h
 have hc : Tryz.prog.cellsOf 53 = 14 := by kernel_rfl
 rw [hc] at hl
 have hxl : xs.length = 13 := hn
 have a0 : DataW.trod enc Tryz.prog w base sp held m 41 ((cs.drop 0).take (Tryz.prog.cellsOf 41)) = xs[0]? := hat 0 _ rfl
 rw [List.getElem?_eq_getElem (by omega), show Tryz.prog.cellsOf 41 = 1 from by kernel_rfl] at a0
 obtain ⟨n0, e0, _, _⟩ := DataW.trod_int Tryz.underlying41 a0
 have a1 : DataW.trod enc Tryz.prog w base sp held m 42 ((cs.drop 1).take (Tryz.prog.cellsOf 42)) = xs[1]? := hat 1 _ rfl
 rw [List.getElem?_eq_getElem (by omega), show Tryz.prog.cellsOf 42 = 1 from by kernel_rfl] at a1
 obtain ⟨n1, e1, _, _⟩ := DataW.trod_int Tryz.underlying42 a1
 have a2 : DataW.trod enc Tryz.prog w base sp held m 3 ((cs.drop 2).take (Tryz.prog.cellsOf 3)) = xs[2]? := hat 2 _ rfl
 rw [List.getElem?_eq_getElem (by omega), show Tryz.prog.cellsOf 3 = 1 from by kernel_rfl] at a2
 obtain ⟨n2, e2, _, _⟩ := DataW.trod_int Tryz.underlying3 a2
 have a3 : DataW.trod enc Tryz.prog w base sp held m 3 ((cs.drop 3).take (Tryz.prog.cellsOf 3)) = xs[3]? := hat 3 _ rfl
 rw [List.getElem?_eq_getElem (by omega), show Tryz.prog.cellsOf 3 = 1 from by kernel_rfl] at a3
 obtain ⟨n3, e3, _, _⟩ := DataW.trod_int Tryz.underlying3 a3
 have a4 : DataW.trod enc Tryz.prog w base sp held m 42 ((cs.drop 4).take (Tryz.prog.cellsOf 42)) = xs[4]? := hat 4 _ rfl
 rw [List.getElem?_eq_getElem (by omega), show Tryz.prog.cellsOf 42 = 1 from by kernel_rfl] at a4
 obtain ⟨n4, e4, _, _⟩ := DataW.trod_int Tryz.underlying42 a4
 have a5 : DataW.trod enc Tryz.prog w base sp held m 3 ((cs.drop 5).take (Tryz.prog.cellsOf 3)) = xs[5]? := hat 5 _ rfl
 rw [List.getElem?_eq_getElem (by omega), show Tryz.prog.cellsOf 3 = 1 from by kernel_rfl] at a5
 obtain ⟨n5, e5, _, _⟩ := DataW.trod_int Tryz.underlying3 a5
 have a6 : DataW.trod enc Tryz.prog w base sp held m 43 ((cs.drop 6).take (Tryz.prog.cellsOf 43)) = xs[6]? := hat 6 _ rfl
 rw [List.getElem?_eq_getElem (by omega), show Tryz.prog.cellsOf 43 = 1 from by kernel_rfl] at a6
 obtain ⟨u6, l6, e6, i6, S6, _⟩ := Zej (sz := 34) Tryz.underlying43 (by kernel_rfl) (by omega) Zt4 a6
 have a7 : DataW.trod enc Tryz.prog w base sp held m 44 ((cs.drop 7).take (Tryz.prog.cellsOf 44)) = xs[7]? := hat 7 _ rfl
 rw [List.getElem?_eq_getElem (by omega), show Tryz.prog.cellsOf 44 = 1 from by kernel_rfl] at a7
 obtain ⟨u7, l7, e7, i7, S7, _⟩ := Zej (sz := 8) Tryz.underlying44 (by kernel_rfl) (by omega) Zt8 a7
 have a8 : DataW.trod enc Tryz.prog w base sp held m 45 ((cs.drop 8).take (Tryz.prog.cellsOf 45)) = xs[8]? := hat 8 _ rfl
 rw [List.getElem?_eq_getElem (by omega), show Tryz.prog.cellsOf 45 = 1 from by kernel_rfl] at a8
 obtain ⟨u8, l8, e8, i8, S8, _⟩ := Zej (sz := 38) Tryz.underlying45 (by kernel_rfl) (by omega) Zt0 a8
 have a9 : DataW.trod enc Tryz.prog w base sp held m 46 ((cs.drop 9).take (Tryz.prog.cellsOf 46)) = xs[9]? := hat 9 _ rfl
 rw [List.getElem?_eq_getElem (by omega), show Tryz.prog.cellsOf 46 = 1 from by kernel_rfl] at a9
 obtain ⟨u9, l9, e9, i9, S9, _⟩ := Zej (sz := 39) Tryz.underlying46 (by kernel_rfl) (by omega) Zt3 a9
 have a10 : DataW.trod enc Tryz.prog w base sp held m 47 ((cs.drop 10).take (Tryz.prog.cellsOf 47)) = xs[10]? := hat 10 _ rfl
 rw [List.getElem?_eq_getElem (by omega), show Tryz.prog.cellsOf 47 = 1 from by kernel_rfl] at a10
 obtain ⟨u10, l10, e10, i10, S10, _⟩ := Zej (sz := 40) Tryz.underlying47 (by kernel_rfl) (by omega) Zt5 a10
 have a11 : DataW.trod enc Tryz.prog w base sp held m 48 ((cs.drop 11).take (Tryz.prog.cellsOf 48)) = xs[11]? := hat 11 _ rfl
 rw [List.getElem?_eq_getElem (by omega), show Tryz.prog.cellsOf 48 = 1 from by kernel_rfl] at a11
 obtain ⟨u11, l11, e11, i11, S11, _⟩ := Zej (sz := 40) Tryz.underlying48 (by kernel_rfl) (by omega) Zt2 a11
 have a12 : DataW.trod enc Tryz.prog w base sp held m 51 ((cs.drop 12).take (Tryz.prog.cellsOf 51)) = xs[12]? := hat 12 _ rfl
 rw [List.getElem?_eq_getElem (by omega), show Tryz.prog.cellsOf 51 = 2 from by kernel_rfl] at a12
 obtain ⟨u12, l12, n12, i12, S12, e12⟩ := ZqN _ _ _ a12
 refine ⟨⟨n0, n1, n2, n3, n4, n5, n12, l6, l7, l8, l9, l10, l11, l12⟩, ⟨u6, u7, u8, u9, u10, u11, u12⟩, ⟨i6, fun x hx => (i7 x hx).1, i8, i9, i10, i11, i12, fun x hx => (i7 x hx).2⟩, ⟨S6, S7, S8, S9, S10, S11, S12⟩, ?_⟩
 match cs, hl, e0, e1, e2, e3, e4, e5, e6, e7, e8, e9, e10, e11, e12 with
 | [c0, c1, c2, c3, c4, c5, c6, c7, c8, c9, c10, c11, c12, c13], _, e0, e1, e2, e3, e4, e5, e6, e7, e8, e9, e10, e11, e12 =>
  simp only [List.drop_zero, List.take_succ_cons, List.take_zero, List.drop_succ_cons, List.cons.injEq, and_true, plC] at e0 e1 e2 e3 e4 e5 e6 e7 e8 e9 e10 e11 e12
  obtain ⟨e12, e13⟩ := e12
  rw [e0, e1, e2, e3, e4, e5, e6, e7, e8, e9, e10, e11, e12, e13]
  rfl
end
section
variable {H : Type} {enc : TypeId × Value → H} {w : World} {r : Reach} {b0 base : Nat} {sp : Nat → Bool} {held : Bool} {v : Value} {d : DataW H} {p : List MemPlace}
set_option maxRecDepth 100000 in
theorem Zr1 (hval : Value.okWide Tryz.prog w r b0 53 v) (h : DataW.Trod enc Tryz.prog w base sp held 53 v d p) : ∃ (s : RtV) (x : RtX), IsRt s ∧ RtAt w s x ∧ v = .agg (rtC s x).toArray := by
 obtain ⟨cs, rfl⟩ := ZrD (by kernel_rfl) hval
 obtain ⟨fuel, hf⟩ := h
 obtain ⟨s, x, h1, h2, h3⟩ := Zt1 fuel _ _ hf
 exact ⟨s, x, h1, h2, by rw [← h3];simp [Value.cells]⟩
end
end Go.Proofs.YtfhkmgcalcfibaaGreat
namespace Go.Proofs.YtfhkmgcalcfibaaGreat
open Go.RowKit
attribute [local irreducible] OpTo wpListIn Code.wpIn MW Cal
theorem rtF0 {s : RtV} (h : s.self = 0) : Value.bool false = .bool (ZaR s) := by unfold ZaR;simp [h]
theorem rtF1 {s : RtV} (h : Za5 s.raised = false) : Value.bool false = .bool (ZaR s) := by unfold ZaR;simp [h]
theorem rtF2 {s : RtV} (h : Za5 s.quiet = false) : Value.bool false = .bool (ZaR s) := by unfold ZaR;simp [h]
theorem rtF3 {s : RtV} (h : Za5 s.nextH = false) : Value.bool false = .bool (ZaR s) := by unfold ZaR;simp [h]
theorem rtF4 {s : RtV} (h : Zec s.self s.og = false) : Value.bool false = .bool (ZaR s) := by unfold ZaR;simp [h]
theorem rtF5 {s : RtV} (h : ZfB s.self s.aj = false) : Value.bool false = .bool (ZaR s) := by unfold ZaR;simp [h]
theorem rtF6 {s : RtV} (h : ZdB s.sr = false) : Value.bool false = .bool (ZaR s) := by unfold ZaR;simp [h]
theorem rtF7 {s : RtV} (h : Zdh s.ro = false) : Value.bool false = .bool (ZaR s) := by unfold ZaR;simp [h]
theorem rtF8 {s : RtV} (h : ZcJ s.ins = false) : Value.bool false = .bool (ZaR s) := by unfold ZaR;simp [h]
theorem rtF9 {s : RtV} (h : Zdu s.rq = false) : Value.bool false = .bool (ZaR s) := by unfold ZaR;simp [h]
theorem Zte {s : RtV} (h : (Zee s.av && Za5 s.full) = false) : Value.bool false = .bool (ZaR s) := by unfold ZaR;simp [h]
theorem Ztd {s : RtV} (h : (s.ro.any fun x => decide (x.to.rt = s.self)) = true) : Value.bool false = .bool (ZaR s) := by unfold ZaR;simp [h]
theorem Zun {s : RtV} (h : (s.ins.any fun x => decide (x.to.rt = s.self)) = true) : Value.bool false = .bool (ZaR s) := by unfold ZaR;simp [h]
theorem rtL {s : RtV} (h0 : ¬ s.self = 0) (h1 : Za5 s.raised = true) (h2 : Za5 s.quiet = true) (h3 : Za5 s.nextH = true) (h4 : Zec s.self s.og = true) (h5 : ZfB s.self s.aj = true) (h6 : ZdB s.sr = true) (h7 : Zdh s.ro = true) (h8 : ZcJ s.ins = true) (h9 : Zdu s.rq = true) (h10 : (Zee s.av && Za5 s.full) = true) (h11 : (s.ro.any fun x => decide (x.to.rt = s.self)) = false) : Value.bool (!(s.ins.any fun x => decide (x.to.rt = s.self))) = .bool (ZaR s) := by
 unfold ZaR
 rw [dqF h0, h1, h2, h3, h4, h5, h6, h7, h8, h9, h10, h11]
 rfl
theorem Zhb {l : List RouV} (h : Zdh l = true) : l.length ≤ 1000 := by unfold Zdh vldL at h;simp at h;omega
theorem Zed {l : List InsV} (h : ZcJ l = true) : l.length ≤ 1000 := by unfold ZcJ vldL at h;simp at h;omega
theorem Zs2 (s : RtV) (x : RtX) (b1 : Nat) (W : World) (hb : W.heap[b1]? = some (.cells (rtC s x).toArray 53 (0, 0))) (r : RouV) (hr : IsRo r) : Cal Tryz.prog 109 ([Value.agg (roC r).toArray] ++ [Value.pointer (some ⟨b1, 0, none⟩)]).toArray W fun v w' => v = .bool (decide (r.to.rt = s.self)) ∧ Ext [] W w' := by
 have hld : ∀ w', Ext [] W w' → w'.heap[b1]? = some (.cells (rtC s x).toArray 53 (0, 0)) := fun w' E => (E.block b1 (Array.getElem?_eq_some_iff.1 hb).1 (by simp)).trans hb
 have hf : nth (rtC s x) 0 = some (.int .u64 s.self) := rfl
 simp only [List.cons_append, List.nil_append]
 refine Zao (n := 10) (S := []) Zal Zak Tryz.func109 rfl rfl rfl (gR 2 rfl (ZaA rfl rfl fun b2 => gR 7 rfl (Zai 0 rfl rfl (ZfI ‹_›) ?_)))
 refine gR 1 rfl (Zkg rfl ‹_› (by with_reducible assumption) ?_)
 exact gR 5 rfl (Zab rfl rfl rfl fun w M => ⟨rfl, M.ext⟩)
theorem Zs3 (s : RtV) (x : RtX) (b1 : Nat) (W : World) (hb : W.heap[b1]? = some (.cells (rtC s x).toArray 53 (0, 0))) (r : InsV) (hr : IsIn r) : Cal Tryz.prog 111 ([Value.agg (inC r).toArray] ++ [Value.pointer (some ⟨b1, 0, none⟩)]).toArray W fun v w' => v = .bool (decide (r.to.rt = s.self)) ∧ Ext [] W w' := by
 have hld : ∀ w', Ext [] W w' → w'.heap[b1]? = some (.cells (rtC s x).toArray 53 (0, 0)) := fun w' E => (E.block b1 (Array.getElem?_eq_some_iff.1 hb).1 (by simp)).trans hb
 have hf : nth (rtC s x) 0 = some (.int .u64 s.self) := rfl
 simp only [List.cons_append, List.nil_append]
 refine Zao (n := 10) (S := []) Zal Zak Tryz.func111 rfl rfl rfl (gR 2 rfl (ZaA rfl rfl fun b2 => gR 7 rfl (Zai 0 rfl rfl (ZfT ‹_›) ?_)))
 refine gR 1 rfl (Zkg rfl ‹_› (by with_reducible assumption) ?_)
 exact gR 5 rfl (Zab rfl rfl rfl fun w M => ⟨rfl, M.ext⟩)
theorem Zcz {w w' : World} {b : Nat} {o : Obj} (E : Ext [] w w') (h : w.heap[b]? = some o) : w'.heap[b]? = some o := (E.block b (Array.getElem?_eq_some_iff.1 h).1 (by simp)).trans h
theorem Zij (s : RtV) (x : RtX) (hs : IsRt s) (W : World) (h : RtAt W s x) : Cal Tryz.prog 34 [.agg (rtC s x).toArray].toArray W fun r w' => r = .bool (ZaR s) ∧ Ext [] W w' := by
 obtain ⟨v6, v7, v8, v9, v10, v11, v12⟩ := x
 obtain ⟨a6, a7, a8, a9, a10, a11, a12⟩ := h
 dsimp only at a6 a7 a8 a9 a10 a11 a12
 obtain ⟨q6, c6, rfl, _⟩ := id a6
 obtain ⟨q7, c7, rfl, _⟩ := id a7
 obtain ⟨q8, c8, rfl, _⟩ := id a8
 obtain ⟨q9, c9, rfl, _⟩ := id a9
 obtain ⟨q10, c10, rfl, _⟩ := id a10
 obtain ⟨q11, c11, rfl, _⟩ := id a11
 obtain ⟨q12, c12, rfl, _⟩ := id a12
 obtain ⟨i6, i7, i8, i9, i10, i11, i12, iq⟩ := hs
 refine Zao (n := 80) (S := []) Zal Zak Tryz.func34 rfl rfl rfl (gR 2 rfl (ZaA rfl rfl fun b1 => gR 7 rfl (Zai 0 rfl rfl rfl (gR 2 rfl (Zan 6 rfl (fun h1 => ?_) (fun h1 => ?_))))))
 ·replace h1 := dqU h1
  exact gR 43 rfl (Zab rfl rfl rfl fun w M => ⟨rtF0 ‹_›, M.ext⟩)
 replace h1 := dqV h1
 refine gR 1 rfl (Zai 0 rfl rfl rfl (Zad rfl rfl (fun w M => Zc8 _ _) (gR 3 rfl (Zan 12 rfl (fun h2 => ?_) (fun h2 => ?_)))))
 ·replace h2 := Zaa h2
  exact gR 37 rfl (Zab rfl rfl rfl fun w M => ⟨rtF1 ‹_›, M.ext⟩)
 replace h2 := Zac h2
 refine gR 1 rfl (Zai 0 rfl rfl rfl (Zad rfl rfl (fun w M => Zc8 _ _) (gR 3 rfl (Zan 18 rfl (fun h3 => ?_) (fun h3 => ?_)))))
 ·replace h3 := Zaa h3
  exact gR 31 rfl (Zab rfl rfl rfl fun w M => ⟨rtF2 ‹_›, M.ext⟩)
 replace h3 := Zac h3
 refine gR 1 rfl (Zai 0 rfl rfl rfl (Zad rfl rfl (fun w M => Zc8 _ _) (gR 3 rfl (Zan 24 rfl (fun h4 => ?_) (fun h4 => ?_)))))
 ·replace h4 := Zaa h4
  exact gR 25 rfl (Zab rfl rfl rfl fun w M => ⟨rtF3 ‹_›, M.ext⟩)
 replace h4 := Zac h4
 refine gR 1 rfl (Zai 0 rfl rfl rfl (gR 1 rfl (Zai 0 rfl rfl rfl (Zad rfl rfl (fun w M => Zml _ _ ‹_› _ _ ((by assumption : SlAt _ _ _ _ _).later M.ext)) ?_))))
 refine gR 3 rfl (Zan 32 rfl (fun h5 => ?_) (fun h5 => ?_))
 ·replace h5 := Zaa h5
  exact gR 17 rfl (Zab rfl rfl rfl fun w M => ⟨rtF4 ‹_›, M.ext⟩)
 replace h5 := Zac h5
 refine gR 1 rfl (Zai 0 rfl rfl rfl (gR 1 rfl (Zai 0 rfl rfl rfl (Zad rfl rfl (fun w M => Zmm _ _ ‹_› ‹_› _ _ ((by assumption : SlAt _ _ _ _ _).later M.ext)) ?_))))
 refine gR 4 rfl (g_if rfl (fun h6 => ?_) (fun h6 => ?_))
 ·replace h6 := Zaa h6
  exact gR 7 rfl (Zab rfl rfl rfl fun w M => ⟨rtF5 ‹_›, M.ext⟩)
 replace h6 := Zac h6
 refine gR 6 rfl (Zai 0 rfl rfl rfl (Zad rfl rfl (fun w M => Zns _ ‹_› _ _ ((by assumption : SlAt _ _ _ _ _).later M.ext)) ?_))
 refine gR 2 rfl (Zan 44 rfl (fun h7 => ?_) (fun h7 => ?_))
 ·replace h7 := Zaa h7
  exact gR 33 rfl (Zab rfl rfl rfl fun w M => ⟨rtF6 ‹_›, M.ext⟩)
 replace h7 := Zac h7
 refine gR 1 rfl (Zai 0 rfl rfl rfl (Zad rfl rfl (fun w M => Znv _ ‹_› _ _ ((by assumption : SlAt _ _ _ _ _).later M.ext)) ?_))
 refine gR 3 rfl (Zan 50 rfl (fun h8 => ?_) (fun h8 => ?_))
 ·replace h8 := Zaa h8
  exact gR 27 rfl (Zab rfl rfl rfl fun w M => ⟨rtF7 ‹_›, M.ext⟩)
 replace h8 := Zac h8
 refine gR 1 rfl (Zai 0 rfl rfl rfl (Zad rfl rfl (fun w M => Zik _ ‹_› _ _ ((by assumption : SlAt _ _ _ _ _).later M.ext)) ?_))
 refine gR 3 rfl (Zan 56 rfl (fun h9 => ?_) (fun h9 => ?_))
 ·replace h9 := Zaa h9
  exact gR 21 rfl (Zab rfl rfl rfl fun w M => ⟨rtF8 ‹_›, M.ext⟩)
 replace h9 := Zac h9
 refine gR 1 rfl (Zai 0 rfl rfl rfl (Zad rfl rfl (fun w M => Zms _ ‹_› _ _ ((by assumption : SlAt _ _ _ _ _).later M.ext)) ?_))
 refine gR 3 rfl (Zan 62 rfl (fun h10 => ?_) (fun h10 => ?_))
 ·replace h10 := Zaa h10
  exact gR 15 rfl (Zab rfl rfl rfl fun w M => ⟨rtF9 ‹_›, M.ext⟩)
 replace h10 := Zac h10
 refine gR 1 rfl (Zah 0 rfl rfl rfl ?_)
 refine Zad rfl rfl (fun w M => Zpr _ ‹_› _ _ _ ((by assumption : SlAt _ _ _ _ _).later M.ext)) ?_
 refine gR 4 rfl (g_if rfl (fun h11 => ?_) (fun h11 => ?_))
 ·replace h11 := Zaa h11
  exact gR 7 rfl (Zab rfl rfl rfl fun w M => ⟨Zte ‹_›, M.ext⟩)
 replace h11 := Zac h11
 refine gR 5 rfl (Zai 0 rfl rfl rfl (ZqB (us := [Value.pointer (some ⟨b1, 0, none⟩)]) rfl rfl (Zad (v := .bool (s.ro.any fun x => decide (x.to.rt = s.self))) rfl rfl (fun w M => Zuf s.ro i9 _ w (a9.later M.ext) (Zhb h8) _ _ _ fun w' x E hx => Zs2 s _ b1 w' (Zcz E (M.at_ _ (Zae (i := 0) rfl))) x (i9 x hx)) ?_)))
 cases hro : s.ro.any fun x => decide (x.to.rt = s.self)
 ·refine gR 3 rfl ?_
  exact Zai 0 rfl rfl rfl (ZqB (us := [Value.pointer (some ⟨b1, 0, none⟩)]) rfl rfl (Zad (v := .bool (s.ins.any fun x => decide (x.to.rt = s.self))) rfl rfl (fun w M => ZrA s.ins i10 _ w (a10.later M.ext) (Zed h9) _ _ _ fun w' x E hx => Zs3 s _ b1 w' (Zcz E (M.at_ _ (Zae (i := 0) rfl))) x (i10 x hx)) (gR 6 rfl (Zab rfl rfl rfl fun w M => ⟨rtL h1 h2 h3 h4 h5 h6 h7 h8 h9 h10 h11 hro, M.ext⟩))))
 ·refine gR 12 rfl ?_
  exact Zab rfl rfl rfl fun w M => ⟨Ztd hro, M.ext⟩
end Go.Proofs.YtfhkmgcalcfibaaGreat

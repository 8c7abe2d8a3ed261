/-
  Texts joined: RunB, RunC, RunD, RunE, RunF, RunG, RunH, O1, O2, OO, O3.
-/
import Derived.Test.YtchmcdkmlmknnaaGreatHeaders3
/-! RunB -/
namespace Go.Proofs.YtchmcdkmlmknnaaGreat
set_option linter.unusedVariables false
set_option linter.unusedSimpArgs false
open Go.RowKit
variable [Y : Sy]
structure VO where
  cs : List Value
  e : TypeId
  op : Option Nat
  mp : Option (List (Value × Value))
structure MSt where
  m : Tr VO
  nx : Nat
  F : Nat
  W : Nat
def bit (F b : Nat) : Prop := F.testBit b = true
def orB (F b : Nat) : Nat := Nat.lor F (Nat.pow 2 b)
omit Y in
theorem bit_or {F b j : Nat} : bit (orB F b) j ↔ bit F j ∨ j = b := by
  unfold bit orB
  rw [show Nat.lor F (Nat.pow 2 b) = F ||| 2 ^ b from rfl, Nat.testBit_or, Nat.testBit_two_pow]
  simp only [Bool.or_eq_true, decide_eq_true_eq]
  constructor
  · rintro (h | h)
    · exact .inl h
    · exact .inr h.symm
  · rintro (h | h)
    · exact .inl h
    · exact .inr h.symm
omit Y in
theorem bit0 {b : Nat} : ¬ bit 0 b := by simp [bit]
/-- a row of cells -/
def ObjC (ρ : Rl) (o : VO) (r c : Nat) (w : World) : Prop := ∃ cs' junk, VRs ρ o.cs cs' ∧ w.heap[r]? = some (.cells (cs' ++ junk).toArray o.e (0, 0)) ∧ (o.op = none → junk = []) ∧ (∀ sz, o.op = some sz → cs'.length + junk.length = c * sz)
/-- a map -/
def ObjM (ρ : Rl) (m : List (Value × Value)) (r : Nat) (w : World) : Prop := ∃ es clock, w.heap[r]? = some (.map es clock) ∧ es.toList.map (·.key) = m.map (·.1) ∧ VRs ρ (m.map (·.2)) (es.toList.map (·.val))
def ObjR (ρ : Rl) (o : VO) (r c : Nat) (w : World) : Prop := (o.mp = none ∧ ObjC ρ o r c w) ∨ ∃ m, o.mp = some m ∧ ObjM ρ m r w
theorem ObjR.later {ρ ρ' : Rl} {o : VO} {r c : Nat} {w w' : World} (h : ObjR ρ o r c w) (hle : ∀ b r, ρ b = some r → ρ' b = some r) (hh : w'.heap[r]? = w.heap[r]?) : ObjR ρ' o r c w' := by
  rcases h with ⟨hm, cs', junk, h1, h2, h3, h4⟩ | ⟨m, hm, es, clock, h1, h2, h3⟩
  · exact .inl ⟨hm, cs', junk, h1.mono hle, hh.trans h2, h3, h4⟩
  · exact .inr ⟨m, hm, es, clock, hh.trans h1, h2, h3.mono hle⟩
theorem ObjR.lt {ρ : Rl} {o : VO} {r c : Nat} {w : World} (h : ObjR ρ o r c w) : r < w.heap.size := by
  rcases h with ⟨hm, cs', junk, h1, h2, h3, h4⟩ | ⟨m, hm, es, clock, h1, h2, h3⟩
  · exact (Array.getElem?_eq_some_iff.1 h2).1
  · exact (Array.getElem?_eq_some_iff.1 h1).1
theorem ObjR.cells {ρ : Rl} {o : VO} {r c : Nat} {w : World} (h : ObjR ρ o r c w) (hm : o.mp = none) : ObjC ρ o r c w := by
  rcases h with ⟨_, h⟩ | ⟨m, h, _⟩
  · exact h
  · rw [hm] at h; cases h
theorem ObjR.map {ρ : Rl} {o : VO} {r c : Nat} {w : World} {m : List (Value × Value)} (h : ObjR ρ o r c w) (hm : o.mp = some m) : ObjM ρ m r w := by
  rcases h with ⟨h, _⟩ | ⟨m', h, k⟩
  · rw [hm] at h; cases h
  · rw [hm] at h; cases h; exact k
section
variable {S : List Nat} {W0 : World}
/-- what is known of the world: the blocks F of m -/
structure WR (S : List Nat) (W0 : World) (ρ : Rl) (m : Tr VO) (F : Nat) (w : World) : Prop where
  ext : Ext S W0 w
  at_ : ∀ b o, m.get b = some o → bit F b → ∃ r c, ρ b = some (r, c) ∧ ObjR ρ o r c w
  inj : ∀ b b' o o' r c c', m.get b = some o → m.get b' = some o' → bit F b → bit F b' → ρ b = some (r, c) → ρ b' = some (r, c') → b = b'
  own : ∀ b o r c, m.get b = some o → bit F b → ρ b = some (r, c) → r ∈ S ∨ W0.heap.size ≤ r
theorem WR.mono {ρ : Rl} {m : Tr VO} {F F' : Nat} {w : World} (h : WR S W0 ρ m F w) (hF : ∀ b, bit F' b → bit F b) : WR S W0 ρ m F' w :=
  ⟨h.ext, fun b o hb hf => h.at_ b o hb (hF b hf), fun b b' o o' r c c' h1 h2 h3 h4 => h.inj b b' o o' r c c' h1 h2 (hF b h3) (hF b' h4), fun b o r c h1 h2 => h.own b o r c h1 (hF b h2)⟩
/-- what the states' own numbers do -/
structure SLe (s s' : MSt) : Prop where
  nx : s.nx ≤ s'.nx
  F : ∀ b, bit s.F b → bit s'.F b
  W : ∀ b, bit s.W b → bit s'.W b
  WF : (∀ b, bit s.W b → bit s.F b) → ∀ b, bit s'.W b → bit s'.F b
  old : ∀ b, b < s.nx → ¬ bit s'.W b → s'.m.get b = s.m.get b
  dead : ∀ b, b < s.nx → s.m.get b = none → s'.m.get b = none
  new : ∀ b, s.nx ≤ b → b < s'.nx → bit s'.F b ∧ bit s'.W b
  top : (∀ b, s.nx ≤ b → s.m.get b = none) → ∀ b, s'.nx ≤ b → s'.m.get b = none
def Wf (s : MSt) : Prop := (∀ b, bit s.W b → bit s.F b) ∧ ∀ b, s.nx ≤ b → s.m.get b = none
omit Y in
theorem SLe.wf {s s' : MSt} (h : SLe s s') (hw : Wf s) : Wf s' := ⟨h.WF hw.1, h.top hw.2⟩
omit Y in
theorem SLe.refl (s : MSt) : SLe s s := ⟨Nat.le_refl _, fun _ h => h, fun _ h => h, fun h => h, fun _ _ _ => rfl, fun _ _ h => h, fun b h1 h2 => by omega, fun h => h⟩
omit Y in
theorem SLe.trans {s s1 s2 : MSt} (h : SLe s s1) (k : SLe s1 s2) : SLe s s2 where
  nx := Nat.le_trans h.nx k.nx
  F := fun b hb => k.F b (h.F b hb)
  W := fun b hb => k.W b (h.W b hb)
  WF := fun hw => k.WF (h.WF hw)
  old := fun b hb hw => (k.old b (Nat.lt_of_lt_of_le hb h.nx) hw).trans (h.old b hb fun hc => hw (k.W b hc))
  dead := fun b hb hn => k.dead b (Nat.lt_of_lt_of_le hb h.nx) (h.dead b hb hn)
  new := fun b h1 h2 => by
    by_cases hc : b < s1.nx
    · exact ⟨k.F b (h.new b h1 hc).1, k.W b (h.new b h1 hc).2⟩
    · exact k.new b (by omega) h2
  top := fun ht => k.top (h.top ht)
def Pre (S : List Nat) (W0 : World) (ρ : Rl) (s s' : MSt) (w : World) : Prop := WR S W0 ρ s.m s'.F w ∧ ∀ b, s.nx ≤ b → b < s'.nx → ρ b = none
/-- what a step has done to the world -/
structure Stp (S : List Nat) (W0 : World) (ρ : Rl) (s : MSt) (w : World) (ρ' : Rl) (s' : MSt) (w' : World) : Prop where
  le : ∀ b, ¬ (s.nx ≤ b ∧ b < s'.nx) → ρ' b = ρ b
  wr : WR S W0 ρ' s'.m s'.F w'
  size : w.heap.size ≤ w'.heap.size
  blk : ∀ k, k < w.heap.size → (∀ b o c, bit s'.W b → s.m.get b = some o → ρ b ≠ some (k, c)) → w'.heap[k]? = w.heap[k]?
  fresh : ∀ b o r c, s.nx ≤ b → b < s'.nx → s'.m.get b = some o → ρ' b = some (r, c) → w.heap.size ≤ r ∨ ∃ b0 o0 c0, b0 < s.nx ∧ bit s'.W b0 ∧ s.m.get b0 = some o0 ∧ s'.m.get b0 = none ∧ ρ b0 = some (r, c0)
variable {ρ ρ1 ρ2 : Rl} {s s1 s2 : MSt} {w w1 w2 : World}
theorem Stp.leR (h : Stp S W0 ρ s w ρ1 s1 w1) (hp : Pre S W0 ρ s s1 w) : ∀ b r, ρ b = some r → ρ1 b = some r := fun b r hb => by
  by_cases hc : s.nx ≤ b ∧ b < s1.nx
  · rw [hp.2 b hc.1 hc.2] at hb
    cases hb
  · rw [h.le b hc, hb]
theorem Stp.same (hm : s1.m = s.m) (hn : s1.nx = s.nx) (A : WR S W0 ρ s.m s1.F w) : Stp S W0 ρ s w ρ s1 w :=
  ⟨fun _ _ => rfl, hm ▸ A, Nat.le_refl _, fun _ _ _ => rfl, fun b o r c h1 h2 => by omega⟩
/-- what was not looked at is as it was -/
theorem Stp.frame {G : Nat} (hle : SLe s s1) (hwf : Wf s) (A : WR S W0 ρ s.m G w) (hG : ∀ b, bit s1.F b → bit G b) (hp : Pre S W0 ρ s s1 w) (h : Stp S W0 ρ s w ρ1 s1 w1) : WR S W0 ρ1 s1.m G w1 := by
  have hR := h.leR hp
  -- an old block that was not written
  have hold : ∀ b o, s1.m.get b = some o → ¬ bit s1.F b → b < s.nx ∧ s.m.get b = some o ∧ ρ1 b = ρ b := fun b o hb hf => by
    have hb1 : b < s1.nx := Nat.lt_of_not_le fun hc => by
      rw [(hle.wf hwf).2 b hc] at hb
      cases hb
    have hb0 : b < s.nx := Nat.lt_of_not_le fun hc => hf (hle.new b hc hb1).1
    refine ⟨hb0, ?_, h.le b (by omega)⟩
    rw [← hle.old b hb0 fun hc => hf (hle.WF hwf.1 b hc)]
    exact hb
  have hlive : ∀ b o, s1.m.get b = some o → b < s.nx → ∃ o0, s.m.get b = some o0 := fun b o hb hb0 => by
    cases hc : s.m.get b with
    | none => rw [hle.dead b hb0 hc] at hb; cases hb
    | some o0 => exact ⟨o0, rfl⟩
  -- where a looked-at block lies is not where such an old block lies
  have hne : ∀ b o b' o' r c c', s1.m.get b = some o → s1.m.get b' = some o' → bit s1.F b → ¬ bit s1.F b' → bit G b' → ρ1 b = some (r, c) → ρ1 b' = some (r, c') → False := fun b o b' o' r c c' hb hb' hf hf' hg' e e' => by
    obtain ⟨h1, h2, h3⟩ := hold b' o' hb' hf'
    rw [h3] at e'
    obtain ⟨r0, c0, e0, ho⟩ := A.at_ b' o' h2 hg'
    rw [e0] at e'
    cases e'
    by_cases hb0 : s.nx ≤ b ∧ b < s1.nx
    · rcases h.fresh b o r c hb0.1 hb0.2 hb e with h4 | ⟨b0, o0, c0, h5, h6, h7, h8, h9⟩
      · have := ho.lt
        omega
      · have := A.inj b0 b' o0 o' r _ _ h7 h2 (hG _ (hle.WF hwf.1 b0 h6)) hg' h9 e0
        subst this
        exact hf' (hle.WF hwf.1 _ h6)
    · rw [h.le b hb0] at e
      have hb1 : b < s.nx := Nat.lt_of_not_le fun hc => hb0 ⟨hc, Nat.lt_of_not_le fun hc' => by rw [(hle.wf hwf).2 b hc'] at hb; cases hb⟩
      obtain ⟨o0, q⟩ := hlive b o hb hb1
      have := A.inj b b' o0 o' r _ _ q h2 (hG _ hf) hg' e e0
      subst this
      exact hf' hf
  refine ⟨h.wr.ext, fun b o hb hg => ?_, fun b b' o o' r c c' hb hb' hg hg' e e' => ?_, fun b o r c hb hg e => ?_⟩
  · by_cases hf : bit s1.F b
    · exact h.wr.at_ b o hb hf
    · obtain ⟨h1, h2, h3⟩ := hold b o hb hf
      obtain ⟨r, c, e, ho⟩ := A.at_ b o h2 hg
      refine ⟨r, c, h3.trans e, ho.later hR (h.blk r ho.lt fun b0 o0 c0 hw hl e0 => ?_)⟩
      have := A.inj b b0 o o0 r _ _ h2 hl hg (hG _ (hle.WF hwf.1 b0 hw)) e e0
      subst this
      exact hf (hle.WF hwf.1 _ hw)
  · by_cases hf : bit s1.F b
    · by_cases hf' : bit s1.F b'
      · exact h.wr.inj b b' o o' r c c' hb hb' hf hf' e e'
      · exact (hne b o b' o' r c c' hb hb' hf hf' hg' e e').elim
    · by_cases hf' : bit s1.F b'
      · exact (hne b' o' b o r c' c hb' hb hf' hf hg e' e).elim
      · obtain ⟨_, h2, h3⟩ := hold b o hb hf
        obtain ⟨_, h2', h3'⟩ := hold b' o' hb' hf'
        exact A.inj b b' o o' r c c' h2 h2' hg hg' (h3 ▸ e) (h3' ▸ e')
  · by_cases hf : bit s1.F b
    · exact h.wr.own b o r c hb hf e
    · obtain ⟨_, h2, h3⟩ := hold b o hb hf
      exact A.own b o r c h2 hg (h3 ▸ e)
theorem Pre.fst (hle : SLe s s1) (hle2 : SLe s1 s2) (h : Pre S W0 ρ s s2 w) : Pre S W0 ρ s s1 w := ⟨h.1.mono hle2.F, fun b h1 h2 => h.2 b h1 (Nat.lt_of_lt_of_le h2 hle2.nx)⟩
theorem Pre.snd (hle : SLe s s1) (hle2 : SLe s1 s2) (hwf : Wf s) (h : Pre S W0 ρ s s2 w) (k : Stp S W0 ρ s w ρ1 s1 w1) : Pre S W0 ρ1 s1 s2 w1 :=
  ⟨Stp.frame hle hwf h.1 hle2.F (h.fst hle hle2) k, fun b h1 h2 => by rw [k.le b (by omega)]; exact h.2 b (Nat.le_trans hle.nx h1) h2⟩
theorem Stp.trans (hle : SLe s s1) (hle2 : SLe s1 s2) (hwf : Wf s) (hp : Pre S W0 ρ s s2 w) (h : Stp S W0 ρ s w ρ1 s1 w1) (k : Stp S W0 ρ1 s1 w1 ρ2 s2 w2) : Stp S W0 ρ s w ρ2 s2 w2 := by
  have hlive : ∀ b o, s1.m.get b = some o → b < s.nx → ∃ o0, s.m.get b = some o0 := fun b o hb hb0 => by
    cases hc : s.m.get b with
    | none => rw [hle.dead b hb0 hc] at hb; cases hb
    | some o0 => exact ⟨o0, rfl⟩
  have hlt1 : ∀ b o, s1.m.get b = some o → b < s1.nx := fun b o hb => Nat.lt_of_not_le fun hc => by
    rw [(hle.wf hwf).2 b hc] at hb
    cases hb
  -- where a block that lives behind the first step lay
  have hwas : ∀ b o r c, s1.m.get b = some o → ρ1 b = some (r, c) → w.heap.size ≤ r ∨ ∃ b0 o0 c0, b0 < s.nx ∧ s.m.get b0 = some o0 ∧ ρ b0 = some (r, c0) ∧ (b0 = b ∨ (bit s1.W b0 ∧ s1.m.get b0 = none)) := fun b o r c hb e => by
    by_cases hb0 : b < s.nx
    · obtain ⟨o0, q⟩ := hlive b o hb hb0
      rw [h.le b (by omega)] at e
      exact .inr ⟨b, o0, c, hb0, q, e, .inl rfl⟩
    · rcases h.fresh b o r c (by omega) (hlt1 b o hb) hb e with h4 | ⟨b0, o0, c0, h5, h6, h7, h8, h9⟩
      · exact .inl h4
      · exact .inr ⟨b0, o0, c0, h5, h7, h9, .inr ⟨h6, h8⟩⟩
  refine ⟨fun b hb => ?_, k.wr, Nat.le_trans h.size k.size, fun i hi hW => ?_, fun b o r c h1 h2 hb e => ?_⟩
  · have := hle.nx
    have := hle2.nx
    rw [k.le b (by omega), h.le b (by omega)]
  · refine (k.blk i (Nat.lt_of_lt_of_le hi h.size) fun b o c hw hl e => ?_).trans (h.blk i hi fun b o c hw hl e => hW b o c (hle2.W b hw) hl e)
    rcases hwas b o i c hl e with h4 | ⟨b0, o0, c0, h5, h6, h7, h8⟩
    · omega
    · rcases h8 with rfl | h8
      · exact hW _ o0 c0 hw h6 h7
      · exact hW b0 o0 c0 (hle2.W b0 h8.1) h6 h7
  · by_cases hc : b < s1.nx
    · rw [k.le b (by omega)] at e
      obtain ⟨o1, ho1⟩ : ∃ o1, s1.m.get b = some o1 := by
        cases hq : s1.m.get b with
        | none => rw [hle2.dead b hc hq] at hb; cases hb
        | some o1 => exact ⟨o1, rfl⟩
      rcases h.fresh b o1 r c h1 hc ho1 e with h4 | ⟨b0, o0, c0, h5, h6, h7, h8, h9⟩
      · exact .inl h4
      · exact .inr ⟨b0, o0, c0, h5, hle2.W b0 h6, h7, hle2.dead b0 (Nat.lt_of_lt_of_le h5 hle.nx) h8, h9⟩
    · rcases k.fresh b o r c (by omega) h2 hb e with h4 | ⟨b0, o0, c0, h5, h6, h7, h8, h9⟩
      · exact .inl (Nat.le_trans h.size h4)
      · rcases hwas b0 o0 r c0 h7 h9 with h4 | ⟨b1, o1, c1, g1, g2, g3, g4⟩
        · exact .inl h4
        · refine .inr ⟨b1, o1, c1, g1, ?_, g2, ?_, g3⟩
          · rcases g4 with rfl | g4
            · exact h6
            · exact hle2.W b1 g4.1
          · rcases g4 with rfl | g4
            · exact h8
            · exact hle2.dead b1 (Nat.lt_of_lt_of_le g1 hle.nx) g4.2
/-! ### the steps themselves -/
/-- a block is looked at -/
def MSt.rd (s : MSt) (b : Nat) : MSt := { s with F := orB s.F b }
omit Y in
theorem SLe.rd (s : MSt) (b : Nat) : SLe s (s.rd b) := ⟨Nat.le_refl _, fun _ h => bit_or.2 (.inl h), fun _ h => h, fun h b hb => bit_or.2 (.inl (h b hb)), fun _ _ _ => rfl, fun _ _ h => h, fun b h1 h2 => by simp only [MSt.rd] at h2; omega, fun h => h⟩
theorem Stp.rd {b : Nat} (hp : Pre S W0 ρ s (s.rd b) w) : Stp S W0 ρ s w ρ (s.rd b) w := Stp.same rfl rfl hp.1
theorem Pre.obj {b : Nat} {o : VO} (hp : Pre S W0 ρ s s1 w) (hb : s.m.get b = some o) (hf : bit s1.F b) : ∃ r c, ρ b = some (r, c) ∧ ObjR ρ o r c w := hp.1.at_ b o hb hf
theorem WR.atC {m : Tr VO} {F b : Nat} {o : VO} (h : WR S W0 ρ m F w) (hb : m.get b = some o) (hf : bit F b) (hm : o.mp = none) : ∃ r c, ρ b = some (r, c) ∧ ObjC ρ o r c w := by
  obtain ⟨r, c, e, ho⟩ := h.at_ b o hb hf
  exact ⟨r, c, e, ho.cells hm⟩
theorem Pre.objC {b : Nat} {o : VO} (hp : Pre S W0 ρ s s1 w) (hb : s.m.get b = some o) (hf : bit s1.F b) (hm : o.mp = none) : ∃ r c, ρ b = some (r, c) ∧ ObjC ρ o r c w := hp.1.atC hb hf hm
omit Y in
/-- a block is written, or given up -/
theorem SLe.wrt {s : MSt} {m' : Tr VO} {b : Nat} {x : Option VO} {o : VO} (hm : ∀ j, m'.get j = if j = b then x else s.m.get j) (hb : s.m.get b = some o) (hwf : Wf s) : SLe s ⟨m', s.nx, orB s.F b, orB s.W b⟩ where
  nx := Nat.le_refl _
  F := fun _ h => bit_or.2 (.inl h)
  W := fun _ h => bit_or.2 (.inl h)
  WF := fun h j hj => (bit_or.1 hj).elim (fun hj => bit_or.2 (.inl (h j hj))) fun hj => bit_or.2 (.inr hj)
  old := fun j _ hj => by dsimp only; rw [hm, if_neg fun e => hj (bit_or.2 (.inr e))]
  dead := fun j _ hj => by
    dsimp only
    rw [hm, if_neg fun e => by rw [e, hb] at hj; cases hj]
    exact hj
  new := fun j h1 h2 => by dsimp only at h2; omega
  top := fun ht j hj => by
    dsimp only at hj ⊢
    rw [hm, if_neg fun e => by rw [e] at hj; rw [hwf.2 b hj] at hb; cases hb]
    exact ht j hj
theorem Stp.wrt {m' : Tr VO} {b r c : Nat} {o o' : VO} (hm : ∀ j, m'.get j = if j = b then some o' else s.m.get j) (hb : s.m.get b = some o) (hwf : Wf s) (hp : Pre S W0 ρ s ⟨m', s.nx, orB s.F b, orB s.W b⟩ w) (e : ρ b = some (r, c)) (E : Ext [r] w w1) (ho : ObjR ρ o' r c w1) :
    Stp S W0 ρ s w ρ ⟨m', s.nx, orB s.F b, orB s.W b⟩ w1 := by
  have hfb : bit (orB s.F b) b := bit_or.2 (.inr rfl)
  have hown := hp.1.own b o r c hb hfb e
  have hbk : ∀ k, k < w.heap.size → k ≠ r → w1.heap[k]? = w.heap[k]? := fun k hk hr => E.block k hk (by simpa using hr)
  have hlv : ∀ j oj, m'.get j = some oj → ∃ oj', s.m.get j = some oj' := fun j oj hj => by
    rw [hm] at hj
    split at hj
    · rename_i q
      exact ⟨o, by rw [q]; exact hb⟩
    · exact ⟨oj, hj⟩
  refine ⟨fun _ _ => rfl, ⟨?_, fun j oj hj hf => ?_, fun j j' oj oj' r' c' c'' hj hj' hf hf' e1 e2 => ?_, fun j oj r' c' hj hf e1 => ?_⟩, E.size, fun k hk hW => hbk k hk fun q => hW b o c (bit_or.2 (.inr rfl)) hb (by rw [q]; exact e), fun j _ _ _ h1 h2 => by dsimp only at h2; omega⟩
  · refine ⟨E.os.trans hp.1.ext.os, E.tape.trans hp.1.ext.tape, E.output.trans hp.1.ext.output, Nat.le_trans hp.1.ext.size E.size, Nat.le_trans hp.1.ext.dr E.dr, fun k hk hs => ?_⟩
    refine (hbk k (Nat.lt_of_lt_of_le hk hp.1.ext.size) ?_).trans (hp.1.ext.block k hk hs)
    rintro rfl
    exact hown.elim hs fun h => absurd hk (Nat.not_lt.2 h)
  · by_cases q : j = b
    · subst q
      dsimp only at hj
      rw [hm, if_pos rfl] at hj
      cases hj
      exact ⟨r, c, e, ho⟩
    · dsimp only at hj
      rw [hm, if_neg q] at hj
      obtain ⟨r', c', e', ho'⟩ := hp.1.at_ j oj hj hf
      refine ⟨r', c', e', ho'.later (fun _ _ h => h) (hbk r' ho'.lt ?_)⟩
      rintro rfl
      exact q (hp.1.inj j b oj o r' c' c hj hb hf hfb e' e)
  · obtain ⟨p, hp1⟩ := hlv j oj hj
    obtain ⟨p', hp2⟩ := hlv j' oj' hj'
    exact hp.1.inj j j' p p' r' c' c'' hp1 hp2 hf hf' e1 e2
  · obtain ⟨p, hp1⟩ := hlv j oj hj
    exact hp.1.own j p r' c' hp1 hf e1
omit Y in
/-- a new block -/
theorem SLe.alloc {s : MSt} {m' : Tr VO} {x : Option VO} (hm : ∀ j, m'.get j = if j = s.nx then x else s.m.get j) : SLe s ⟨m', s.nx + 1, orB s.F s.nx, orB s.W s.nx⟩ where
  nx := Nat.le_succ _
  F := fun _ h => bit_or.2 (.inl h)
  W := fun _ h => bit_or.2 (.inl h)
  WF := fun h j hj => (bit_or.1 hj).elim (fun hj => bit_or.2 (.inl (h j hj))) fun hj => bit_or.2 (.inr hj)
  old := fun j hj _ => by dsimp only; rw [hm, if_neg (by omega)]
  dead := fun j hj hd => by dsimp only; rw [hm, if_neg (by omega)]; exact hd
  new := fun j h1 h2 => by
    dsimp only at h2
    have : j = s.nx := by omega
    exact ⟨bit_or.2 (.inr this), bit_or.2 (.inr this)⟩
  top := fun ht j hj => by dsimp only at hj ⊢; rw [hm, if_neg (by omega)]; exact ht j (by omega)
def updR (ρ : Rl) (b : Nat) (x : Nat × Nat) : Rl := fun j => if j = b then some x else ρ j
omit Y in
theorem updR_le {b : Nat} {x : Nat × Nat} (h : ρ b = none) : ∀ j r, ρ j = some r → updR ρ b x j = some r := fun j r hj => by
  unfold updR
  rw [if_neg fun e => by rw [e, h] at hj; cases hj]
  exact hj
theorem Stp.alloc {m' : Tr VO} {r c : Nat} {o : VO} (hm : ∀ j, m'.get j = if j = s.nx then some o else s.m.get j) (hwf : Wf s) (hp : Pre S W0 ρ s ⟨m', s.nx + 1, orB s.F s.nx, orB s.W s.nx⟩ w) (E : Ext [] w w1) (hr : w.heap.size ≤ r) (ho : ObjR (updR ρ s.nx (r, c)) o r c w1) :
    Stp S W0 ρ s w (updR ρ s.nx (r, c)) ⟨m', s.nx + 1, orB s.F s.nx, orB s.W s.nx⟩ w1 := by
  have hle := updR_le (x := (r, c)) (hp.2 s.nx (Nat.le_refl _) (Nat.lt_succ_self _))
  have hne : ∀ j oj, m'.get j = some oj → j ≠ s.nx → s.m.get j = some oj := fun j oj hj q => by
    rw [hm, if_neg q] at hj
    exact hj
  have hu : ∀ j, j ≠ s.nx → updR ρ s.nx (r, c) j = ρ j := fun j q => if_neg q
  have hu0 : updR ρ s.nx (r, c) s.nx = some (r, c) := if_pos rfl
  have hlt : ∀ j oj r' c', s.m.get j = some oj → bit (orB s.F s.nx) j → ρ j = some (r', c') → r' < w.heap.size := fun j oj r' c' hj hf e => by
    obtain ⟨r0, c0, e0, ho0⟩ := hp.1.at_ j oj hj hf
    rw [e0] at e
    cases e
    exact ho0.lt
  refine ⟨fun j hj => hu j (by dsimp only at hj; omega), ⟨hp.1.ext.trans E.any, fun j oj hj hf => ?_, fun j j' oj oj' r' c' c'' hj hj' hf hf' e1 e2 => ?_, fun j oj r' c' hj hf e1 => ?_⟩, E.size, fun k hk _ => E.block k hk (by simp), fun j oj r' c' h1 h2 hj e1 => ?_⟩
  · by_cases q : j = s.nx
    · subst q
      dsimp only at hj
      rw [hm, if_pos rfl] at hj
      cases hj
      exact ⟨r, c, hu0, ho⟩
    · have hj' := hne j oj hj q
      obtain ⟨r', c', e', ho'⟩ := hp.1.at_ j oj hj' hf
      exact ⟨r', c', hle _ _ e', ho'.later hle (E.block r' ho'.lt (by simp))⟩
  · by_cases q : j = s.nx
    · by_cases q' : j' = s.nx
      · rw [q, q']
      · have := hlt j' oj' r' c'' (hne j' oj' hj' q') hf' (by rw [← hu j' q']; exact e2)
        rw [q, hu0] at e1
        cases e1
        omega
    · by_cases q' : j' = s.nx
      · have := hlt j oj r' c' (hne j oj hj q) hf (by rw [← hu j q]; exact e1)
        rw [q', hu0] at e2
        cases e2
        omega
      · exact hp.1.inj j j' oj oj' r' c' c'' (hne j oj hj q) (hne j' oj' hj' q') hf hf' (by rw [← hu j q]; exact e1) (by rw [← hu j' q']; exact e2)
  · by_cases q : j = s.nx
    · rw [q, hu0] at e1
      cases e1
      exact .inr (Nat.le_trans hp.1.ext.size hr)
    · exact hp.1.own j oj r' c' (hne j oj hj q) hf (by rw [← hu j q]; exact e1)
  · dsimp only at h2
    have q : j = s.nx := by omega
    rw [q, hu0] at e1
    cases e1
    exact .inl hr
omit Y in
/-- a block is given up, and a new one lies where it lay, or is new (an append) -/
theorem SLe.move {s : MSt} {m1 m' : Tr VO} {b : Nat} {o : VO} {x : Option VO} (hm1 : ∀ j, m1.get j = if j = b then none else s.m.get j) (hm : ∀ j, m'.get j = if j = s.nx then x else m1.get j) (hb : s.m.get b = some o) (hwf : Wf s) :
    SLe s ⟨m', s.nx + 1, orB (orB s.F b) s.nx, orB (orB s.W b) s.nx⟩ :=
  (SLe.wrt (m' := m1) hm1 hb hwf).trans (SLe.alloc (s := ⟨m1, s.nx, orB s.F b, orB s.W b⟩) hm)
theorem Stp.move {m1 m' : Tr VO} {b r r' c c' : Nat} {o o' : VO} (hm1 : ∀ j, m1.get j = if j = b then none else s.m.get j) (hm : ∀ j, m'.get j = if j = s.nx then some o' else m1.get j) (hb : s.m.get b = some o) (hwf : Wf s)
    (hp : Pre S W0 ρ s ⟨m', s.nx + 1, orB (orB s.F b) s.nx, orB (orB s.W b) s.nx⟩ w) (e : ρ b = some (r, c)) (E : Ext [r] w w1) (hr : r' = r ∨ w.heap.size ≤ r') (ho : ObjR (updR ρ s.nx (r', c')) o' r' c' w1) :
    Stp S W0 ρ s w (updR ρ s.nx (r', c')) ⟨m', s.nx + 1, orB (orB s.F b) s.nx, orB (orB s.W b) s.nx⟩ w1 := by
  have hle := updR_le (x := (r', c')) (hp.2 s.nx (Nat.le_refl _) (Nat.lt_succ_self _))
  have hbn : b < s.nx := Nat.lt_of_not_le fun hc => by rw [hwf.2 b hc] at hb; cases hb
  have hfb : bit (orB (orB s.F b) s.nx) b := bit_or.2 (.inl (bit_or.2 (.inr rfl)))
  have hwb : bit (orB (orB s.W b) s.nx) b := bit_or.2 (.inl (bit_or.2 (.inr rfl)))
  have hown := hp.1.own b o r c hb hfb e
  have hbk : ∀ k, k < w.heap.size → k ≠ r → w1.heap[k]? = w.heap[k]? := fun k hk hr => E.block k hk (by simpa using hr)
  have hne : ∀ j oj, m'.get j = some oj → j ≠ s.nx → j ≠ b ∧ s.m.get j = some oj := fun j oj hj q => by
    rw [hm, if_neg q, hm1] at hj
    split at hj
    · cases hj
    · rename_i q2
      exact ⟨q2, hj⟩
  have hu : ∀ j, j ≠ s.nx → updR ρ s.nx (r', c') j = ρ j := fun j q => if_neg q
  have hu0 : updR ρ s.nx (r', c') s.nx = some (r', c') := if_pos rfl
  -- no other block lies where the new one lies
  have hapart : ∀ j oj d, m'.get j = some oj → bit (orB (orB s.F b) s.nx) j → j ≠ s.nx → ρ j = some (r', d) → False := fun j oj d hj hf q e1 => by
    obtain ⟨q2, hj2⟩ := hne j oj hj q
    rcases hr with rfl | hr
    · exact q2 (hp.1.inj j b oj o r' d c hj2 hb hf hfb e1 e)
    · obtain ⟨r0, d0, e0, ho0⟩ := hp.1.at_ j oj hj2 hf
      rw [e0] at e1
      cases e1
      have := ho0.lt
      omega
  refine ⟨fun j hj => hu j (by dsimp only at hj; omega), ⟨?_, fun j oj hj hf => ?_, fun j j' oj oj' r0 d' d'' hj hj' hf hf' e1 e2 => ?_, fun j oj r0 d' hj hf e1 => ?_⟩, E.size, fun k hk hW => hbk k hk fun q => hW b o c hwb hb (by rw [q]; exact e), fun j oj r0 d' h1 h2 hj e1 => ?_⟩
  · refine ⟨E.os.trans hp.1.ext.os, E.tape.trans hp.1.ext.tape, E.output.trans hp.1.ext.output, Nat.le_trans hp.1.ext.size E.size, Nat.le_trans hp.1.ext.dr E.dr, fun k hk hs => ?_⟩
    refine (hbk k (Nat.lt_of_lt_of_le hk hp.1.ext.size) ?_).trans (hp.1.ext.block k hk hs)
    rintro rfl
    exact hown.elim hs fun h => absurd hk (Nat.not_lt.2 h)
  · by_cases q : j = s.nx
    · subst q
      dsimp only at hj
      rw [hm, if_pos rfl] at hj
      cases hj
      exact ⟨r', c', hu0, ho⟩
    · obtain ⟨q2, hj'⟩ := hne j oj hj q
      obtain ⟨r0, d', e', ho'⟩ := hp.1.at_ j oj hj' hf
      refine ⟨r0, d', hle _ _ e', ho'.later hle (hbk r0 ho'.lt ?_)⟩
      rintro rfl
      exact q2 (hp.1.inj j b oj o r0 d' c hj' hb hf hfb e' e)
  · by_cases q : j = s.nx
    · by_cases q' : j' = s.nx
      · rw [q, q']
      · rw [q, hu0] at e1
        cases e1
        exact (hapart j' oj' d'' hj' hf' q' (by rw [← hu j' q']; exact e2)).elim
    · by_cases q' : j' = s.nx
      · rw [q', hu0] at e2
        cases e2
        exact (hapart j oj d' hj hf q (by rw [← hu j q]; exact e1)).elim
      · exact hp.1.inj j j' oj oj' r0 d' d'' (hne j oj hj q).2 (hne j' oj' hj' q').2 hf hf' (by rw [← hu j q]; exact e1) (by rw [← hu j' q']; exact e2)
  · by_cases q : j = s.nx
    · rw [q, hu0] at e1
      cases e1
      rcases hr with rfl | hr
      · exact hown
      · exact .inr (Nat.le_trans hp.1.ext.size hr)
    · exact hp.1.own j oj r0 d' (hne j oj hj q).2 hf (by rw [← hu j q]; exact e1)
  · dsimp only at h2
    have q : j = s.nx := by omega
    rw [q, hu0] at e1
    cases e1
    rcases hr with rfl | hr
    · refine .inr ⟨b, o, c, hbn, hwb, hb, ?_, e⟩
      dsimp only
      rw [hm, if_neg (by omega), hm1, if_pos rfl]
    · exact .inl hr
end
end Go.Proofs.YtchmcdkmlmknnaaGreat
/-! RunC -/
namespace Go.Proofs.YtchmcdkmlmknnaaGreat
set_option linter.unusedVariables false
set_option linter.unusedSimpArgs false
open Go.RowKit
variable [Y : Sy]
/-! ### frames -/
structure FrR (ρ : Rl) (n : Nat) (df : List Deferred) (t : Tr Value) (a : Act) : Prop where
  size : a.tmps.size = n
  defers : a.defers = df
  at_ : ∀ k v, t.get k = some v → VR ρ v (a.tmps.getD k undef)
theorem FrR.mono {ρ ρ' : Rl} {n : Nat} {df : List Deferred} {t : Tr Value} {a : Act} (h : FrR ρ n df t a) (hle : ∀ b r, ρ b = some r → ρ' b = some r) : FrR ρ' n df t a := ⟨h.size, h.defers, fun k v hk => (h.at_ k v hk).mono hle⟩
theorem FrR.put {ρ : Rl} {n : Nat} {df : List Deferred} {t t' : Tr Value} {a : Act} {d : Nat} {v u : Value} (h : FrR ρ n df t a) (ht : ∀ j, t'.get j = if j = d then some v else t.get j) (hd : d < n) (hv : VR ρ v u) : FrR ρ n df t' (a.put (some d) u) := by
  refine ⟨by simp [Act.put, h.size], by simp [Act.put, h.defers], fun k x hk => ?_⟩
  rw [ht] at hk
  simp only [Act.put]
  by_cases e : k = d
  · subst e
    rw [if_pos rfl] at hk
    cases hk
    have : k < a.tmps.size := by rw [h.size]; exact hd
    simpa [Array.getElem?_setIfInBounds, this] using hv
  · rw [if_neg e] at hk
    have := h.at_ k x hk
    simpa [Array.getElem?_setIfInBounds, Ne.symm e] using this
def cst1 : Value → Bool
  | .int _ n => litI n
  | .bool _ | .string _ | .pointer none | .slice none _ _ | .nilFunc | .nilIface | .map none => true
  | _ => false
theorem cst1_ok {ρ : Rl} {v : Value} (h : cst1 v = true) : VR ρ v v := by
  unfold cst1 at h
  split at h
  · rename_i k n
    have := VR.int (ρ := ρ) k n
    rwa [Y.lit n h] at this
  all_goals first | constructor | cases h
noncomputable def cstL (l : List Value) : Bool := List.rec true (fun x _ ih => Bool.rec false ih (cst1 x)) l
theorem cstL_ok {ρ : Rl} : ∀ {l : List Value}, cstL l = true → VRs ρ l l
  | [], _ => .nil
  | x :: xs, h => by
    have h' : (Bool.rec false (cstL xs) (cst1 x) : Bool) = true := h
    cases hx : cst1 x with
    | false => rw [hx] at h'; cases h'
    | true => rw [hx] at h'; exact .cons (cst1_ok hx) (cstL_ok h')
noncomputable def cstOk (v : Value) : Bool := match v with
  | .agg cs => cstL cs.toList
  | v => cst1 v
theorem cstOk_ok {ρ : Rl} {v : Value} (h : cstOk v = true) : VR ρ v v := by
  unfold cstOk at h
  split at h
  · rename_i cs
    have := VR.agg (cstL_ok (ρ := ρ) h)
    simpa using this
  · exact cst1_ok h
noncomputable def evK (t : Tr Value) (x : Operand) (c : Value → Bool) : Bool := match x with
  | .tmp k => Option.rec false c (t.get k)
  | .const v => Bool.rec false (c v) (cstOk v)
  | .func f => c (.func (.func f) #[] #[])
  | .global _ => false
/-- what an operand comes to -/
def OpdR (t : Tr Value) (x : Operand) (v : Value) : Prop := ∀ (ρ : Rl) (n : Nat) (df : List Deferred) (a : Act), FrR ρ n df t a → VR ρ v (a.eval x)
theorem evK_ok {t : Tr Value} {x : Operand} {c : Value → Bool} (h : evK t x c = true) : ∃ v, OpdR t x v ∧ c v = true := by
  unfold evK at h
  cases x with
  | tmp k =>
    dsimp only at h
    cases hk : t.get k with
    | none => rw [hk] at h; cases h
    | some v =>
      rw [hk] at h
      exact ⟨v, fun ρ n df a F => F.at_ k v hk, h⟩
  | const v =>
    dsimp only at h
    cases hv : cstOk v with
    | false => rw [hv] at h; cases h
    | true =>
      rw [hv] at h
      exact ⟨v, fun ρ n df a F => by simpa [Act.eval] using cstOk_ok hv, h⟩
  | func f => exact ⟨_, fun ρ n df a F => by
      have : VR ρ (.func (.func f) #[] #[]) (.func (.func f) (List.toArray []) (List.toArray [])) := .fn .nil .nil
      simpa [Act.eval] using this, h⟩
  | global g => cases h
noncomputable def evsK (t : Tr Value) (xs : List Operand) : (List Value → Bool) → Bool := List.rec (motive := fun _ => (List Value → Bool) → Bool) (fun c => c []) (fun x _ ih c => evK t x fun v => ih fun vs => c (v :: vs)) xs
def OpdsR (t : Tr Value) (xs : List Operand) (vs : List Value) : Prop := ∀ (ρ : Rl) (n : Nat) (df : List Deferred) (a : Act), FrR ρ n df t a → VRs ρ vs (xs.map a.eval)
theorem evsK_ok {t : Tr Value} : ∀ {xs : List Operand} {c : List Value → Bool}, evsK t xs c = true → ∃ vs, OpdsR t xs vs ∧ c vs = true
  | [], c, h => ⟨[], fun _ _ _ _ _ => .nil, h⟩
  | x :: xs, c, h => by
    obtain ⟨v, h1, h2⟩ := evK_ok (c := fun v => evsK t xs fun vs => c (v :: vs)) h
    obtain ⟨vs, h3, h4⟩ := evsK_ok h2
    exact ⟨v :: vs, fun ρ n df a F => .cons (h1 ρ n df a F) (h3 ρ n df a F), h4⟩
/-! ### integers -/
def kEqR : IntKind → IntKind → Bool
  | .i8, .i8 | .i16, .i16 | .i32, .i32 | .i64, .i64 | .u8, .u8 | .u16, .u16 | .u32, .u32 | .u64, .u64 => true
  | _, _ => false
omit Y in
theorem kEq_ok' {a b : IntKind} (h : kEqR a b = true) : a = b := by
  cases a <;> cases b <;> first | rfl | cases h
def pK : IntKind → Nat
  | .i8 | .u8 => 256
  | .i16 | .u16 => 65536
  | .i32 | .u32 => 4294967296
  | .i64 | .u64 => 18446744073709551616
def hK : IntKind → Nat
  | .i8 => 128
  | .i16 => 32768
  | .i32 => 2147483648
  | .i64 => 9223372036854775808
  | .u8 => 256
  | .u16 => 65536
  | .u32 => 4294967296
  | .u64 => 18446744073709551616
/-- the number below 2^bits -/
noncomputable def natK (k : IntKind) (x : Int) : Nat := Int.rec (fun m => Nat.mod m (pK k)) (fun m => Nat.sub (Nat.sub (pK k) 1) (Nat.mod m (pK k))) x
omit Y in
theorem natK_is (k : IntKind) (x : Int) : (natK k x : Int) = x % (2 ^ k.bits : Int) := by
  cases x with
  | ofNat m =>
    show ((m % pK k : Nat) : Int) = _
    cases k <;> simp [pK, IntKind.bits]
  | negSucc m =>
    show ((pK k - 1 - m % pK k : Nat) : Int) = _
    cases k <;> simp only [pK, IntKind.bits, Int.negSucc_eq] <;> omega
noncomputable def wrapN (k : IntKind) (r : Nat) (c : Int → Bool) : Bool := Bool.rec (forceN (Nat.sub (Nat.sub (pK k) 1) r) fun q => c (.negSucc q)) (c (.ofNat r)) (Nat.blt r (hK k))
noncomputable def wrapK (k : IntKind) (x : Int) (c : Int → Bool) : Bool := forceN (natK k x) fun r => wrapN k r c
omit Y in
theorem blt_is (a b : Nat) : Nat.blt a b = decide (a < b) := by
  rw [Bool.eq_iff_iff]
  simp [Nat.blt, Nat.ble_eq, Nat.lt_iff_add_one_le]
omit Y in
theorem wrapN_is (k : IntKind) (r : Nat) (x : Int) (hr : (r : Int) = x % (2 ^ k.bits : Int)) (c : Int → Bool) : wrapN k r c = c (k.wrap x) := by
  unfold wrapN
  rw [forceN_is]
  have hlt : x % (2 ^ k.bits : Int) < 2 ^ k.bits := Int.emod_lt_of_pos _ (by cases k <;> decide)
  rw [blt_is]
  by_cases h1 : r < hK k
  · rw [decide_eq_true h1]
    show c ((r : Nat) : Int) = _
    congr 1
    cases k <;> simp only [IntKind.wrap, hK, pK, IntKind.signed, IntKind.bits, Bool.true_and, Bool.false_and, decide_eq_true_eq, ge_iff_le, Bool.false_eq_true, if_false] at * <;> first | omega | (split <;> omega)
  · rw [decide_eq_false h1]
    show c (Int.negSucc (pK k - 1 - r)) = _
    congr 1
    rw [Int.negSucc_eq]
    cases k <;> simp only [IntKind.wrap, hK, pK, IntKind.signed, IntKind.bits, Bool.true_and, Bool.false_and, decide_eq_true_eq, ge_iff_le, Bool.false_eq_true, if_false] at * <;> first | omega | (split <;> omega)
omit Y in
theorem wrapK_is (k : IntKind) (x : Int) (c : Int → Bool) : wrapK k x c = c (k.wrap x) := by
  unfold wrapK
  rw [forceN_is]
  exact wrapN_is k _ x (natK_is k x) c
omit Y in
theorem bv_natK (k : IntKind) (x : Int) : (BitVec.ofInt k.bits x).toNat = natK k x := by
  have h := natK_is k x
  rw [BitVec.toNat_ofInt]
  have : ((2 ^ k.bits : Nat) : Int) = (2 : Int) ^ k.bits := by simp
  rw [this, ← h]
  rfl
noncomputable def bitN (b : BinOp) (p m n : Nat) : Nat := match b with
  | .and => Nat.land m n
  | .or => Nat.lor m n
  | .xor => Nat.xor m n
  | _ => Nat.land m (Nat.sub (Nat.sub p 1) n)
noncomputable def bitsK (b : BinOp) (k : IntKind) (m n : Int) (c : Int → Bool) : Bool := forceN (natK k m) fun m => forceN (natK k n) fun n => forceN (bitN b (pK k) m n) fun r => wrapK k (.ofNat r) c
omit Y in
theorem bitsK_is (b : BinOp) (k : IntKind) (m n : Int) (c : Int → Bool) : bitsK b k m n c = c (bitsOf b k m n) := by
  unfold bitsK
  rw [forceN_is, forceN_is, forceN_is, wrapK_is]
  congr 1
  have hp : 2 ^ k.bits = pK k := by cases k <;> rfl
  cases b <;> simp only [bitN, bitsOf] <;> congr 1 <;> simp only [BitVec.toNat_and, BitVec.toNat_or, BitVec.toNat_xor, BitVec.toNat_not, bv_natK, hp] <;> rfl
noncomputable def ltI (m n : Int) : Bool := Int.rec (fun a => Int.rec (fun b => Nat.blt a b) (fun _ => false) n) (fun a => Int.rec (fun _ => true) (fun b => Nat.blt b a) n) m
omit Y in
theorem ltI_is (m n : Int) : ltI m n = decide (m < n) := by
  cases m with
  | ofNat a => cases n with
    | ofNat b =>
      show Nat.blt a b = _
      rw [blt_is]
      congr 1
      simp
    | negSucc b =>
      show false = _
      symm
      rw [decide_eq_false_iff_not]
      simp only [Int.negSucc_eq, Int.ofNat_eq_natCast]
      omega
  | negSucc a => cases n with
    | ofNat b =>
      show true = _
      symm
      rw [decide_eq_true_eq]
      simp only [Int.negSucc_eq, Int.ofNat_eq_natCast]
      omega
    | negSucc b =>
      show Nat.blt b a = _
      rw [blt_is, Bool.eq_iff_iff, decide_eq_true_eq, decide_eq_true_eq]
      simp only [Int.negSucc_eq]
      omega
noncomputable def eqI (m n : Int) : Bool := Int.rec (fun a => Int.rec (fun b => Nat.beq a b) (fun _ => false) n) (fun a => Int.rec (fun _ => false) (fun b => Nat.beq a b) n) m
omit Y in
theorem eqI_is (m n : Int) : eqI m n = (m == n) := by
  rw [Bool.eq_iff_iff, beq_iff_eq]
  cases m with
  | ofNat a => cases n with
    | ofNat b =>
      show Nat.beq a b = true ↔ _
      rw [Nat.beq_eq]
      exact Int.ofNat_inj.symm
    | negSucc b =>
      show false = true ↔ _
      simp
  | negSucc a => cases n with
    | ofNat b =>
      show false = true ↔ _
      simp
    | negSucc b =>
      show Nat.beq a b = true ↔ _
      simp
omit Y in
theorem litI_is {n : Int} : litI n = true ↔ -1237940039285380274899124224 < n ∧ n < 1237940039285380274899124224 := by
  unfold litI
  rw [blt_is, decide_eq_true_eq]
  omega
omit Y in
theorem smP_is {n : Int} : smP n = true ↔ -316912650057057350374175801344 < n ∧ n < 316912650057057350374175801344 := by
  unfold smP
  rw [blt_is, decide_eq_true_eq]
  omega
omit Y in
theorem lit_ok {n : Int} (h : litI n = true) : okA n = true := by
  rw [litI_is] at h
  have h1 : cstP n = n := by unfold cstP; omega
  have h2 : rstP n = 0 := by unfold rstP; omega
  unfold okA
  rw [h1, h2]
  simp only [Bool.and_eq_true, smP_is]
  exact ⟨⟨⟨by omega, by decide, by decide⟩, by decide, by decide⟩, by decide, by decide⟩
/-- four numbers that are not told: e1 at 2^100, e2 at 2^200, e3 at 2^300, e4 at 2^400 -/
def thOf (e1 e2 e3 e4 : Int) (n : Int) : Int := cstP n + e1 * cstP (rstP n) + e2 * cstP (rstP (rstP n)) + e3 * cstP (rstP (rstP (rstP n))) + e4 * rstP (rstP (rstP (rstP n)))
omit Y in
theorem cst_add {x y : Int} (hx : smP (cstP x) = true) (hy : smP (cstP y) = true) : cstP (x + y) = cstP x + cstP y ∧ rstP (x + y) = rstP x + rstP y := by
  rw [smP_is] at hx hy
  unfold cstP rstP at *
  omega
omit Y in
theorem cst_sub {x y : Int} (hx : smP (cstP x) = true) (hy : smP (cstP y) = true) : cstP (x - y) = cstP x - cstP y ∧ rstP (x - y) = rstP x - rstP y := by
  rw [smP_is] at hx hy
  unfold cstP rstP at *
  omega
omit Y in
theorem thOf_lit {e1 e2 e3 e4 n : Int} (h : litI n = true) : thOf e1 e2 e3 e4 n = n := by
  rw [litI_is] at h
  have h1 : cstP n = n := by unfold cstP; omega
  have h2 : rstP n = 0 := by unfold rstP; omega
  unfold thOf
  have a : rstP 0 = 0 := by decide
  have b : cstP 0 = 0 := by decide
  rw [h1, h2]
  simp only [a, b, Int.mul_zero, Int.add_zero]
omit Y in
theorem thOf_add {e1 e2 e3 e4 x y : Int} (hx : okA x = true) (hy : okA y = true) : thOf e1 e2 e3 e4 (x + y) = thOf e1 e2 e3 e4 x + thOf e1 e2 e3 e4 y := by
  unfold okA at hx hy
  simp only [Bool.and_eq_true] at hx hy
  obtain ⟨h1, h2⟩ := cst_add hx.1.1.1 hy.1.1.1
  obtain ⟨h3, h4⟩ := cst_add hx.1.1.2 hy.1.1.2
  obtain ⟨h5, h6⟩ := cst_add hx.1.2 hy.1.2
  obtain ⟨h7, h8⟩ := cst_add hx.2 hy.2
  unfold thOf
  rw [h1, h2, h3, h4, h5, h6, h7, h8, Int.mul_add, Int.mul_add, Int.mul_add, Int.mul_add]
  omega
omit Y in
theorem thOf_sub {e1 e2 e3 e4 x y : Int} (hx : okA x = true) (hy : okA y = true) : thOf e1 e2 e3 e4 (x - y) = thOf e1 e2 e3 e4 x - thOf e1 e2 e3 e4 y := by
  unfold okA at hx hy
  simp only [Bool.and_eq_true] at hx hy
  obtain ⟨h1, h2⟩ := cst_sub hx.1.1.1 hy.1.1.1
  obtain ⟨h3, h4⟩ := cst_sub hx.1.1.2 hy.1.1.2
  obtain ⟨h5, h6⟩ := cst_sub hx.1.2 hy.1.2
  obtain ⟨h7, h8⟩ := cst_sub hx.2 hy.2
  unfold thOf
  rw [h1, h2, h3, h4, h5, h6, h7, h8, Int.mul_sub, Int.mul_sub, Int.mul_sub, Int.mul_sub]
  omega
/-- intervals of forms, out of a table of what is known of their rests -/
noncomputable def rngOf (tb : List (Int × Int × Int)) (n : Int) : Option (Int × Int) := List.rec none (fun q _ ih => match eqI (rstP n) q.1 with
  | true => some (q.2.1 + cstP n, q.2.2 + cstP n)
  | false => ih) tb
omit Y in
theorem rngOf_ok {e1 e2 e3 e4 : Int} : ∀ {tb : List (Int × Int × Int)}, (∀ q ∈ tb, q.2.1 ≤ e1 * cstP q.1 + e2 * cstP (rstP q.1) + e3 * cstP (rstP (rstP q.1)) + e4 * rstP (rstP (rstP q.1)) ∧ e1 * cstP q.1 + e2 * cstP (rstP q.1) + e3 * cstP (rstP (rstP q.1)) + e4 * rstP (rstP (rstP q.1)) ≤ q.2.2) → ∀ {n lo hi : Int}, rngOf tb n = some (lo, hi) → lo ≤ thOf e1 e2 e3 e4 n ∧ thOf e1 e2 e3 e4 n ≤ hi
  | [], _, _, _, _, h => by cases h
  | q :: r, hq, n, lo, hi, h0 => by
    have h : (match eqI (rstP n) q.1 with
      | true => some (q.2.1 + cstP n, q.2.2 + cstP n)
      | false => rngOf r n) = some (lo, hi) := h0
    split at h
    · rename_i he
      rw [eqI_is, beq_iff_eq] at he
      cases h
      obtain ⟨h1, h2⟩ := hq q List.mem_cons_self
      unfold thOf
      rw [he]
      omega
    · exact rngOf_ok (fun p hp => hq p (List.mem_cons_of_mem _ hp)) h
@[instance_reducible] noncomputable def syOf (e1 e2 e3 e4 : Int) (tb : List (Int × Int × Int)) (h : ∀ q ∈ tb, q.2.1 ≤ e1 * cstP q.1 + e2 * cstP (rstP q.1) + e3 * cstP (rstP (rstP q.1)) + e4 * rstP (rstP (rstP q.1)) ∧ e1 * cstP q.1 + e2 * cstP (rstP q.1) + e3 * cstP (rstP (rstP q.1)) + e4 * rstP (rstP (rstP q.1)) ≤ q.2.2) : Sy := ⟨thOf e1 e2 e3 e4, rngOf tb, fun _ => thOf_lit, fun _ _ => thOf_add, fun _ _ => thOf_sub, fun _ _ _ => rngOf_ok h⟩
/-- less, decided -/
noncomputable def ltS (m n : Int) (c : Bool → Bool) : Bool := match litI m && litI n with
  | true => forceB (ltI m n) c
  | false => match okA m && okA n with
    | true => match litI (n - m) with
      | true => forceB (ltI 0 (n - m)) c
      | false => match Y.rng (n - m) with
        | some (lo, hi) => match ltI 0 lo with
          | true => c true
          | false => match ltI hi 1 with
            | true => c false
            | false => false
        | none => false
    | false => false
theorem ltS_ok {m n : Int} {c : Bool → Bool} (h : ltS m n c = true) : c (decide (Y.th m < Y.th n)) = true := by
  unfold ltS at h
  split at h
  · rename_i hl
    rw [Bool.and_eq_true] at hl
    rw [forceB_is, ltI_is] at h
    rw [Y.lit m hl.1, Y.lit n hl.2]
    exact h
  · split at h
    case h_2 => cases h
    rename_i ho
    rw [Bool.and_eq_true] at ho
    have hs := Y.sub n m ho.2 ho.1
    split at h
    · rename_i hd
      rw [forceB_is, ltI_is] at h
      rw [Y.lit _ hd] at hs
      rw [show decide (Y.th m < Y.th n) = decide (0 < n - m) by rw [Bool.eq_iff_iff]; simp only [decide_eq_true_eq]; omega]
      exact h
    · split at h
      case h_2 => cases h
      rename_i lo hi hr
      obtain ⟨r1, r2⟩ := Y.rng_ok _ _ _ hr
      split at h
      · rename_i h1
        rw [ltI_is, decide_eq_true_eq] at h1
        rw [decide_eq_true (by omega)]
        exact h
      · split at h
        · rename_i h1
          rw [ltI_is, decide_eq_true_eq] at h1
          rw [decide_eq_false (by omega)]
          exact h
        · cases h
noncomputable def eqS (m n : Int) (c : Bool → Bool) : Bool := match litI m && litI n with
  | true => forceB (eqI m n) c
  | false => match okA m && okA n with
    | true => match litI (n - m) with
      | true => forceB (eqI 0 (n - m)) c
      | false => match Y.rng (n - m) with
        | some (lo, hi) => match ltI 0 lo with
          | true => c false
          | false => match ltI hi 0 with
            | true => c false
            | false => false
        | none => false
    | false => false
theorem eqS_ok {m n : Int} {c : Bool → Bool} (h : eqS m n c = true) : c (Y.th m == Y.th n) = true := by
  unfold eqS at h
  split at h
  · rename_i hl
    rw [Bool.and_eq_true] at hl
    rw [forceB_is, eqI_is] at h
    rw [Y.lit m hl.1, Y.lit n hl.2]
    exact h
  · split at h
    case h_2 => cases h
    rename_i ho
    rw [Bool.and_eq_true] at ho
    have hs := Y.sub n m ho.2 ho.1
    split at h
    · rename_i hd
      rw [forceB_is, eqI_is] at h
      rw [Y.lit _ hd] at hs
      rw [show (Y.th m == Y.th n) = (0 == n - m) by rw [Bool.eq_iff_iff, beq_iff_eq, beq_iff_eq]; omega]
      exact h
    · split at h
      case h_2 => cases h
      rename_i lo hi hr
      obtain ⟨r1, r2⟩ := Y.rng_ok _ _ _ hr
      have hf : ∀ q : Y.th m ≠ Y.th n, (Y.th m == Y.th n) = false := fun q => by simpa using q
      split at h
      · rename_i h1
        rw [ltI_is, decide_eq_true_eq] at h1
        rw [hf (by omega)]
        exact h
      · split at h
        · rename_i h1
          rw [ltI_is, decide_eq_true_eq] at h1
          rw [hf (by omega)]
          exact h
        · cases h
def mnK : IntKind → Int
  | .i8 => -128
  | .i16 => -32768
  | .i32 => -2147483648
  | .i64 => -9223372036854775808
  | _ => 0
/-- a form, wrapped -/
noncomputable def wrapS (k : IntKind) (x : Int) (c : Int → Bool) : Bool := match litI x with
  | true => wrapK k x c
  | false => match Y.rng x with
    | some (lo, hi) => forceI (Int.ediv (lo - mnK k) (pK k)) fun j => match okA x && litI (j * pK k) && ltI (hi - j * pK k - mnK k) (pK k) with
      | true => forceI (x - j * pK k) c
      | false => false
    | none => false
theorem wrapS_ok {k : IntKind} {x : Int} {c : Int → Bool} (h : wrapS k x c = true) : ∃ y, (c y = true ∧ k.wrap (Y.th x) = Y.th y) ∨ (litI x = true ∧ c y = true ∧ y = k.wrap x) := by
  unfold wrapS at h
  split at h
  · rename_i hl
    rw [wrapK_is] at h
    exact ⟨_, .inr ⟨hl, h, rfl⟩⟩
  · split at h
    case h_2 => cases h
    rename_i lo hi hr
    rw [forceI_is] at h
    split at h
    case h_2 => cases h
    rename_i ho
    simp only [Bool.and_eq_true] at ho
    obtain ⟨⟨o1, o2⟩, o3⟩ := ho
    rw [forceI_is] at h
    rw [ltI_is, decide_eq_true_eq] at o3
    obtain ⟨r1, r2⟩ := Y.rng_ok _ _ _ hr
    refine ⟨_, .inl ⟨h, ?_⟩⟩
    rw [Y.sub _ _ o1 (lit_ok o2), Y.lit _ o2]
    generalize Y.th x = z at *
    have hj : ∃ j, Int.ediv (lo - mnK k) (pK k) = j := ⟨_, rfl⟩
    obtain ⟨j, hj⟩ := hj
    rw [hj] at o3 ⊢
    have hj' : (lo - mnK k) / (pK k : Int) = j := hj
    clear hj o2 h hr o1
    cases k <;> simp only [IntKind.wrap, pK, mnK, IntKind.signed, IntKind.bits, Bool.true_and, Bool.false_and, decide_eq_true_eq, ge_iff_le, Bool.false_eq_true, if_false] at * <;> first | omega | (split <;> omega)
omit Y in
theorem wrap_lit (k : IntKind) (x : Int) : litI (k.wrap x) = true := by
  rw [litI_is]
  cases k <;> simp only [IntKind.wrap, IntKind.signed, IntKind.bits, Bool.true_and, Bool.false_and, decide_eq_true_eq, ge_iff_le, Bool.false_eq_true, if_false] <;> first | omega | (split <;> omega)
/-- an integer that is told -/
noncomputable def litK (k : IntKind) (n : Int) (c : Value → Bool) : Bool := match litI n with
  | true => c (.int k n)
  | false => false
theorem litK_ok {k : IntKind} {n : Int} {c : Value → Bool} (h : litK k n c = true) : Y.th n = n ∧ c (.int k n) = true := by
  unfold litK at h
  split at h
  · rename_i hl
    exact ⟨Y.lit n hl, h⟩
  · cases h
/-- both are told -/
noncomputable def lit2 (m n : Int) (c : Bool) : Bool := match litI m && litI n with
  | true => c
  | false => false
theorem lit2_ok {m n : Int} {c : Bool} (h : lit2 m n c = true) : Y.th m = m ∧ Y.th n = n ∧ c = true := by
  unfold lit2 at h
  split at h
  · rename_i hl
    rw [Bool.and_eq_true] at hl
    exact ⟨Y.lit m hl.1, Y.lit n hl.2, h⟩
  · cases h
noncomputable def sumS (k : IntKind) (m n x : Int) (c : Int → Bool) : Bool := match litI m && litI n with
  | true => wrapK k x c
  | false => match okA m && okA n with
    | true => wrapS k x c
    | false => false
theorem sumS_ok {k : IntKind} {m n x z : Int} {c : Int → Bool} (h1 : litI m = true → litI n = true → z = x) (h2 : okA m = true → okA n = true → z = Y.th x) (h : sumS k m n x c = true) : ∃ y, c y = true ∧ k.wrap z = Y.th y := by
  unfold sumS at h
  split at h
  · rename_i hl
    rw [Bool.and_eq_true] at hl
    rw [wrapK_is] at h
    exact ⟨_, h, by rw [h1 hl.1 hl.2, Y.lit _ (wrap_lit k x)]⟩
  · split at h
    case h_2 => cases h
    rename_i ho
    rw [Bool.and_eq_true] at ho
    rw [h2 ho.1 ho.2]
    obtain ⟨y, hy | ⟨q1, q2, q3⟩⟩ := wrapS_ok h
    · exact ⟨y, hy⟩
    · refine ⟨y, q2, ?_⟩
      rw [Y.lit x q1, q3, Y.lit _ (wrap_lit k x)]
/-- the rest by a number that is told, where all that it may be lies in one window -/
noncomputable def remS (m n : Int) (c : Int → Bool) : Bool := match ltI 0 n && litI n && okA m with
  | true => match Y.rng m with
    | some (lo, hi) => match ltI lo 0 with
      | true => false
      | false => forceI (Int.ediv lo n) fun j => match litI (j * n) && ltI hi (j * n + n) with
        | true => forceI (m - j * n) c
        | false => false
    | none => false
  | false => false
theorem remS_ok {m n : Int} {c : Int → Bool} (h : remS m n c = true) : Y.th n ≠ 0 ∧ ∃ y, c y = true ∧ (Y.th m).tmod (Y.th n) = Y.th y := by
  unfold remS at h
  split at h
  case h_2 => cases h
  rename_i ho
  simp only [Bool.and_eq_true, ltI_is, decide_eq_true_eq] at ho
  obtain ⟨⟨o1, o2⟩, o3⟩ := ho
  split at h
  case h_2 => cases h
  rename_i lo hi hr
  split at h
  · cases h
  rename_i hl
  rw [ltI_is, decide_eq_false_iff_not] at hl
  rw [forceI_is] at h
  split at h
  case h_2 => cases h
  rename_i hj
  simp only [Bool.and_eq_true, ltI_is, decide_eq_true_eq] at hj
  obtain ⟨j1, j2⟩ := hj
  rw [forceI_is] at h
  obtain ⟨r1, r2⟩ := Y.rng_ok _ _ _ hr
  rw [Y.lit n o2]
  refine ⟨by omega, _, h, ?_⟩
  rw [Y.sub _ _ o3 (lit_ok j1), Y.lit _ j1]
  have hj : lo.ediv n * n ≤ lo := Int.ediv_mul_le lo (by omega)
  generalize lo.ediv n = q at *
  generalize Y.th m = z at *
  have hz : z = (z - q * n) + q * n := by omega
  rw [Int.tmod_eq_emod_of_nonneg (by omega)]
  rw [hz, Int.add_mul_emod_self_right, Int.emod_eq_of_lt (by omega) (by omega)]
  omega
noncomputable def arithK (b : BinOp) (k : IntKind) (m n : Int) (c : Value → Bool) : Bool := match b with
  | .add => sumS k m n (Int.add m n) fun s => c (.int k s)
  | .sub => sumS k m n (Int.sub m n) fun s => c (.int k s)
  | .mul => lit2 m n (wrapK k (Int.mul m n) fun s => c (.int k s))
  | .quo => lit2 m n (Bool.rec (wrapK k (m.tdiv n) fun s => c (.int k s)) false (eqI n 0))
  | .rem => match litI m && litI n with
    | true => lit2 m n (Bool.rec (forceI (m.tmod n) fun s => litK k s c) false (eqI n 0))
    | false => remS m n fun s => c (.int k s)
  | .and | .or | .xor | .andNot => lit2 m n (bitsK b k m n fun s => litK k s c)
  | .eql => eqS m n fun b => forceB b fun b => c (.bool b)
  | .neq => eqS m n fun b => forceB (!b) fun b => c (.bool b)
  | .lss => ltS m n fun b => forceB b fun b => c (.bool b)
  | .geq => ltS m n fun b => forceB (!b) fun b => c (.bool b)
  | .gtr => ltS n m fun b => forceB b fun b => c (.bool b)
  | .leq => ltS n m fun b => forceB (!b) fun b => c (.bool b)
  | _ => false
noncomputable def shiftK (b : BinOp) (k : IntKind) (m n : Int) (c : Value → Bool) : Bool := lit2 m n (Bool.rec (match b with
  | .shl => wrapK k (Int.mul m (.ofNat (Nat.pow 2 (Nat.min n.toNat k.bits)))) fun s => c (.int k s)
  | .shr => forceI (m.fdiv (.ofNat (Nat.pow 2 (Nat.min n.toNat k.bits)))) fun s => litK k s c
  | _ => false) false (ltI n 0))
variable {P : Program}
/-- what is known of an operation that looks at no memory -/
def OpS (P : Program) (t : Tr Value) (op : Op) (v : Value) : Prop := ∀ (ρ : Rl) (n : Nat) (df : List Deferred) (a : Act) (w : World) (R : Value → World → Prop) (d : Option Tmp) (ty : TypeId) (pos : String) (af : Array Edge) (g : Option (Nat × Bool)),
  FrR ρ n df t a → (∀ u, VR ρ v u → R u w) → OpTo P ⟨d, op, ty, pos, af, g⟩ a.eval w R
theorem OpdR.int {t : Tr Value} {x : Operand} {k : IntKind} {m : Int} (h : OpdR t x (.int k m)) {ρ : Rl} {n : Nat} {df : List Deferred} {a : Act} (F : FrR ρ n df t a) : a.eval x = .int k (Y.th m) := by
  have := h ρ n df a F
  generalize a.eval x = u at *
  cases this
  rfl
theorem OpdR.intT {t : Tr Value} {x : Operand} {k : IntKind} {m : Int} (h : OpdR t x (.int k m)) (e : Y.th m = m) {ρ : Rl} {n : Nat} {df : List Deferred} {a : Act} (F : FrR ρ n df t a) : a.eval x = .int k m := by
  rw [h.int F, e]
theorem OpdR.bool {t : Tr Value} {x : Operand} {b : Bool} (h : OpdR t x (.bool b)) {ρ : Rl} {n : Nat} {df : List Deferred} {a : Act} (F : FrR ρ n df t a) : a.eval x = .bool b := by
  have := h ρ n df a F
  generalize a.eval x = u at *
  cases this
  rfl
theorem VR.lit {ρ : Rl} {k : IntKind} {n : Int} (h : Y.th n = n) : VR ρ (.int k n) (.int k n) := by
  have := VR.int (ρ := ρ) k n
  rwa [h] at this
theorem VR.wr {ρ : Rl} {k k' : IntKind} {x : Int} : VR ρ (.int k (k'.wrap x)) (.int k (k'.wrap x)) := VR.lit (Y.lit _ (wrap_lit k' x))
theorem arithK_ok {t : Tr Value} {x y : Operand} {tt t' : TypeId} {b : BinOp} {k : IntKind} {m n : Int} {c : Value → Bool} (hx : OpdR t x (.int k m)) (hy : OpdR t y (.int k n)) (h : arithK b k m n c = true) : ∃ v, OpS P t (.binOp b tt x y t') v ∧ c v = true := by
  have hd : ∀ b : Bool, ∀ f : Bool → Bool, forceB b f = f b := forceB_is
  have hz : ∀ f : Bool, (Bool.rec f false (eqI n 0) : Bool) = true → n ≠ 0 ∧ f = true := fun f h => by
    rw [eqI_is] at h
    cases hz : (n == 0) with
    | true => rw [hz] at h; cases h
    | false => rw [hz] at h; exact ⟨by simpa using hz, h⟩
  cases b with
  | add =>
    obtain ⟨s, h1, h2⟩ := sumS_ok (z := Y.th m + Y.th n) (fun l1 l2 => by rw [Y.lit m l1, Y.lit n l2]) (fun o1 o2 => (Y.add m n o1 o2).symm) h
    exact ⟨_, fun ρ nn df a w R d ty pos af g F hR => o_add (hx.int F) (hy.int F) h2 (hR _ (.int _ _)), h1⟩
  | sub =>
    obtain ⟨s, h1, h2⟩ := sumS_ok (z := Y.th m - Y.th n) (fun l1 l2 => by rw [Y.lit m l1, Y.lit n l2]) (fun o1 o2 => (Y.sub m n o1 o2).symm) h
    exact ⟨_, fun ρ nn df a w R d ty pos af g F hR => o_sub (hx.int F) (hy.int F) h2 (hR _ (.int _ _)), h1⟩
  | mul =>
    obtain ⟨e1, e2, h⟩ := lit2_ok h
    rw [wrapK_is] at h
    exact ⟨_, fun ρ nn df a w R d ty pos af g F hR => o_mul (hx.int F) (hy.int F) (by rw [e1, e2]; rfl) (hR _ .wr), h⟩
  | quo =>
    obtain ⟨e1, e2, h⟩ := lit2_ok h
    obtain ⟨h0, h1⟩ := hz _ h
    rw [wrapK_is] at h1
    exact ⟨_, fun ρ nn df a w R d ty pos af g F hR => o_quo (hx.int F) (hy.int F) (by rw [e2]; exact h0) (by rw [e1, e2]) (hR _ .wr), h1⟩
  | rem =>
    have h0 : (match litI m && litI n with
      | true => lit2 m n (Bool.rec (forceI (m.tmod n) fun s => litK k s c) false (eqI n 0))
      | false => remS m n fun s => c (.int k s) : Bool) = true := h
    clear h
    split at h0
    case h_2 =>
      obtain ⟨e1, y, h1, e2⟩ := remS_ok h0
      exact ⟨_, fun ρ nn df a w R d ty pos af g F hR => o_rem (hx.int F) (hy.int F) e1 e2 (hR _ (.int _ _)), h1⟩
    obtain ⟨e1, e2, h⟩ := lit2_ok h0
    obtain ⟨h0, h1⟩ := hz _ h
    rw [forceI_is] at h1
    obtain ⟨e3, h1⟩ := litK_ok h1
    exact ⟨_, fun ρ nn df a w R d ty pos af g F hR => o_rem (hx.int F) (hy.int F) (by rw [e2]; exact h0) (by rw [e1, e2]) (hR _ (.lit e3)), h1⟩
  | and =>
    obtain ⟨e1, e2, h⟩ := lit2_ok h
    rw [bitsK_is] at h
    obtain ⟨e3, h1⟩ := litK_ok h
    exact ⟨_, fun ρ nn df a w R d ty pos af g F hR => o_and (hx.int F) (hy.int F) (by rw [e1, e2]) (hR _ (.lit e3)), h1⟩
  | or =>
    obtain ⟨e1, e2, h⟩ := lit2_ok h
    rw [bitsK_is] at h
    obtain ⟨e3, h1⟩ := litK_ok h
    exact ⟨_, fun ρ nn df a w R d ty pos af g F hR => o_or (hx.int F) (hy.int F) (by rw [e1, e2]) (hR _ (.lit e3)), h1⟩
  | xor =>
    obtain ⟨e1, e2, h⟩ := lit2_ok h
    rw [bitsK_is] at h
    obtain ⟨e3, h1⟩ := litK_ok h
    exact ⟨_, fun ρ nn df a w R d ty pos af g F hR => o_xor (hx.int F) (hy.int F) (by rw [e1, e2]) (hR _ (.lit e3)), h1⟩
  | andNot =>
    obtain ⟨e1, e2, h⟩ := lit2_ok h
    rw [bitsK_is] at h
    obtain ⟨e3, h1⟩ := litK_ok h
    exact ⟨_, fun ρ nn df a w R d ty pos af g F hR => o_andNot (hx.int F) (hy.int F) (by rw [e1, e2]) (hR _ (.lit e3)), h1⟩
  | eql =>
    have h := eqS_ok h
    rw [hd] at h
    exact ⟨_, fun ρ nn df a w R d ty pos af g F hR => o_eql (hx.int F) (hy.int F) (hR _ (.bool _)), h⟩
  | neq =>
    have h := eqS_ok h
    rw [hd] at h
    exact ⟨_, fun ρ nn df a w R d ty pos af g F hR => o_neq (hx.int F) (hy.int F) (hR _ (.bool _)), h⟩
  | lss =>
    have h := ltS_ok h
    rw [hd] at h
    exact ⟨_, fun ρ nn df a w R d ty pos af g F hR => o_lss (hx.int F) (hy.int F) (hR _ (.bool _)), h⟩
  | gtr =>
    have h := ltS_ok h
    rw [hd] at h
    exact ⟨_, fun ρ nn df a w R d ty pos af g F hR => o_gtr (hx.int F) (hy.int F) (hR _ (.bool _)), h⟩
  | leq =>
    have h := ltS_ok h
    rw [hd] at h
    exact ⟨_, fun ρ nn df a w R d ty pos af g F hR => o_leq (hx.int F) (hy.int F) (hR _ (.bool _)), by rw [show decide (Y.th m ≤ Y.th n) = !decide (Y.th n < Y.th m) by rw [Bool.eq_iff_iff]; simp]; exact h⟩
  | geq =>
    have h := ltS_ok h
    rw [hd] at h
    exact ⟨_, fun ρ nn df a w R d ty pos af g F hR => o_geq (hx.int F) (hy.int F) (hR _ (.bool _)), by rw [show decide (Y.th n ≤ Y.th m) = !decide (Y.th m < Y.th n) by rw [Bool.eq_iff_iff]; simp]; exact h⟩
  | _ => cases h
theorem shiftK_ok {t : Tr Value} {x y : Operand} {tt t' : TypeId} {b : BinOp} {k k' : IntKind} {m n : Int} {c : Value → Bool} (hx : OpdR t x (.int k m)) (hy : OpdR t y (.int k' n)) (h : shiftK b k m n c = true) : ∃ v, OpS P t (.binOp b tt x y t') v ∧ c v = true := by
  unfold shiftK at h
  obtain ⟨e1, e2, h⟩ := lit2_ok h
  rw [ltI_is] at h
  cases hz : decide (n < 0) with
  | true => rw [hz] at h; cases h
  | false =>
    rw [hz] at h
    have h0 : 0 ≤ n := by simpa using hz
    have hp : ∀ e : Nat, Int.ofNat (Nat.pow 2 e) = (2 : Int) ^ e := fun e => by
      show ((2 ^ e : Nat) : Int) = _
      simp
    dsimp only at h
    split at h
    · rw [wrapK_is] at h
      exact ⟨_, fun ρ nn df a w R d ty pos af g F hR => o_shl (hx.int F) (hy.int F) (by rw [e2]; exact h0) (by rw [e1, e2, ← hp]; rfl) (hR _ .wr), h⟩
    · rw [forceI_is] at h
      obtain ⟨e3, h1⟩ := litK_ok h
      exact ⟨_, fun ρ nn df a w R d ty pos af g F hR => o_shr (hx.int F) (hy.int F) (by rw [e2]; exact h0) (by rw [e1, e2, ← hp]) (hR _ (.lit e3)), h1⟩
    · cases h
end Go.Proofs.YtchmcdkmlmknnaaGreat
/-! RunD -/
namespace Go.Proofs.YtchmcdkmlmknnaaGreat
set_option linter.unusedVariables false
set_option linter.unusedSimpArgs false
open Go.RowKit
variable [Y : Sy]
/-! ### types -/
noncomputable def fldOff (P : Program) (s : TypeId) (i : Nat) : Option Nat := match P.underlying s with
  | some (.struct fs) => match fs[i]? with
    | some f => match P.info? f.type with
      | some j => Bool.rec (some f.offset) none (Nat.beq j.size 0)
      | none => none
    | none => none
  | _ => none
omit Y in
theorem fldOff_ok {P : Program} {s : TypeId} {i off : Nat} (h : fldOff P s i = some off) : fieldAtB P s i off = true := by
  unfold fldOff at h
  unfold fieldAtB
  split at h
  · rename_i fs hu
    split at h
    · rename_i f hf
      split at h
      · rename_i j hj
        cases hb : Nat.beq j.size 0 with
        | true => rw [hb] at h; cases h
        | false =>
          rw [hb] at h
          have h' : f.offset = off := by simpa using h
          subst h'
          have : j.size ≠ 0 := fun e => by rw [e] at hb; cases hb
          simp [hu, hf, hj, this]
      · cases h
    · cases h
  · cases h
noncomputable def fldTy (P : Program) (s : TypeId) (i : Nat) : Option (Nat × TypeId) := match P.underlying s with
  | some (.struct fs) => match fs[i]? with
    | some f => some (f.offset, f.type)
    | none => none
  | _ => none
omit Y in
theorem fldTy_ok {P : Program} {s : TypeId} {i : Nat} {q : Nat × TypeId} (h : fldTy P s i = some q) : fieldTyB P s i q.1 q.2 = true := by
  unfold fldTy at h
  unfold fieldTyB
  split at h
  · rename_i fs hu
    split at h
    · rename_i f hf
      cases h
      simp [hu, hf]
    · cases h
  · cases h
omit Y in
theorem sizeIs_of {P : Program} {t : TypeId} {i : _} (h : P.info? t = some i) : sizeIs P t i.size = true := by simp [sizeIs, h]
/-- a part of a row of cells, as a value of the type -/
noncomputable def partK (P : Program) (ft : TypeId) (l : List Value) (off : Nat) (c : Value → Bool) : Bool := match isAggT P ft with
  | true => match P.info? ft with
    | some i => segK l off i.size fun vs => c (.agg vs.toArray)
    | none => false
  | false => match oneTy P ft with
    | true => nthK l off c
    | false => false
omit Y in
theorem partK_ok {P : Program} {ft : TypeId} {l : List Value} {off : Nat} {c : Value → Bool} (h : partK P ft l off c = true) :
    (oneTy P ft = true ∧ ∃ v, nth l off = some v ∧ c v = true) ∨ ∃ n, aggTy P ft n = true ∧ ∃ vs, seg l off n = some vs ∧ c (.agg vs.toArray) = true := by
  unfold partK at h
  split at h
  · rename_i hb
    split at h
    · rename_i i hi
      obtain ⟨vs, h1, h2⟩ := segK_ok h
      refine .inr ⟨i.size, ?_, vs, h1, h2⟩
      unfold isAggT at hb
      unfold aggTy
      simp only [hi, Option.map_some, BEq.rfl, Bool.and_true]
      split at hb <;> simp_all
    · cases h
  · split at h
    · rename_i h1
      exact .inl ⟨h1, nthK_ok h⟩
    · cases h
/-! ### operations -/
variable {P : Program} {t : Tr Value}
theorem okNil_vr {ρ : Rl} {v u : Value} (h : VR ρ v u) (hv : okNil v = true) : okNil u = true := by
  cases h <;> first | rfl | exact hv | (simp [okNil] at hv) | skip
  rename_i f vs us vs' us' _ _
  cases f <;> first | rfl | (simp [okNil] at hv)
noncomputable def unK (o : UnOp) (v : Value) (c : Value → Bool) : Bool := match o, v with
  | .not, .bool b => forceB (!b) fun b => c (.bool b)
  | .neg, .int k n => lit2 0 n (wrapK k (Int.sub 0 n) fun s => c (.int k s))
  | .xor, .int k n => lit2 0 n (bitsK .xor k (if k.signed then -1 else k.max) n fun s => litK k s c)
  | _, _ => false
theorem unK_ok {o : UnOp} {x : Operand} {tt : TypeId} {v : Value} {c : Value → Bool} (hx : OpdR t x v) (h : unK o v c = true) : ∃ v', OpS P t (.unOp o tt x) v' ∧ c v' = true := by
  unfold unK at h
  split at h
  · rw [forceB_is] at h
    exact ⟨_, fun ρ n df a w R d ty pos af g F hR => o_not (hx.bool F) (hR _ (.bool _)), h⟩
  · obtain ⟨_, e2, h⟩ := lit2_ok h
    rw [wrapK_is] at h
    exact ⟨_, fun ρ n df a w R d ty pos af g F hR => o_neg (hx.int F) (by rw [e2]; rfl) (hR _ .wr), h⟩
  · obtain ⟨_, e2, h⟩ := lit2_ok h
    rw [bitsK_is] at h
    obtain ⟨e3, h⟩ := litK_ok h
    exact ⟨_, fun ρ n df a w R d ty pos af g F hR => o_compl (hx.int F) (by rw [e2]) (hR _ (.lit e3)), h⟩
  · cases h
/-- cells whose integers are told -/
noncomputable def litsK (l : List Value) : Bool := List.rec true (fun x _ ih => match x with
  | .int _ n => Bool.rec false ih (litI n)
  | _ => ih) l
theorem litsK_cons {x : Value} {xs : List Value} (h : litsK (x :: xs) = true) : litsK xs = true ∧ ∀ k n, x = .int k n → Y.th n = n := by
  cases x
  case int k n =>
    have h' : (Bool.rec false (litsK xs) (litI n) : Bool) = true := h
    cases hn : litI n with
    | false => rw [hn] at h'; cases h'
    | true =>
      rw [hn] at h'
      exact ⟨h', fun k' n' e => by cases e; exact Y.lit n hn⟩
  all_goals exact ⟨h, fun k n e => by cases e⟩
theorem fits_same {ρ : Rl} : ∀ {ks : List LK} {xs us : List Value}, VRs ρ xs us → litsK xs = true → fitsK ks xs = true → us = xs
  | _, _, _, .nil, _, _ => rfl
  | [], _, _, .cons _ _, _, h => by simp [fitsK] at h
  | k :: ks, _, _, .cons h t, hl, hf => by
    simp only [fitsK, Bool.and_eq_true] at hf
    obtain ⟨hl1, hl2⟩ := litsK_cons hl
    rw [fits_same t hl1 hf.2]
    congr 1
    cases k <;> cases h <;> first | rfl | (rw [hl2 _ _ rfl]; done) | (simp [fitK] at hf)
theorem fits_vr {ρ : Rl} : ∀ {ks : List LK} {xs us : List Value}, VRs ρ xs us → fitsK ks xs = true → fitsK ks us = true
  | _, _, _, .nil, h => h
  | [], _, _, .cons _ _, h => by simp [fitsK] at h
  | k :: ks, _, _, .cons h t, hf => by
    simp only [fitsK, Bool.and_eq_true] at hf ⊢
    refine ⟨?_, fits_vr t hf.2⟩
    cases k <;> cases h <;> first | exact hf.1 | (simp [fitK] at hf)
/-- cells compared, told or not -/
noncomputable def eqVsS (l : List Value) : List Value → (Bool → Bool) → Bool := List.rec (motive := fun _ => List Value → (Bool → Bool) → Bool) (fun l2 c => List.rec (c true) (fun _ _ _ => false) l2) (fun x _ ih l2 c => List.rec false (fun y ys _ => match x, y with
  | .int _ a, .int _ b => eqS a b fun r => Bool.rec (c false) (ih ys c) r
  | .bool a, .bool b => Bool.rec (Bool.rec (ih ys c) (c false) b) (Bool.rec (c false) (ih ys c) b) a
  | _, _ => false) l2) l
theorem eqVsS_ok : ∀ {xs ys : List Value} {c : Bool → Bool}, eqVsS xs ys c = true → ∃ r, c r = true ∧ ∀ {ρ : Rl} {us us' : List Value}, VRs ρ xs us → VRs ρ ys us' → eqVs us us' = r
  | [], [], c, h => ⟨true, h, fun h1 h2 => by cases h1; cases h2; rfl⟩
  | [], _ :: _, c, h => by cases h
  | _ :: _, [], c, h => by cases h
  | x :: xs, y :: ys, c, h => by
    cases x
    case int k a =>
      cases y
      case int k' b =>
       have h' : (eqS a b fun r => Bool.rec (c false) (eqVsS xs ys c) r) = true := h
       clear h
       have h := eqS_ok h'
       cases hr : (Y.th a == Y.th b) with
       | false =>
         rw [hr] at h
         exact ⟨false, h, fun h1 h2 => by
           cases h1 with | cons u1 t1 =>
           cases h2 with | cons u2 t2 =>
           cases u1
           cases u2
           simp only [eqVs, eqV, hr, Bool.false_and]⟩
       | true =>
         rw [hr] at h
         obtain ⟨r, h1, h2⟩ := eqVsS_ok h
         exact ⟨r, h1, fun k1 k2 => by
           cases k1 with | cons u1 t1 =>
           cases k2 with | cons u2 t2 =>
           cases u1
           cases u2
           simp only [eqVs, eqV, hr, Bool.true_and]
           exact h2 t1 t2⟩
      all_goals cases h
    case bool a =>
      cases y
      case bool b =>
       have hh : ∀ r : Bool, (a == b) = r → (Bool.rec (c false) (eqVsS xs ys c) r : Bool) = true → ∃ r, c r = true ∧ ∀ {ρ : Rl} {us us' : List Value}, VRs ρ (.bool a :: xs) us → VRs ρ (.bool b :: ys) us' → eqVs us us' = r := fun r hr h => by
         cases r with
         | false => exact ⟨false, h, fun h1 h2 => by
             cases h1 with | cons u1 t1 =>
             cases h2 with | cons u2 t2 =>
             cases u1
             cases u2
             simp only [eqVs, eqV, hr, Bool.false_and]⟩
         | true =>
           obtain ⟨r, h1, h2⟩ := eqVsS_ok h
           exact ⟨r, h1, fun k1 k2 => by
             cases k1 with | cons u1 t1 =>
             cases k2 with | cons u2 t2 =>
             cases u1
             cases u2
             simp only [eqVs, eqV, hr, Bool.true_and]
             exact h2 t1 t2⟩
       cases a <;> cases b <;> exact hh _ rfl h
      all_goals cases h
    all_goals (cases y <;> cases h)
noncomputable def eqVsK (l : List Value) : List Value → Bool := List.rec (motive := fun _ => List Value → Bool) (fun l2 => List.rec true (fun _ _ _ => false) l2) (fun x _ ih l2 => List.rec false (fun y ys _ => Bool.rec false (ih ys) (match x, y with | .int _ a, .int _ b => eqI a b | .bool a, .bool b => (match a, b with | true, true => true | false, false => true | _, _ => false) | _, _ => false)) l2) l
omit Y in
theorem eqVsK_is : ∀ (xs ys : List Value), eqVsK xs ys = eqVs xs ys
  | [], [] => rfl
  | [], _ :: _ => rfl
  | _ :: _, [] => rfl
  | x :: xs, y :: ys => by
    show (Bool.rec false (eqVsK xs ys) (match x, y with | .int _ a, .int _ b => eqI a b | .bool a, .bool b => (match a, b with | true, true => true | false, false => true | _, _ => false) | _, _ => false) : Bool) = _
    rw [eqVsK_is xs ys]
    show _ = (eqV x y && eqVs xs ys)
    have : (match x, y with | .int _ a, .int _ b => eqI a b | .bool a, .bool b => (match a, b with | true, true => true | false, false => true | _, _ => false) | _, _ => false) = eqV x y := by
      unfold eqV
      split
      · exact eqI_is _ _
      · rename_i a b
        cases a <;> cases b <;> rfl
      · rename_i h1 h2
        split
        · rename_i k a k' b
          exact (h1 _ _ _ _ rfl rfl).elim
        · rename_i a b
          exact (h2 _ _ rfl rfl).elim
        · rfl
    rw [this]
    cases eqV x y <;> rfl
omit Y in
theorem o_neqNil {ρ : Operand → Value} {w : World} {R : Value → World → Prop} {d : Option Tmp} {ty : TypeId} {pos : String} {af : Array Edge} {g : Option (Nat × Bool)} {t t' e : TypeId} {x y : Operand} {p : Option Addr} {n c : Nat} (hx : ρ x = .slice p n c) (hy : ρ y = .slice none 0 0) [ht : TU P t (.slice e)] (h : R (.bool !p.isNone) w) : OpTo P ⟨d, .binOp .neq t x y t', ty, pos, af, g⟩ ρ w R := by
  have hr0 : ∀ k : Nat, (Op.equalIn (k + 1) t (.slice p n c) (.slice none 0 0)).run P w = .ok p.isNone w := fun k => by
    cases p <;> simp [Op.equalIn, run_underlying ht.h]
  have hr := hr0 9999
  exact OpTo.val (v := .bool !p.isNone) (w' := w) (by simp [execOp, eqGuard, binOp, Op.equal, Op.maxDepth, hx, hy, hr]) h
noncomputable def aggEqK (P : Program) (tt : TypeId) (xs ys : List Value) (c : Bool → Bool) : Bool := match leafK P 8 tt with
  | some ks => match isAggT P tt && !P.eqGuardType P.depth tt with
    | true => match fitsK ks xs with
      | true => match fitsK ks ys with
        | true => eqVsS xs ys c
        | false => false
      | false => false
    | false => false
  | none => false
noncomputable def binK (P : Program) (b : BinOp) (tt : TypeId) (v u : Value) (c : Value → Bool) : Bool := match v, u with
  | .int k m, .int k' n => match b with
    | .shl => shiftK .shl k m n c
    | .shr => shiftK .shr k m n c
    | b => match kEqR k k' with
      | true => arithK b k m n c
      | false => false
  | .bool p, .bool q => match P.underlying tt with
    | some .bool => match b with
      | .eql => forceB (p == q) fun b => c (.bool b)
      | .neq => forceB (!(p == q)) fun b => c (.bool b)
      | _ => false
    | _ => false
  | .agg xs, .agg ys => match b with
    | .eql => aggEqK P tt xs.toList ys.toList fun b => c (.bool b)
    | .neq => aggEqK P tt xs.toList ys.toList fun b => forceB (!b) fun b => c (.bool b)
    | _ => false
  | .slice p _ _, .slice none 0 0 => match P.underlying tt with
    | some (.slice _) => match b with
      | .eql => forceB p.isNone fun b => c (.bool b)
      | .neq => forceB (!p.isNone) fun b => c (.bool b)
      | _ => false
    | _ => false
  | _, _ => false
theorem OpdR.agg {x : Operand} {cs : Array Value} (h : OpdR t x (.agg cs)) {ρ : Rl} {n : Nat} {df : List Deferred} {a : Act} (F : FrR ρ n df t a) : ∃ us, a.eval x = .agg us.toArray ∧ VRs ρ cs.toList us := by
  have := h ρ n df a F
  generalize a.eval x = u at *
  cases this
  rename_i us h
  exact ⟨us, rfl, h⟩
theorem OpdR.tup {x : Operand} {cs : Array Value} (h : OpdR t x (.tuple cs)) {ρ : Rl} {n : Nat} {df : List Deferred} {a : Act} (F : FrR ρ n df t a) : ∃ us, a.eval x = .tuple us.toArray ∧ VRs ρ cs.toList us := by
  have := h ρ n df a F
  generalize a.eval x = u at *
  cases this
  rename_i us h
  exact ⟨us, rfl, h⟩
theorem OpdR.ptr {x : Operand} {b o : Nat} (h : OpdR t x (.pointer (some ⟨b, o, none⟩))) {ρ : Rl} {n : Nat} {df : List Deferred} {a : Act} (F : FrR ρ n df t a) : ∃ r c, a.eval x = .pointer (some ⟨r, o, none⟩) ∧ ρ b = some (r, c) := by
  have := h ρ n df a F
  generalize a.eval x = u at *
  cases this
  rename_i r c h
  exact ⟨r, c, rfl, h⟩
theorem aggEqK_ok {tt : TypeId} {xs ys : List Value} {c : Bool → Bool} (h : aggEqK P tt xs ys c = true) : ∃ ks, eqB P tt ks = true ∧ fitsK ks xs = true ∧ fitsK ks ys = true ∧ ∃ r, c r = true ∧ ∀ {ρ : Rl} {us us' : List Value}, VRs ρ xs us → VRs ρ ys us' → eqVs us us' = r := by
  unfold aggEqK at h
  split at h
  · rename_i ks hk
    split at h
    · rename_i h1
      split at h
      · rename_i h2
        split at h
        · rename_i h3
          refine ⟨ks, ?_, h2, h3, eqVsS_ok h⟩
          simp only [Bool.and_eq_true] at h1
          simp [eqB, hk, h1.1, h1.2]
        · cases h
      · cases h
    · cases h
  · cases h
theorem VR.slice {ρ : Rl} {p : Option Addr} {n k : Nat} {u : Value} (h : VR ρ (.slice p n k) u) : ∃ q k', u = .slice q n k' ∧ q.isNone = p.isNone := by
  cases h
  · exact ⟨none, k, rfl, rfl⟩
  · exact ⟨_, _, rfl, rfl⟩
  · exact ⟨_, _, rfl, rfl⟩
theorem binK_ok {b : BinOp} {x y : Operand} {tt t' : TypeId} {v u : Value} {c : Value → Bool} (hx : OpdR t x v) (hy : OpdR t y u) (h : binK P b tt v u c = true) : ∃ v', OpS P t (.binOp b tt x y t') v' ∧ c v' = true := by
  unfold binK at h
  split at h
  · split at h
    · exact shiftK_ok hx hy h
    · exact shiftK_ok hx hy h
    · split at h
      · rename_i hk
        obtain rfl := kEq_ok' hk
        exact arithK_ok hx hy h
      · cases h
  · split at h
    · rename_i hu
      haveI : TU P tt .bool := ⟨hu⟩
      split at h
      · rw [forceB_is] at h
        exact ⟨_, fun ρ n df a w R d ty pos af g F hR => o_eqlB (hx.bool F) (hy.bool F) (hR _ (.bool _)), h⟩
      · rw [forceB_is] at h
        exact ⟨_, fun ρ n df a w R d ty pos af g F hR => o_neqB (hx.bool F) (hy.bool F) (hR _ (.bool _)), h⟩
      · cases h
    · cases h
  · split at h
    · obtain ⟨ks, h1, h2, h3, r, h4, h5⟩ := aggEqK_ok h
      haveI : TEq P tt ks := ⟨h1⟩
      refine ⟨_, fun ρ n df a w R d ty pos af g F hR => ?_, h4⟩
      obtain ⟨us, e1, q1⟩ := hx.agg F
      obtain ⟨us', e2, q2⟩ := hy.agg F
      exact o_eqlA e1 e2 (fits_vr q1 h2) (fits_vr q2 h3) (by rw [h5 q1 q2]; exact hR _ (.bool _))
    · obtain ⟨ks, h1, h2, h3, r, h4, h5⟩ := aggEqK_ok h
      haveI : TEq P tt ks := ⟨h1⟩
      rw [forceB_is] at h4
      refine ⟨_, fun ρ n df a w R d ty pos af g F hR => ?_, h4⟩
      obtain ⟨us, e1, q1⟩ := hx.agg F
      obtain ⟨us', e2, q2⟩ := hy.agg F
      exact o_neqA e1 e2 (fits_vr q1 h2) (fits_vr q2 h3) (by rw [h5 q1 q2]; exact hR _ (.bool _))
    · cases h
  · split at h
    · rename_i e hu
      haveI : TU P tt (.slice e) := ⟨hu⟩
      split at h
      · rw [forceB_is] at h
        refine ⟨_, fun ρ n df a w R d ty pos af g F hR => ?_, h⟩
        obtain ⟨q, k', e1, e2⟩ := (hx ρ n df a F).slice
        have hy' : a.eval y = .slice none 0 0 := by
          have := hy ρ n df a F
          generalize a.eval y = u at *
          cases this
          rfl
        exact o_eqlNil e1 hy' (hR _ (by rw [e2]; exact .bool _))
      · rw [forceB_is] at h
        refine ⟨_, fun ρ n df a w R d ty pos af g F hR => ?_, h⟩
        obtain ⟨q, k', e1, e2⟩ := (hx ρ n df a F).slice
        have hy' : a.eval y = .slice none 0 0 := by
          have := hy ρ n df a F
          generalize a.eval y = u at *
          cases this
          rfl
        exact o_neqNil e1 hy' (hR _ (by rw [e2]; exact .bool _))
      · cases h
    · cases h
  · cases h
end Go.Proofs.YtchmcdkmlmknnaaGreat
/-! RunE -/
namespace Go.Proofs.YtchmcdkmlmknnaaGreat
set_option linter.unusedVariables false
set_option linter.unusedSimpArgs false
open Go.RowKit
variable [Y : Sy]
variable {P : Program} {t : Tr Value}
/-! ### slices of slices -/
section
variable {ρ : Operand → Value} {w : World} {R : Value → World → Prop} {d : Option Tmp} {ty : TypeId} {pos : String} {af : Array Edge} {g : Option (Nat × Bool)}
omit Y in
theorem o_slG {tt e : TypeId} {x : Operand} {lo hi : Option Operand} {p : Option Addr} {len cap sz : Nat} {m n : Int} (hx : ρ x = .slice p len cap) (hlo : (lo = none ∧ m = 0) ∨ ∃ i k, lo = some i ∧ ρ i = .int k m) (hhi : (hi = none ∧ n = len) ∨ ∃ j k, hi = some j ∧ ρ j = .int k n)
    [ht : TU P tt (.slice e)] [hs : TSz P e sz] (h0 : 0 ≤ m) (h1 : m ≤ n) (h2 : n ≤ cap) (h : R (.slice (if cap = m.toNat then p else p.map (·.add (m.toNat * sz))) (n.toNat - m.toNat) (cap - m.toNat)) w) : OpTo P ⟨d, .slice tt x lo hi none, ty, pos, af, g⟩ ρ w R := by
  have h4 : 0 ≤ n := by omega
  have h5 : ¬ max n 0 < m := by omega
  rcases hlo with ⟨rfl, rfl⟩ | ⟨i, k, rfl, ei⟩
  · rcases hhi with ⟨rfl, rfl⟩ | ⟨j, k', rfl, ej⟩
    · exact OpTo.val (v := .slice (if cap = (0 : Int).toNat then p else p.map (·.add ((0 : Int).toNat * sz))) ((len : Int).toNat - (0 : Int).toNat) (cap - (0 : Int).toNat)) (w' := w) (by simp [execOp, Instr.sliceAt, Instr.slice, Instr.sliceBounds, Instr.sliceBound, asIntOf, hx, run_underlying ht.h, run_sizeOf hs.h]) h
    · exact OpTo.val (v := .slice (if cap = (0 : Int).toNat then p else p.map (·.add ((0 : Int).toNat * sz))) (n.toNat - (0 : Int).toNat) (cap - (0 : Int).toNat)) (w' := w) (by simp [execOp, Instr.sliceAt, Instr.slice, Instr.sliceBounds, Instr.sliceBound, asIntOf, hx, ej, run_underlying ht.h, run_sizeOf hs.h, h4, h2]) h
  · rcases hhi with ⟨rfl, rfl⟩ | ⟨j, k', rfl, ej⟩
    · exact OpTo.val (v := .slice (if cap = m.toNat then p else p.map (·.add (m.toNat * sz))) ((len : Int).toNat - m.toNat) (cap - m.toNat)) (w' := w) (by simp [execOp, Instr.sliceAt, Instr.slice, Instr.sliceBounds, Instr.sliceBound, asIntOf, hx, ei, run_underlying ht.h, run_sizeOf hs.h, h0, h1]) h
    · exact OpTo.val (v := .slice (if cap = m.toNat then p else p.map (·.add (m.toNat * sz))) (n.toNat - m.toNat) (cap - m.toNat)) (w' := w) (by simp [execOp, Instr.sliceAt, Instr.slice, Instr.sliceBounds, Instr.sliceBound, asIntOf, hx, ei, ej, run_underlying ht.h, run_sizeOf hs.h, h0, h4, h5, h2]) h
end
noncomputable def slOpen (b o len cap sz M N : Nat) (c : Value → Bool) : Bool := match Nat.beq M 0 with
  | true => c (.slice (some ⟨b, o, none⟩) N cap)
  | false => match Nat.blt M len with
    | true => match Nat.ble 9223372036854775808 (cap - M) && Nat.ble cap 18446744073709551616 with
      | true => forceN (o + M * sz) fun o => forceN (N - M) fun n => forceN (cap - M) fun k => c (.slice (some ⟨b, o, none⟩) n k)
      | false => false
    | false => match Nat.beq N M with
      | true => c (.slice (some ⟨0, 0, some 0⟩) 0 0)
      | false => false
noncomputable def slN (b o len cap sz M N : Nat) (c : Value → Bool) : Bool := match Nat.blt cap 9223372036854775808 with
  | true => match Nat.ble N cap with
    | true => match Nat.beq cap M with
      | true => forceN (N - M) fun n => c (.slice (some ⟨b, o, none⟩) n 0)
      | false => forceN (o + M * sz) fun o => forceN (N - M) fun n => forceN (cap - M) fun k => c (.slice (some ⟨b, o, none⟩) n k)
    | false => false
  | false => match Nat.ble N len with
    | true => slOpen b o len cap sz M N c
    | false => false
noncomputable def slK (P : Program) (tt : TypeId) (v : Value) (lo hi : Option Int) (c : Value → Bool) : Bool := match P.underlying tt with
  | some (.slice e) => match P.info? e with
    | some i => match v with
      | .slice p len cap => match lo.getD 0, hi.getD len with
        | .ofNat M, .ofNat N => match Nat.ble M N with
          | true => match p with
            | some ⟨b, o, none⟩ => slN b o len cap i.size M N c
            | none => match Nat.beq N 0 with
              | true => match Nat.beq cap 0 with
                | true => c (.slice none 0 0)
                | false => false
              | false => false
            | _ => false
          | false => false
        | _, _ => false
      | _ => false
    | none => false
  | _ => false
/-- slices of an array behind a pointer -/
noncomputable def slAK (P : Program) (tt : TypeId) (v : Value) (lo hi : Option Int) (c : Value → Bool) : Bool := match P.underlying tt with
  | some (.array len e) => match P.info? e with
    | some i => match v with
      | .pointer (some ⟨b, o, none⟩) => match lo.getD 0, hi.getD len with
        | .ofNat M, .ofNat N => match Nat.ble M N && Nat.ble N len && Nat.blt M len && Nat.blt len 9223372036854775808 with
          | true => forceN (o + M * i.size) fun o => forceN (N - M) fun n => forceN (len - M) fun k => c (.slice (some ⟨b, o, none⟩) n k)
          | false => false
        | _, _ => false
      | _ => false
    | none => false
  | _ => false
/-- a bound: none, or an operand's integer -/
def BndR (t : Tr Value) (x : Option Operand) (v : Option Int) : Prop := (x = none ∧ v = none) ∨ ∃ y k m, x = some y ∧ v = some m ∧ Y.th m = m ∧ OpdR t y (.int k m)
noncomputable def bndK (t : Tr Value) (x : Option Operand) (c : Option Int → Bool) : Bool := match x with
  | none => c none
  | some y => evK t y fun v => match v with
    | .int _ m => match litI m with
      | true => c (some m)
      | false => false
    | _ => false
theorem bndK_ok {x : Option Operand} {c : Option Int → Bool} (h : bndK t x c = true) : ∃ v, BndR t x v ∧ c v = true := by
  unfold bndK at h
  split at h
  · exact ⟨none, .inl ⟨rfl, rfl⟩, h⟩
  · obtain ⟨v, h1, h2⟩ := evK_ok h
    split at h2
    · split at h2
      · rename_i hl
        exact ⟨_, .inr ⟨_, _, _, rfl, rfl, Y.lit _ hl, h1⟩, h2⟩
      · cases h2
    · cases h2
omit Y in
theorem capR_sub {c k M : Nat} (h : 9223372036854775808 ≤ k - M) (hk : k ≤ 18446744073709551616) : capR c (k - M) = capR c k - M := by
  unfold capR
  rw [if_neg (by omega), if_neg (by omega)]
  omega
omit Y in
theorem capR_lt {c k : Nat} (h : k < 9223372036854775808) : capR c k = k := if_pos h
theorem slK_ok {tt : TypeId} {x : Operand} {lo hi : Option Operand} {v : Value} {m n : Option Int} {c : Value → Bool} (hx : OpdR t x v) (hm : BndR t lo m) (hn : BndR t hi n) (h : slK P tt v m n c = true) : ∃ v', OpS P t (.slice tt x lo hi none) v' ∧ c v' = true := by
  unfold slK at h
  split at h
  case h_2 => cases h
  rename_i e hu
  haveI : TU P tt (.slice e) := ⟨hu⟩
  split at h
  case h_2 => cases h
  rename_i i hi'
  haveI : TSz P e i.size := ⟨sizeIs_of hi'⟩
  split at h
  case h_2 => cases h
  rename_i p len cap
  split at h
  case h_2 => cases h
  rename_i M N hM hN
  split at h
  case h_2 => cases h
  rename_i hMN
  have hMN := Nat.le_of_ble_eq_true hMN
  have blo : ∀ {ρ : Rl} {nn : Nat} {df : List Deferred} {a : Act}, FrR ρ nn df t a → (lo = none ∧ (Int.ofNat M) = 0) ∨ ∃ i k, lo = some i ∧ a.eval i = .int k (Int.ofNat M) := fun F => by
    rcases hm with ⟨h1, h2⟩ | ⟨y, k, q, h1, h2, h4, h3⟩
    · subst h2
      exact .inl ⟨h1, hM.symm⟩
    · subst h2
      refine .inr ⟨y, k, h1, ?_⟩
      rw [← hM, h3.int F, h4]
      rfl
  have bhi : ∀ {ρ : Rl} {nn : Nat} {df : List Deferred} {a : Act}, FrR ρ nn df t a → (hi = none ∧ (Int.ofNat N) = len) ∨ ∃ i k, hi = some i ∧ a.eval i = .int k (Int.ofNat N) := fun F => by
    rcases hn with ⟨h1, h2⟩ | ⟨y, k, q, h1, h2, h4, h3⟩
    · subst h2
      exact .inl ⟨h1, hN.symm⟩
    · subst h2
      refine .inr ⟨y, k, h1, ?_⟩
      rw [← hN, h3.int F, h4]
      rfl
  have h0 : (0 : Int) ≤ Int.ofNat M := Int.natCast_nonneg _
  have h1 : Int.ofNat M ≤ Int.ofNat N := Int.ofNat_le.2 hMN
  split at h
  · -- a place
    rename_i b o
    unfold slN at h
    split at h
    · rename_i hk
      have hk : cap < 9223372036854775808 := Nat.le_of_ble_eq_true hk
      split at h
      case h_2 => cases h
      rename_i hNc
      have hNc := Nat.le_of_ble_eq_true hNc
      split at h
      · rename_i hcM
        obtain rfl := Nat.eq_of_beq_eq_true hcM
        rw [forceN_is] at h
        refine ⟨_, fun ρ nn df a w R d ty pos af g F hR => ?_, h⟩
        have := hx ρ nn df a F
        generalize hq : a.eval x = u at this
        cases this
        rename_i r cc hr hle
        rw [capR_lt hk] at hq hle
        refine o_slG hq (blo F) (bhi F) h0 h1 (Int.ofNat_le.2 hNc) (hR _ ?_)
        rw [if_pos (show cap = (Int.ofNat cap).toNat from rfl)]
        show VR ρ _ (.slice (some ⟨r, o, none⟩) (N - cap) (cap - cap))
        rw [Nat.sub_self]
        have := VR.sl (ρ := ρ) (o := o) (n := N - cap) (k := 0) hr (by unfold capR; rw [if_pos (by omega)]; omega)
        exact this
      · rename_i hcM
        have hcM : cap ≠ M := fun e => by rw [e] at hcM; simp at hcM
        rw [forceN_is, forceN_is, forceN_is] at h
        refine ⟨_, fun ρ nn df a w R d ty pos af g F hR => ?_, h⟩
        have := hx ρ nn df a F
        generalize hq : a.eval x = u at this
        cases this
        rename_i r cc hr hle
        rw [capR_lt hk] at hq hle
        refine o_slG hq (blo F) (bhi F) h0 h1 (Int.ofNat_le.2 hNc) (hR _ ?_)
        rw [if_neg (show ¬ cap = (Int.ofNat M).toNat from hcM)]
        show VR ρ _ (.slice (some (Addr.add ⟨r, o, none⟩ (M * i.size))) (N - M) (cap - M))
        rw [addr_add]
        have := VR.sl (ρ := ρ) (o := o + M * i.size) (n := N - M) (k := cap - M) hr (by rw [capR_lt (by omega)]; omega)
        rw [capR_lt (by omega)] at this
        exact this
    · rename_i hk
      have hk : ¬ cap < 9223372036854775808 := fun h' => by
        have := blt_is cap 9223372036854775808
        rw [hk, decide_eq_true h'] at this
        cases this
      split at h
      case h_2 => cases h
      rename_i hNl
      have hNl := Nat.le_of_ble_eq_true hNl
      unfold slOpen at h
      split at h
      · rename_i hM0
        obtain rfl := Nat.eq_of_beq_eq_true hM0
        refine ⟨_, fun ρ nn df a w R d ty pos af g F hR => ?_, h⟩
        have := hx ρ nn df a F
        generalize hq : a.eval x = u at this
        cases this
        rename_i r cc hr hle
        refine o_slG hq (blo F) (bhi F) h0 h1 (Int.ofNat_le.2 (Nat.le_trans hNl hle)) (hR _ ?_)
        have e1 : (if capR cc cap = (Int.ofNat 0).toNat then (some ⟨r, o, none⟩ : Option Addr) else (some ⟨r, o, none⟩ : Option Addr).map (·.add ((Int.ofNat 0).toNat * i.size))) = some ⟨r, o, none⟩ := by
          split
          · rfl
          · show some (Addr.add ⟨r, o, none⟩ (0 * i.size)) = _
            rw [addr_add]
            simp
        rw [e1]
        have := VR.sl (ρ := ρ) (o := o) (n := N) (k := cap) hr (Nat.le_trans hNl hle)
        exact this
      · split at h
        · rename_i hMl
          have hMl : M < len := Nat.le_of_ble_eq_true hMl
          split at h
          case h_2 => cases h
          rename_i hcM
          simp only [Bool.and_eq_true] at hcM
          have hb := Nat.le_of_ble_eq_true hcM.2
          have hcM := Nat.le_of_ble_eq_true hcM.1
          rw [forceN_is, forceN_is, forceN_is] at h
          refine ⟨_, fun ρ nn df a w R d ty pos af g F hR => ?_, h⟩
          have := hx ρ nn df a F
          generalize hq : a.eval x = u at this
          cases this
          rename_i r cc hr hle
          have hcap : capR cc (cap - M) = capR cc cap - M := capR_sub hcM hb
          refine o_slG hq (blo F) (bhi F) h0 h1 (Int.ofNat_le.2 (Nat.le_trans hNl hle)) (hR _ ?_)
          rw [if_neg (show ¬ capR cc cap = (Int.ofNat M).toNat by show ¬ capR cc cap = M; omega)]
          show VR ρ _ (.slice (some (Addr.add ⟨r, o, none⟩ (M * i.size))) (N - M) (capR cc cap - M))
          rw [addr_add, ← hcap]
          exact VR.sl hr (by rw [hcap]; omega)
        · split at h
          case h_2 => cases h
          rename_i hNM
          obtain rfl := Nat.eq_of_beq_eq_true hNM
          refine ⟨_, fun ρ nn df a w R d ty pos af g F hR => ?_, h⟩
          have := hx ρ nn df a F
          generalize hq : a.eval x = u at this
          cases this
          rename_i r cc hr hle
          refine o_slG hq (blo F) (bhi F) h0 h1 (Int.ofNat_le.2 (Nat.le_trans hNl hle)) (hR _ ?_)
          show VR ρ _ (.slice _ (N - N) _)
          rw [Nat.sub_self]
          split
          · exact .slE _ _
          · exact .slE _ _
  · -- nil
    split at h
    case h_2 => cases h
    rename_i hN0
    obtain rfl := Nat.eq_of_beq_eq_true hN0
    obtain rfl : M = 0 := by omega
    split at h
    case h_2 => cases h
    rename_i hc0
    obtain rfl := Nat.eq_of_beq_eq_true hc0
    refine ⟨_, fun ρ nn df a w R d ty pos af g F hR => ?_, h⟩
    have := hx ρ nn df a F
    generalize hq : a.eval x = u at this
    cases this
    refine o_slG hq (blo F) (bhi F) h0 h1 (Int.ofNat_le.2 (Nat.le_refl _)) (hR _ ?_)
    exact .sl0 0 0
  · cases h
omit Y in
theorem o_slA {P : Program} {ρ : Operand → Value} {w : World} {R : Value → World → Prop} {d : Option Tmp} {ty : TypeId} {pos : String} {af : Array Edge} {g : Option (Nat × Bool)} {tt e : TypeId} {x : Operand} {lo hi : Option Operand} {b o len sz : Nat} {m n : Int} (hx : ρ x = .pointer (some ⟨b, o, none⟩)) (hlo : (lo = none ∧ m = 0) ∨ ∃ i k, lo = some i ∧ ρ i = .int k m) (hhi : (hi = none ∧ n = len) ∨ ∃ j k, hi = some j ∧ ρ j = .int k n)
    [ht : TU P tt (.array len e)] [hs : TSz P e sz] (h0 : 0 ≤ m) (h1 : m ≤ n) (h2 : n ≤ len) (h3 : m < len) (h : R (.slice (some ⟨b, o + m.toNat * sz, none⟩) (n.toNat - m.toNat) (len - m.toNat)) w) : OpTo P ⟨d, .slice tt x lo hi none, ty, pos, af, g⟩ ρ w R := by
  have h4 : 0 ≤ n := by omega
  have h5 : ¬ max n 0 < m := by omega
  have h6 : ¬ len = m.toNat := by omega
  have h7 : m ≤ len := by omega
  have h8 : 0 < len := by omega
  have h9 : ¬ len = 0 := by omega
  rcases hlo with ⟨rfl, rfl⟩ | ⟨i, k, rfl, ei⟩ <;> rcases hhi with ⟨rfl, rfl⟩ | ⟨j, k', rfl, ej⟩ <;> refine OpTo.val (w' := w) ?_ h <;> simp_all [execOp, Instr.sliceAt, Instr.sureAddr, Instr.slice, Instr.sliceBounds, Instr.sliceBound, asIntOf, run_underlying ht.h, run_sizeOf hs.h, addr_add]
theorem slAK_ok {tt : TypeId} {x : Operand} {lo hi : Option Operand} {v : Value} {m n : Option Int} {c : Value → Bool} (hx : OpdR t x v) (hm : BndR t lo m) (hn : BndR t hi n) (h : slAK P tt v m n c = true) : ∃ v', OpS P t (.slice tt x lo hi none) v' ∧ c v' = true := by
  unfold slAK at h
  split at h
  case h_2 => cases h
  rename_i len e hu
  haveI : TU P tt (.array len e) := ⟨hu⟩
  split at h
  case h_2 => cases h
  rename_i i hi'
  haveI : TSz P e i.size := ⟨sizeIs_of hi'⟩
  split at h
  case h_2 => cases h
  rename_i b o
  split at h
  case h_2 => cases h
  rename_i M N hM hN
  split at h
  case h_2 => cases h
  rename_i hq
  simp only [Bool.and_eq_true, blt_is, decide_eq_true_eq] at hq
  obtain ⟨⟨⟨q1, q2⟩, q3⟩, q4⟩ := hq
  have q1 := Nat.le_of_ble_eq_true q1
  have q2 := Nat.le_of_ble_eq_true q2
  rw [forceN_is, forceN_is, forceN_is] at h
  have blo : ∀ {ρ : Rl} {nn : Nat} {df : List Deferred} {a : Act}, FrR ρ nn df t a → (lo = none ∧ (Int.ofNat M) = 0) ∨ ∃ i k, lo = some i ∧ a.eval i = .int k (Int.ofNat M) := fun F => by
    rcases hm with ⟨h1, h2⟩ | ⟨y, k, q, h1, h2, h4, h3⟩
    · subst h2
      exact .inl ⟨h1, hM.symm⟩
    · subst h2
      refine .inr ⟨y, k, h1, ?_⟩
      rw [← hM, h3.int F, h4]
      rfl
  have bhi : ∀ {ρ : Rl} {nn : Nat} {df : List Deferred} {a : Act}, FrR ρ nn df t a → (hi = none ∧ (Int.ofNat N) = len) ∨ ∃ i k, hi = some i ∧ a.eval i = .int k (Int.ofNat N) := fun F => by
    rcases hn with ⟨h1, h2⟩ | ⟨y, k, q, h1, h2, h4, h3⟩
    · subst h2
      exact .inl ⟨h1, hN.symm⟩
    · subst h2
      refine .inr ⟨y, k, h1, ?_⟩
      rw [← hN, h3.int F, h4]
      rfl
  refine ⟨_, fun ρ nn df a w R d ty pos af g F hR => ?_, h⟩
  have := hx ρ nn df a F
  generalize hq : a.eval x = u at this
  cases this
  rename_i r cc hr
  refine o_slA hq (blo F) (bhi F) (Int.natCast_nonneg _) (Int.ofNat_le.2 q1) (Int.ofNat_le.2 q2) (Int.ofNat_lt.2 q3) (hR _ ?_)
  show VR ρ _ (.slice (some ⟨r, o + M * i.size, none⟩) (N - M) (len - M))
  have := VR.sl (ρ := ρ) (o := o + M * i.size) (n := N - M) (k := len - M) hr (by rw [capR_lt (by omega)]; omega)
  rw [capR_lt (by omega)] at this
  exact this
end Go.Proofs.YtchmcdkmlmknnaaGreat
/-! RunF -/
namespace Go.Proofs.YtchmcdkmlmknnaaGreat
set_option linter.unusedVariables false
set_option linter.unusedSimpArgs false
open Go.RowKit
variable [Y : Sy]
variable {P : Program} {t : Tr Value}
noncomputable def cellsK (v : Value) (c : List Value → Bool) : Bool := match v with
  | .agg cs => c cs.toList
  | v => c [v]
omit Y in
theorem cellsK_ok {v : Value} {c : List Value → Bool} (h : cellsK v c = true) : c v.cells.toList = true := by
  unfold cellsK at h
  split at h
  · exact h
  · rename_i hn
    cases v <;> first | exact h | exact (hn _ rfl).elim
theorem VR.cells {ρ : Rl} {v u : Value} (h : VR ρ v u) : VRs ρ v.cells.toList u.cells.toList := by
  have h' := h
  cases h <;> first | exact .cons h' .nil | skip
  rename_i us q
  simpa [Value.cells] using q
noncomputable def partsK (t : Tr Value) (pl : List (Nat × Nat)) (xs : List (Nat × Operand)) : List Value → (List Value → Bool) → Bool := List.rec (motive := fun _ => List Value → (List Value → Bool) → Bool) (fun z c => c z)
  (fun p _ ih z c => evK t p.2 fun v => cellsK v fun cs => match nthP pl p.1 with
    | some q => match Nat.beq cs.length q.2 with
      | true => putK z q.1 cs fun z => ih z c
      | false => false
    | none => false) xs
theorem partsK_ok {pl : List (Nat × Nat)} : ∀ {xs : List (Nat × Operand)} {z : List Value} {c : List Value → Bool}, partsK t pl xs z c = true →
    ∃ z', c z' = true ∧ ∀ (ρ : Rl) (n : Nat) (df : List Deferred) (a : Act), FrR ρ n df t a → ∀ us, VRs ρ z us → ∃ us', putAll pl us (xs.map fun p => (p.1, (a.eval p.2).cells.toList)) = some us' ∧ VRs ρ z' us'
  | [], z, c, h => ⟨z, h, fun ρ n df a F us hu => ⟨us, rfl, hu⟩⟩
  | (i, x) :: xs, z, c, h => by
    have h' : (evK t x fun v => cellsK v fun cs => match nthP pl i with
      | some q => match Nat.beq cs.length q.2 with
        | true => putK z q.1 cs fun z => partsK t pl xs z c
        | false => false
      | none => false) = true := h
    obtain ⟨v, h1, h2⟩ := evK_ok h'
    have h3 := cellsK_ok h2
    split at h3
    case h_2 => cases h3
    rename_i q hq
    split at h3
    case h_2 => cases h3
    rename_i hl
    obtain ⟨z1, h4, h5⟩ := putK_ok h3
    obtain ⟨z', h6, h7⟩ := partsK_ok h5
    refine ⟨z', h6, fun ρ n df a F us hu => ?_⟩
    have hc := (h1 ρ n df a F).cells
    obtain ⟨us1, g1, g2⟩ := vr_put hu hc h4
    obtain ⟨us', g3, g4⟩ := h7 ρ n df a F us1 g2
    refine ⟨us', ?_, g4⟩
    obtain ⟨off, sz⟩ := q
    have : Nat.beq ((a.eval x).cells.toList).length sz = true := by rw [hc.len]; exact hl
    simp only [List.map_cons, putAll, hq, this, g1, g3]
omit Y in
theorem o_build' {ρ : Operand → Value} {w : World} {R : Value → World → Prop} {d : Option Tmp} {ty : TypeId} {pos : String} {af : Array Edge} {g : Option (Nat × Bool)} {tt : TypeId} {xs : List (Nat × Operand)} {pl : List (Nat × Nat)} {z cs : List Value} [hl : TLay P tt pl] [hz : TZero P tt z]
    (hp : putAll pl z (xs.map fun p => (p.1, (ρ p.2).cells.toList)) = some cs) (h : R (.agg cs.toArray) w) : OpTo P ⟨d, .build tt xs.toArray, ty, pos, af, g⟩ ρ w R := by
  have := run_buildL (P := P) (w := w) (vals := xs.map fun (p : Nat × Operand) => (p.1, ρ p.2)) (parts := xs.map fun p => (p.1, (ρ p.2).cells.toList)) hl.h hz.h (by simp) hp
  refine OpTo.val (v := .agg cs.toArray) (w' := w) ?_ h
  simp only [execOp, List.map_toArray, Sem.run_bind]
  rw [show (List.map (fun x : Nat × Operand => match x with | (i, x) => (i, ρ x)) xs) = xs.map fun (p : Nat × Operand) => (p.1, ρ p.2) from rfl, this]
  rfl
/-- a zero value's cells -/
noncomputable def zeroK (P : Program) (tt : TypeId) (c : List Value → Bool) : Bool := match zeroC P tt with
  | some za => match cstL za.toList with
    | true => c za.toList
    | false => false
  | none => false
theorem zeroK_ok {tt : TypeId} {c : List Value → Bool} (h : zeroK P tt c = true) : ∃ z, zeroC P tt = some z.toArray ∧ (∀ ρ : Rl, VRs ρ z z) ∧ c z = true := by
  unfold zeroK at h
  split at h
  case h_2 => cases h
  rename_i za hza
  split at h
  case h_2 => cases h
  rename_i hc
  exact ⟨za.toList, by simpa using hza, fun ρ => cstL_ok hc, h⟩
noncomputable def buildK (P : Program) (t : Tr Value) (tt : TypeId) (xs : List (Nat × Operand)) (c : Value → Bool) : Bool := match layOf P tt with
  | some pl => zeroK P tt fun z => partsK t pl xs z fun cs => c (.agg cs.toArray)
  | none => false
theorem buildK_ok {tt : TypeId} {xs : List (Nat × Operand)} {c : Value → Bool} (h : buildK P t tt xs c = true) : ∃ v, OpS P t (.build tt xs.toArray) v ∧ c v = true := by
  unfold buildK at h
  split at h
  case h_2 => cases h
  rename_i pl hpl
  obtain ⟨z, h1, h2, h3⟩ := zeroK_ok h
  obtain ⟨cs, h4, h5⟩ := partsK_ok h3
  haveI : TLay P tt pl := ⟨hpl⟩
  haveI : TZero P tt z := ⟨h1⟩
  refine ⟨_, fun ρ n df a w R d ty pos af g F hR => ?_, h4⟩
  obtain ⟨us, g1, g2⟩ := h5 ρ n df a F z (h2 ρ)
  exact o_build' g1 (hR _ (.agg (by simpa using g2)))
/-! ### fields, elements -/
noncomputable def fieldK (P : Program) (s : TypeId) (i : Nat) (v : Value) (c : Value → Bool) : Bool := match v with
  | .agg cs => match fldTy P s i with
    | some q => partK P q.2 cs.toList q.1 c
    | none => false
  | _ => false
theorem fieldK_ok {s : TypeId} {i : Nat} {x : Operand} {v : Value} {c : Value → Bool} (hx : OpdR t x v) (h : fieldK P s i v c = true) : ∃ v', OpS P t (.field s x i) v' ∧ c v' = true := by
  unfold fieldK at h
  split at h
  case h_2 => cases h
  rename_i cs
  split at h
  case h_2 => cases h
  rename_i q hq
  haveI : TFldT P s i q.1 q.2 := ⟨fldTy_ok hq⟩
  rcases partK_ok h with ⟨h1, v, h2, h3⟩ | ⟨n, h1, vs, h2, h3⟩
  · haveI : TOne P q.2 := ⟨h1⟩
    refine ⟨v, fun ρ n df a w R d ty pos af g F hR => ?_, h3⟩
    obtain ⟨us, e1, q1⟩ := hx.agg F
    obtain ⟨y, e2, q2⟩ := vr_nth q1 h2
    exact o_field1 e1 e2 (hR _ q2)
  · haveI : TAgg P q.2 n := ⟨h1⟩
    refine ⟨_, fun ρ n df a w R d ty pos af g F hR => ?_, h3⟩
    obtain ⟨us, e1, q1⟩ := hx.agg F
    obtain ⟨y, e2, q2⟩ := vr_seg q1 h2
    exact o_fieldA e1 e2 (hR _ (.agg (by simpa using q2)))
noncomputable def idxK (o j sz : Nat) (b : Nat) (c : Value → Bool) : Bool := forceN (Nat.add o (Nat.mul j sz)) fun o => c (.pointer (some ⟨b, o, none⟩))
noncomputable def indexAddrK (P : Program) (tt : TypeId) (v u : Value) (c : Value → Bool) : Bool := match u with
  | .int _ (.ofNat j) => lit2 0 (.ofNat j) (match P.underlying tt with
    | some (.slice e) => match P.info? e with
      | some i => match v with
        | .slice (some ⟨b, o, none⟩) len _ => match Nat.blt j len with
          | true => idxK o j i.size b c
          | false => false
        | _ => false
      | none => false
    | some (.array len e) => match P.info? e with
      | some i => match v with
        | .pointer (some ⟨b, o, none⟩) => match Nat.blt j len with
          | true => idxK o j i.size b c
          | false => false
        | _ => false
      | none => false
    | _ => false)
  | _ => false
theorem indexAddrK_ok {tt : TypeId} {x y : Operand} {v u : Value} {c : Value → Bool} (hx : OpdR t x v) (hy : OpdR t y u) (h : indexAddrK P tt v u c = true) : ∃ v', OpS P t (.indexAddr tt x y) v' ∧ c v' = true := by
  unfold indexAddrK at h
  split at h
  case h_2 => cases h
  rename_i k j
  have hq := lit2_ok h
  clear h
  obtain ⟨_, el, h⟩ := hq
  split at h
  · rename_i e hu
    haveI : TU P tt (.slice e) := ⟨hu⟩
    split at h
    case h_2 => cases h
    rename_i i hi
    haveI : TSz P e i.size := ⟨sizeIs_of hi⟩
    split at h
    case h_2 => cases h
    rename_i b o len cap
    split at h
    case h_2 => cases h
    rename_i hl
    have hl : j < len := Nat.le_of_ble_eq_true hl
    unfold idxK at h
    rw [forceN_is] at h
    refine ⟨_, fun ρ n df a w R d ty pos af g F hR => ?_, h⟩
    have := hx ρ n df a F
    generalize hq : a.eval x = z at this
    cases this
    rename_i r cc hr hle
    exact o_indexSl hq (hy.intT el F) (Int.natCast_nonneg _) (Int.ofNat_lt.2 hl) (hR _ (.ptr hr))
  · rename_i len e hu
    haveI : TU P tt (.array len e) := ⟨hu⟩
    split at h
    case h_2 => cases h
    rename_i i hi
    haveI : TSz P e i.size := ⟨sizeIs_of hi⟩
    split at h
    case h_2 => cases h
    rename_i b o
    split at h
    case h_2 => cases h
    rename_i hl
    have hl : j < len := Nat.le_of_ble_eq_true hl
    unfold idxK at h
    rw [forceN_is] at h
    refine ⟨_, fun ρ n df a w R d ty pos af g F hR => ?_, h⟩
    obtain ⟨r, cc, e1, hr⟩ := hx.ptr F
    exact o_indexArr e1 (hy.intT el F) (Int.natCast_nonneg _) (Int.ofNat_lt.2 hl) (hR _ (.ptr hr))
  · cases h
noncomputable def byteK (l : List UInt8) : Nat → (Nat → Bool) → Bool := List.rec (motive := fun _ => Nat → (Nat → Bool) → Bool) (fun _ _ => false) (fun b _ ih j c => Nat.rec (forceN b.toNat c) (fun k _ => ih k c) j) l
omit Y in
theorem byteK_ok : ∀ {l : List UInt8} {j : Nat} {c : Nat → Bool}, byteK l j c = true → ∃ b, l[j]? = some b ∧ c b.toNat = true
  | [], _, _, h => by cases h
  | b :: l, 0, c, h => by
    have h' : forceN b.toNat c = true := h
    rw [forceN_is] at h'
    exact ⟨b, rfl, h'⟩
  | b :: l, j + 1, c, h => by
    obtain ⟨b', h1, h2⟩ := byteK_ok (l := l) (j := j) (c := c) h
    exact ⟨b', by simpa using h1, h2⟩
noncomputable def indexK (P : Program) (tt : TypeId) (v u : Value) (c : Value → Bool) : Bool := match u with
  | .int _ (.ofNat j) => lit2 0 (.ofNat j) (match P.underlying tt with
    | some (.array len e) => match sizeIs P e 1 && oneTy P e with
      | true => match v with
        | .agg cs => match Nat.blt j len with
          | true => nthK cs.toList j c
          | false => false
        | _ => false
      | false => false
    | some .string => match v with
      | .string bs => byteK bs.data.toList j fun n => litK .u8 (.ofNat n) c
      | _ => false
    | _ => false)
  | _ => false
theorem indexK_ok {tt : TypeId} {x y : Operand} {v u : Value} {c : Value → Bool} (hx : OpdR t x v) (hy : OpdR t y u) (h : indexK P tt v u c = true) : ∃ v', OpS P t (.index tt x y) v' ∧ c v' = true := by
  unfold indexK at h
  split at h
  case h_2 => cases h
  rename_i k j
  have hq := lit2_ok h
  clear h
  obtain ⟨_, el, h⟩ := hq
  split at h
  · rename_i len e hu
    haveI : TU P tt (.array len e) := ⟨hu⟩
    split at h
    case h_2 => cases h
    rename_i h1
    simp only [Bool.and_eq_true] at h1
    haveI : TSz P e 1 := ⟨h1.1⟩
    haveI : TOne P e := ⟨h1.2⟩
    split at h
    case h_2 => cases h
    rename_i cs
    split at h
    case h_2 => cases h
    rename_i hl
    have hl : j < len := Nat.le_of_ble_eq_true hl
    obtain ⟨v', h2, h3⟩ := nthK_ok h
    refine ⟨v', fun ρ n df a w R d ty pos af g F hR => ?_, h3⟩
    obtain ⟨us, e1, q1⟩ := hx.agg F
    obtain ⟨z, e2, q2⟩ := vr_nth q1 h2
    exact o_indexV e1 (hy.intT el F) (Int.natCast_nonneg _) (Int.ofNat_lt.2 hl) e2 (hR _ q2)
  · rename_i hu
    haveI : TU P tt .string := ⟨hu⟩
    split at h
    case h_2 => cases h
    rename_i bs
    obtain ⟨b, h1, h2⟩ := byteK_ok h
    obtain ⟨eb, h2⟩ := litK_ok h2
    refine ⟨_, fun ρ n df a w R d ty pos af g F hR => ?_, h2⟩
    have := hx ρ n df a F
    generalize hq : a.eval x = z at this
    cases this
    have hb : bs[(Int.ofNat j).toNat]? = some b := by
      show bs[j]? = some b
      have hlt : j < bs.data.toList.length := (List.getElem?_eq_some_iff.1 h1).1
      have hlt' : j < bs.size := by simpa using hlt
      rw [getElem?_pos bs j hlt']
      rw [List.getElem?_eq_getElem hlt] at h1
      rw [← h1]
      rfl
    exact o_indexStr hq (hy.intT el F) (Int.natCast_nonneg _) hb (hR _ (.lit eb))
  · cases h
noncomputable def convK (P : Program) (s tt : TypeId) (v : Value) (c : Value → Bool) : Bool := match v with
  | .int _ n => match P.underlying tt with
    | some (.int k') => match P.underlying s with
      | some _ => match okA n with
        | true => wrapS k' n fun m => c (.int k' m)
        | false => false
      | none => false
    | _ => false
  | _ => false
theorem convK_ok {s tt : TypeId} {x : Operand} {v : Value} {c : Value → Bool} (hx : OpdR t x v) (h : convK P s tt v c = true) : ∃ v', OpS P t (.convert s tt x) v' ∧ c v' = true := by
  unfold convK at h
  split at h
  case h_2 => cases h
  split at h
  case h_2 => cases h
  rename_i k' hu
  split at h
  case h_2 => cases h
  rename_i ds hs
  split at h
  case h_2 => cases h
  haveI : TU P tt (.int k') := ⟨hu⟩
  haveI : TU P s ds := ⟨hs⟩
  obtain ⟨y, ⟨h1, h2⟩ | ⟨h1, h2, h3⟩⟩ := wrapS_ok h
  · exact ⟨_, fun ρ n df a w R d ty pos af g F hR => o_conv (hx.int F) h2 (hR _ (.int _ _)), h1⟩
  · subst h3
    exact ⟨_, fun ρ n df a w R d ty pos af g F hR => o_conv (hx.intT (Y.lit _ h1) F) rfl (hR _ .wr), h2⟩
/-! ### len, cap, min, max -/
noncomputable def lenK (P : Program) (tt : TypeId) (v : Value) (c : Value → Bool) : Bool := match v with
  | .slice _ n _ => match P.underlying tt with
    | some (.slice _) => litK .i64 (.ofNat n) c
    | _ => false
  | .string s => match P.underlying tt with
    | some .string => forceN s.size fun n => litK .i64 (.ofNat n) c
    | _ => false
  | _ => false
theorem lenK_ok {tt : TypeId} {x : Operand} {v : Value} {c : Value → Bool} (hx : OpdR t x v) (h : lenK P tt v c = true) : ∃ v', OpS P t (.call ⟨.builtin .len, #[x], #[tt]⟩) v' ∧ c v' = true := by
  unfold lenK at h
  split at h
  · split at h
    case h_2 => cases h
    rename_i e hu
    haveI : TU P tt (.slice e) := ⟨hu⟩
    obtain ⟨el, h⟩ := litK_ok h
    refine ⟨_, fun ρ n df a w R d ty pos af g F hR => ?_, h⟩
    have := hx ρ n df a F
    generalize hq : a.eval x = z at this
    cases this <;> exact o_lenSl hq (hR _ (.lit el))
  · split at h
    case h_2 => cases h
    rename_i hu
    haveI : TU P tt .string := ⟨hu⟩
    rw [forceN_is] at h
    obtain ⟨el, h⟩ := litK_ok h
    refine ⟨_, fun ρ n df a w R d ty pos af g F hR => ?_, h⟩
    have := hx ρ n df a F
    generalize hq : a.eval x = z at this
    cases this
    exact o_lenStr hq (hR _ (.lit el))
  · cases h
noncomputable def capK (P : Program) (tt : TypeId) (v : Value) (c : Value → Bool) : Bool := match v with
  | .slice _ _ k => match P.underlying tt with
    | some (.slice _) => match Nat.blt k 9223372036854775808 && Nat.ble 1 k with
      | true => litK .i64 (.ofNat k) c
      | false => false
    | _ => false
  | _ => false
theorem capK_ok {tt : TypeId} {x : Operand} {v : Value} {c : Value → Bool} (hx : OpdR t x v) (h : capK P tt v c = true) : ∃ v', OpS P t (.call ⟨.builtin .cap, #[x], #[tt]⟩) v' ∧ c v' = true := by
  unfold capK at h
  split at h
  case h_2 => cases h
  split at h
  case h_2 => cases h
  rename_i e hu
  haveI : TU P tt (.slice e) := ⟨hu⟩
  split at h
  case h_2 => cases h
  rename_i hk
  simp only [Bool.and_eq_true] at hk
  have hk2 := Nat.le_of_ble_eq_true hk.2
  have hk := hk.1
  obtain ⟨el, h⟩ := litK_ok h
  refine ⟨_, fun ρ n df a w R d ty pos af g F hR => ?_, h⟩
  have := hx ρ n df a F
  generalize hq : a.eval x = z at this
  cases this with
  | sl0 => exact o_capSl hq (hR _ (.lit el))
  | sl hr hle =>
    rw [capR_lt (Nat.le_of_ble_eq_true hk)] at hq
    exact o_capSl hq (hR _ (.lit el))
  | slE q k => omega
noncomputable def minmaxK (b : Builtin) (v u : Value) (c : Value → Bool) : Bool := match v, u with
  | .int k m, .int k' n => match kEqR k k' with
    | true => match b with
      | .min => ltS n m fun r => Bool.rec (c (.int k m)) (c (.int k n)) r
      | .max => ltS m n fun r => Bool.rec (c (.int k m)) (c (.int k n)) r
      | _ => false
    | false => false
  | _, _ => false
theorem minmaxK_ok {b : Builtin} {x y : Operand} {ts : Array TypeId} {v u : Value} {c : Value → Bool} (hx : OpdR t x v) (hy : OpdR t y u) (h : minmaxK b v u c = true) : ∃ v', OpS P t (.call ⟨.builtin b, #[x, y], ts⟩) v' ∧ c v' = true := by
  unfold minmaxK at h
  split at h
  case h_2 => cases h
  rename_i k m k' n
  split at h
  case h_2 => cases h
  rename_i hk
  obtain rfl := kEq_ok' hk
  split at h
  · have h := ltS_ok h
    cases hl : decide (Y.th n < Y.th m) with
    | false =>
      rw [hl] at h
      rw [decide_eq_false_iff_not] at hl
      exact ⟨_, fun ρ n df a w R d ty pos af g F hR => o_min (hx.int F) (hy.int F) (by rw [if_neg hl]; exact hR _ (.int _ _)), h⟩
    | true =>
      rw [hl] at h
      rw [decide_eq_true_eq] at hl
      exact ⟨_, fun ρ n df a w R d ty pos af g F hR => o_min (hx.int F) (hy.int F) (by rw [if_pos hl]; exact hR _ (.int _ _)), h⟩
  · have h := ltS_ok h
    cases hl : decide (Y.th m < Y.th n) with
    | false =>
      rw [hl] at h
      rw [decide_eq_false_iff_not] at hl
      exact ⟨_, fun ρ n df a w R d ty pos af g F hR => o_max (hx.int F) (hy.int F) (by rw [if_neg hl]; exact hR _ (.int _ _)), h⟩
    | true =>
      rw [hl] at h
      rw [decide_eq_true_eq] at hl
      exact ⟨_, fun ρ n df a w R d ty pos af g F hR => o_max (hx.int F) (hy.int F) (by rw [if_pos hl]; exact hR _ (.int _ _)), h⟩
  · cases h
end Go.Proofs.YtchmcdkmlmknnaaGreat
/-! RunG -/
namespace Go.Proofs.YtchmcdkmlmknnaaGreat
set_option linter.unusedVariables false
set_option linter.unusedSimpArgs false
open Go.RowKit
variable [Y : Sy]
variable {P : Program} {t : Tr Value}
noncomputable def pureK (P : Program) (t : Tr Value) (op : Op) (c : Value → Bool) : Bool := match op with
  | .move x => evK t x c
  | .assign x => evK t x c
  | .pick q x y => evK t q fun v => match v with
    | .bool true => evK t x c
    | .bool false => evK t y c
    | _ => false
  | .nilCheck x => evK t x fun v => match okNil v with
    | true => c v
    | false => false
  | .binOp b tt x y _ => evK t x fun v => evK t y fun u => binK P b tt v u c
  | .unOp o _ x => evK t x fun v => unK o v c
  | .convert s d x => evK t x fun v => convK P s d v c
  | .makeFunc f xs ys => evsK t xs.toList fun vs => evsK t ys.toList fun us => c (.func f vs.toArray us.toArray)
  | .fieldAddr s x i => evK t x fun v => match v with
    | .pointer (some ⟨b, o, none⟩) => match fldOff P s i with
      | some off => forceN (Nat.add o off) fun o => c (.pointer (some ⟨b, o, none⟩))
      | none => false
    | _ => false
  | .field s x i => evK t x fun v => fieldK P s i v c
  | .indexAddr tt x y => evK t x fun v => evK t y fun u => indexAddrK P tt v u c
  | .index tt x y => evK t x fun v => evK t y fun u => indexK P tt v u c
  | .extract x i => evK t x fun v => match v with
    | .tuple vs => nthK vs.toList i c
    | _ => false
  | .slice tt x lo hi none => evK t x fun v => bndK t lo fun m => bndK t hi fun n => match v with
    | .pointer _ => slAK P tt v m n c
    | _ => slK P tt v m n c
  | .build tt parts => buildK P t tt parts.toList c
  | .call ⟨.builtin b, args, tys⟩ => match args.toList with
    | [x] => match b with
      | .len => match tys.toList with
        | [tt] => evK t x fun v => lenK P tt v c
        | _ => false
      | .cap => match tys.toList with
        | [tt] => evK t x fun v => capK P tt v c
        | _ => false
      | _ => false
    | [x, y] => evK t x fun v => evK t y fun u => minmaxK b v u c
    | _ => false
  | _ => false
omit Y in
theorem arr1 {α : Type} {a : Array α} {x : α} (h : a.toList = [x]) : a = #[x] := by cases a; simp_all
omit Y in
theorem arr2 {α : Type} {a : Array α} {x y : α} (h : a.toList = [x, y]) : a = #[x, y] := by cases a; simp_all
omit Y in
theorem map_arr {α β : Type} (f : α → β) (xs : Array α) : xs.map f = (xs.toList.map f).toArray := by cases xs; simp
theorem pureK_ok {op : Op} {c : Value → Bool} (h : pureK P t op c = true) : ∃ v, OpS P t op v ∧ c v = true := by
  unfold pureK at h
  split at h
  · obtain ⟨v, h1, h2⟩ := evK_ok h
    exact ⟨v, fun ρ n df a w R d ty pos af g F hR => o_move rfl (hR _ (h1 ρ n df a F)), h2⟩
  · obtain ⟨v, h1, h2⟩ := evK_ok h
    exact ⟨v, fun ρ n df a w R d ty pos af g F hR => o_assign rfl (hR _ (h1 ρ n df a F)), h2⟩
  · obtain ⟨q, h1, h2⟩ := evK_ok h
    split at h2
    · obtain ⟨v, h3, h4⟩ := evK_ok h2
      exact ⟨v, fun ρ n df a w R d ty pos af g F hR => o_pickT (h1.bool F) rfl (hR _ (h3 ρ n df a F)), h4⟩
    · obtain ⟨v, h3, h4⟩ := evK_ok h2
      exact ⟨v, fun ρ n df a w R d ty pos af g F hR => o_pickF (h1.bool F) rfl (hR _ (h3 ρ n df a F)), h4⟩
    · cases h2
  · obtain ⟨v, h1, h2⟩ := evK_ok h
    split at h2
    case h_2 => cases h2
    rename_i hn
    exact ⟨v, fun ρ n df a w R d ty pos af g F hR => o_nilCheck rfl (okNil_vr (h1 ρ n df a F) hn) (hR _ (h1 ρ n df a F)), h2⟩
  · obtain ⟨v, h1, h2⟩ := evK_ok h
    obtain ⟨u, h3, h4⟩ := evK_ok h2
    exact binK_ok h1 h3 h4
  · obtain ⟨v, h1, h2⟩ := evK_ok h
    exact unK_ok h1 h2
  · obtain ⟨v, h1, h2⟩ := evK_ok h
    exact convK_ok h1 h2
  · rename_i f xs ys
    obtain ⟨vs, h1, h2⟩ := evsK_ok h
    obtain ⟨us, h3, h4⟩ := evsK_ok h2
    refine ⟨_, fun ρ n df a w R d ty pos af g F hR => o_makeFunc (vs := (xs.toList.map a.eval).toArray) (us := (ys.toList.map a.eval).toArray) (map_arr _ _) (map_arr _ _) (hR _ ?_), h4⟩
    exact .fn (by simpa using h1 ρ n df a F) (by simpa using h3 ρ n df a F)
  · obtain ⟨v, h1, h2⟩ := evK_ok h
    split at h2
    case h_2 => cases h2
    split at h2
    case h_2 => cases h2
    rename_i off hoff
    rw [forceN_is] at h2
    haveI : TFld P _ _ off := ⟨fldOff_ok hoff⟩
    refine ⟨_, fun ρ n df a w R d ty pos af g F hR => ?_, h2⟩
    obtain ⟨r, cc, e1, hr⟩ := h1.ptr F
    exact o_fieldAddr e1 (hR _ (.ptr hr))
  · obtain ⟨v, h1, h2⟩ := evK_ok h
    exact fieldK_ok h1 h2
  · obtain ⟨v, h1, h2⟩ := evK_ok h
    obtain ⟨u, h3, h4⟩ := evK_ok h2
    exact indexAddrK_ok h1 h3 h4
  · obtain ⟨v, h1, h2⟩ := evK_ok h
    obtain ⟨u, h3, h4⟩ := evK_ok h2
    exact indexK_ok h1 h3 h4
  · obtain ⟨v, h1, h2⟩ := evK_ok h
    split at h2
    case h_2 => cases h2
    obtain ⟨v', h3, h4⟩ := nthK_ok h2
    refine ⟨v', fun ρ n df a w R d ty pos af g F hR => ?_, h4⟩
    obtain ⟨us, e1, q1⟩ := h1.tup F
    obtain ⟨z, e2, q2⟩ := vr_nth q1 h3
    exact o_extract e1 e2 (hR _ q2)
  · obtain ⟨v, h1, h2⟩ := evK_ok h
    obtain ⟨m, h3, h4⟩ := bndK_ok h2
    obtain ⟨n, h5, h6⟩ := bndK_ok h4
    split at h6
    · exact slAK_ok h1 h3 h5 h6
    · exact slK_ok h1 h3 h5 h6
  · rename_i tt parts
    obtain ⟨v, h1, h2⟩ := buildK_ok h
    exact ⟨v, by simpa using h1, h2⟩
  · rename_i b args tys
    split at h
    · rename_i x hx
      obtain rfl := arr1 hx
      split at h
      · split at h
        case h_2 => cases h
        rename_i tt ht
        obtain rfl := arr1 ht
        obtain ⟨v, h1, h2⟩ := evK_ok h
        exact lenK_ok h1 h2
      · split at h
        case h_2 => cases h
        rename_i tt ht
        obtain rfl := arr1 ht
        obtain ⟨v, h1, h2⟩ := evK_ok h
        exact capK_ok h1 h2
      · cases h
    · rename_i x y hx
      obtain rfl := arr2 hx
      obtain ⟨v, h1, h2⟩ := evK_ok h
      obtain ⟨u, h3, h4⟩ := evK_ok h2
      exact minmaxK_ok h1 h3 h4
    · cases h
  · cases h
/-! ### operations on the memory -/
/-- what is known of an operation -/
def OpM (P : Program) (t : Tr Value) (s s' : MSt) (op : Op) (v : Value) : Prop := ∀ (S : List Nat) (W0 : World) (ρ : Rl) (n : Nat) (df : List Deferred) (a : Act) (w : World) (R : Value → World → Prop) (d : Option Tmp) (ty : TypeId) (pos : String) (af : Array Edge) (g : Option (Nat × Bool)),
  FrR ρ n df t a → Pre S W0 ρ s s' w → (∀ ρ' u w', Stp S W0 ρ s w ρ' s' w' → VR ρ' v u → R u w') → OpTo P ⟨d, op, ty, pos, af, g⟩ a.eval w R
theorem OpS.mem {s : MSt} {op : Op} {v : Value} (h : OpS P t op v) : OpM P t s s op v := fun S W0 ρ n df a w R d ty pos af g F hp hR =>
  h ρ n df a w R d ty pos af g F fun u hu => hR ρ u w (Stp.same rfl rfl hp.1) hu
noncomputable def rdK (s : MSt) (b : Nat) (c : MSt → Bool) : Bool := forceN (orB s.F b) fun F => c ⟨s.m, s.nx, F, s.W⟩
omit Y in
theorem rdK_is (s : MSt) (b : Nat) (c : MSt → Bool) : rdK s b c = c (s.rd b) := by unfold rdK; rw [forceN_is]; rfl
noncomputable def wrtK (s : MSt) (b : Nat) (o : VO) (c : MSt → Bool) : Bool := s.m.setK b (some o) fun m => forceN (orB s.F b) fun F => forceN (orB s.W b) fun W => c ⟨m, s.nx, F, W⟩
omit Y in
theorem wrtK_ok {s : MSt} {b : Nat} {o : VO} {c : MSt → Bool} (h : wrtK s b o c = true) : ∃ m', (∀ j, m'.get j = if j = b then some o else s.m.get j) ∧ c ⟨m', s.nx, orB s.F b, orB s.W b⟩ = true := by
  unfold wrtK at h
  obtain ⟨m', h1, h2⟩ := Tr.setK_ok h
  rw [forceN_is, forceN_is] at h2
  exact ⟨m', h1, h2⟩
noncomputable def allocK (s : MSt) (o : VO) (c : MSt → Bool) : Bool := s.m.setK s.nx (some o) fun m => forceN (s.nx + 1) fun nx => forceN (orB s.F s.nx) fun F => forceN (orB s.W s.nx) fun W => c ⟨m, nx, F, W⟩
omit Y in
theorem allocK_ok {s : MSt} {o : VO} {c : MSt → Bool} (h : allocK s o c = true) : ∃ m', (∀ j, m'.get j = if j = s.nx then some o else s.m.get j) ∧ c ⟨m', s.nx + 1, orB s.F s.nx, orB s.W s.nx⟩ = true := by
  unfold allocK at h
  obtain ⟨m', h1, h2⟩ := Tr.setK_ok h
  rw [forceN_is, forceN_is, forceN_is] at h2
  exact ⟨m', h1, h2⟩
noncomputable def moveK (s : MSt) (b : Nat) (o : VO) (c : MSt → Bool) : Bool := s.m.setK b none fun m1 => m1.setK s.nx (some o) fun m => forceN (s.nx + 1) fun nx => forceN (orB (orB s.F b) s.nx) fun F => forceN (orB (orB s.W b) s.nx) fun W => c ⟨m, nx, F, W⟩
omit Y in
theorem moveK_ok {s : MSt} {b : Nat} {o : VO} {c : MSt → Bool} (h : moveK s b o c = true) : ∃ m1 m' : Tr VO, (∀ j, m1.get j = if j = b then none else s.m.get j) ∧ (∀ j, m'.get j = if j = s.nx then some o else m1.get j) ∧ c ⟨m', s.nx + 1, orB (orB s.F b) s.nx, orB (orB s.W b) s.nx⟩ = true := by
  unfold moveK at h
  obtain ⟨m1, h1, h2⟩ := Tr.setK_ok h
  obtain ⟨m', h3, h4⟩ := Tr.setK_ok h2
  rw [forceN_is, forceN_is, forceN_is] at h4
  exact ⟨m1, m', h1, h3, h4⟩
omit Y in
theorem bit_rd {s : MSt} {b : Nat} : bit (s.rd b).F b := bit_or.2 (.inr rfl)
/-- a load -/
noncomputable def loadK (P : Program) (tt : TypeId) (v : Value) (s : MSt) (c : Value → MSt → Bool) : Bool := match v with
  | .pointer (some ⟨b, o, none⟩) => match s.m.get b with
    | some ob => match ob.mp with
      | none => rdK s b fun s => partK P tt ob.cs o fun v => c v s
      | some _ => false
    | none => false
  | _ => false
theorem loadK_ok {tt : TypeId} {x : Operand} {v : Value} {s : MSt} {c : Value → MSt → Bool} (hx : OpdR t x v) (h : loadK P tt v s c = true) : ∃ v' s', SLe s s' ∧ OpM P t s s' (.load tt x) v' ∧ c v' s' = true := by
  unfold loadK at h
  split at h
  case h_2 => cases h
  rename_i b o
  split at h
  case h_2 => cases h
  rename_i ob hb
  split at h
  case h_2 => cases h
  rename_i hmp
  rw [rdK_is] at h
  rcases partK_ok h with ⟨h1, v, h2, h3⟩ | ⟨n, h1, vs, h2, h3⟩
  · haveI : TOne P tt := ⟨h1⟩
    refine ⟨v, s.rd b, SLe.rd s b, fun S W0 ρ n df a w R d ty pos af g F hp hR => ?_, h3⟩
    obtain ⟨r, cc, hr, cs', junk, q1, q2, _, _⟩ := hp.objC hb bit_rd hmp
    obtain ⟨r', cc', e1, hr'⟩ := hx.ptr F
    rw [hr] at hr'
    cases hr'
    obtain ⟨y, e2, q3⟩ := vr_nth q1 h2
    exact o_load e1 (run_loadVar_one this.h (cell_at q2 (by have := nth_junk (junk := junk) e2; rw [nth_spec] at this; simpa using this))) (hR ρ y w (Stp.rd hp) q3)
  · haveI : TAgg P tt n := ⟨h1⟩
    refine ⟨_, s.rd b, SLe.rd s b, fun S W0 ρ nn df a w R d ty pos af g F hp hR => ?_, h3⟩
    obtain ⟨r, cc, hr, cs', junk, q1, q2, _, _⟩ := hp.objC hb bit_rd hmp
    obtain ⟨r', cc', e1, hr'⟩ := hx.ptr F
    rw [hr] at hr'
    cases hr'
    obtain ⟨ys, e2, q3⟩ := vr_seg q1 h2
    exact o_load e1 (run_loadVar_agg this.h q2 (by simpa using seg_junk (junk := junk) e2)) (hR ρ _ w (Stp.rd hp) (.agg (by simpa using q3)))
theorem one_vr {ρ : Rl} {v u : Value} (h : VR ρ v u) : u.oneCell' = v.oneCell' := by
  cases h <;> rfl
theorem ones_vr {ρ : Rl} : ∀ {vs us : List Value}, VRs ρ vs us → us.all (·.oneCell') = vs.all (·.oneCell')
  | _, _, .nil => rfl
  | _, _, .cons h t => by simp only [List.all_cons, one_vr h, ones_vr t]
noncomputable def onesK (l : List Value) : Bool := List.rec true (fun x _ ih => Bool.rec false ih x.oneCell') l
omit Y in
theorem onesK_is : ∀ (l : List Value), onesK l = l.all (·.oneCell')
  | [] => rfl
  | x :: xs => by
    show (Bool.rec false (onesK xs) x.oneCell' : Bool) = _
    rw [onesK_is xs, List.all_cons]
    cases x.oneCell' <;> rfl
/-- a store -/
noncomputable def storeK (P : Program) (tt : TypeId) (v u : Value) (s : MSt) (c : MSt → Bool) : Bool := match v with
  | .pointer (some ⟨b, o, none⟩) => match s.m.get b with
    | some ob => match ob.mp with
     | some _ => false
     | none => match u with
      | .agg cs => match aggTy P tt cs.toList.length with
        | true => match onesK cs.toList with
          | true => putK ob.cs o cs.toList fun l => wrtK s b ⟨l, ob.e, ob.op, none⟩ c
          | false => false
        | false => false
      | u => match sizeIs P tt 1 with
        | true => match u.oneCell' with
          | true => putK ob.cs o [u] fun l => wrtK s b ⟨l, ob.e, ob.op, none⟩ c
          | false => false
        | false => false
    | none => false
  | _ => false
omit Y in
theorem put_len {xs ys zs : List Value} {off : Nat} (h : put xs off ys = some zs) : zs.length = xs.length := by
  obtain ⟨h1, rfl⟩ := put_splice _ _ _ _ h
  simp [splice]
  omega
theorem storeK_ok {tt : TypeId} {x y : Operand} {v u : Value} {s : MSt} {c : MSt → Bool} (hwf : Wf s) (hx : OpdR t x v) (hy : OpdR t y u) (h : storeK P tt v u s c = true) : ∃ s', SLe s s' ∧ OpM P t s s' (.store tt x y) undef ∧ c s' = true := by
  have hun : ∀ ρ : Rl, VR ρ undef undef := fun ρ => by
    have : VR ρ (.tuple #[]) (.tuple (List.toArray [])) := .tup .nil
    exact this
  unfold storeK at h
  split at h
  case h_2 => cases h
  rename_i b o
  split at h
  case h_2 => cases h
  rename_i ob hb
  split at h
  case h_1 => cases h
  rename_i hmp
  split at h
  · rename_i cs
    split at h
    case h_2 => cases h
    rename_i hsz
    split at h
    case h_2 => cases h
    rename_i h1
    rw [onesK_is] at h1
    obtain ⟨l, h2, h3⟩ := putK_ok h
    obtain ⟨m', hm, h4⟩ := wrtK_ok h3
    haveI : TAgg P tt cs.toList.length := ⟨hsz⟩
    refine ⟨_, SLe.wrt hm hb hwf, fun S W0 ρ n df a w R d ty pos af g F hp hR => ?_, h4⟩
    obtain ⟨r, cc, hr, cs', junk, q1, q2, q3, q4⟩ := hp.objC hb (bit_or.2 (.inr rfl)) hmp
    obtain ⟨r', cc', e1, hr'⟩ := hx.ptr F
    rw [hr] at hr'
    cases hr'
    obtain ⟨us, e2, g1⟩ := hy.agg F
    obtain ⟨zs, g2, g3⟩ := vr_put q1 g1 h2
    have Mb : Mem [r] w w [(r, .cells (cs' ++ junk).toArray ob.e (0, 0))] := ⟨Ext.refl _ _, fun p hp => by simp at hp; subst hp; exact q2, by simp, fun p hp => .inl (by simp at hp; subst hp; simp)⟩
    refine o_storeAE Mb e1 e2 g1.len (by rw [ones_vr g1]; exact h1) .here (put_junk g2) .here fun w' E M' => hR ρ _ w' (Stp.wrt hm hb hwf hp hr E ?_) (hun ρ)
    refine .inl ⟨rfl, zs, junk, g3, M'.heap .here, q3, fun sz hs => ?_⟩
    rw [put_len g2]
    exact q4 sz hs
  · split at h
    case h_2 => cases h
    rename_i hsz
    split at h
    case h_2 => cases h
    rename_i h1
    obtain ⟨l, h2, h3⟩ := putK_ok h
    obtain ⟨m', hm, h4⟩ := wrtK_ok h3
    haveI : TSz P tt 1 := ⟨hsz⟩
    refine ⟨_, SLe.wrt hm hb hwf, fun S W0 ρ n df a w R d ty pos af g F hp hR => ?_, h4⟩
    obtain ⟨r, cc, hr, cs', junk, q1, q2, q3, q4⟩ := hp.objC hb (bit_or.2 (.inr rfl)) hmp
    obtain ⟨r', cc', e1, hr'⟩ := hx.ptr F
    rw [hr] at hr'
    cases hr'
    have hv := hy ρ n df a F
    obtain ⟨zs, g2, g3⟩ := vr_put q1 (.cons hv .nil) h2
    have Mb : Mem [r] w w [(r, .cells (cs' ++ junk).toArray ob.e (0, 0))] := ⟨Ext.refl _ _, fun p hp => by simp at hp; subst hp; exact q2, by simp, fun p hp => .inl (by simp at hp; subst hp; simp)⟩
    refine o_store1E Mb e1 rfl (by rw [one_vr hv]; exact h1) .here (put_junk g2) .here fun w' E M' => hR ρ _ w' (Stp.wrt hm hb hwf hp hr E ?_) (hun ρ)
    refine .inl ⟨rfl, zs, junk, g3, M'.heap .here, q3, fun sz hs => ?_⟩
    rw [put_len g2]
    exact q4 sz hs
/-- a new block of a type -/
theorem objR_new {ρ : Rl} {z us : List Value} {tt : TypeId} {b c : Nat} {w : World} (h : VRs ρ z us) (hh : w.heap[b]? = some (.cells us.toArray tt (0, 0))) : ObjR ρ ⟨z, tt, none, none⟩ b c w := .inl ⟨rfl, us, [], h, by simpa using hh, fun _ => rfl, fun sz hs => by cases hs⟩
noncomputable def newK (tt : TypeId) (z : List Value) (s : MSt) (c : Value → MSt → Bool) : Bool := allocK s ⟨z, tt, none, none⟩ fun s' => c (.pointer (some ⟨s.nx, 0, none⟩)) s'
theorem new_ok {op : Op} {tt : TypeId} {z : List Value} {s : MSt} {c : Value → MSt → Bool} (hwf : Wf s) (h : newK tt z s c = true)
    (ho : ∀ (ρ : Rl) (n : Nat) (df : List Deferred) (a : Act) (w : World) (R : Value → World → Prop) (d : Option Tmp) (ty : TypeId) (pos : String) (af : Array Edge) (g : Option (Nat × Bool)), FrR ρ n df t a → ∃ us, VRs ρ z us ∧ ((∀ b w', Mem [] w w' [(b, .cells us.toArray tt (0, 0))] → R (.pointer (some ⟨b, 0, none⟩)) w') → OpTo P ⟨d, op, ty, pos, af, g⟩ a.eval w R)) :
    ∃ v s', SLe s s' ∧ OpM P t s s' op v ∧ c v s' = true := by
  obtain ⟨m', hm, h4⟩ := allocK_ok h
  refine ⟨_, _, SLe.alloc hm, fun S W0 ρ n df a w R d ty pos af g F hp hR => ?_, h4⟩
  obtain ⟨us, h1, h2⟩ := ho ρ n df a w R d ty pos af g F
  refine h2 fun b w' M => ?_
  have hge : w.heap.size ≤ b := (M.own _ List.mem_cons_self).resolve_left (by simp)
  have hle := updR_le (x := (b, 0)) (hp.2 s.nx (Nat.le_refl _) (Nat.lt_succ_self _))
  exact hR _ _ w' (Stp.alloc (r := b) (c := 0) hm hwf hp M.ext hge (objR_new (h1.mono hle) (M.heap .here))) (.ptr (if_pos rfl))
theorem alloc_ok {tt : TypeId} {s : MSt} {c : Value → MSt → Bool} (hwf : Wf s) (h : zeroK P tt (fun z => newK tt z s c) = true) : ∃ v s', SLe s s' ∧ OpM P t s s' (.alloc tt) v ∧ c v s' = true := by
  obtain ⟨z, h1, h2, h3⟩ := zeroK_ok h
  haveI : TZero P tt z := ⟨h1⟩
  exact new_ok hwf h3 fun ρ n df a w R d ty pos af g F => ⟨z, h2 ρ, fun hh => o_alloc (Mem.start [] w) hh⟩
theorem box_ok {tt : TypeId} {x : Operand} {v : Value} {s : MSt} {c : Value → MSt → Bool} (hwf : Wf s) (hx : OpdR t x v) (h : cellsK v (fun z => newK tt z s c) = true) : ∃ v s', SLe s s' ∧ OpM P t s s' (.box tt x) v ∧ c v s' = true :=
  new_ok hwf (cellsK_ok h) fun ρ n df a w R d ty pos af g F => ⟨_, (hx ρ n df a F).cells, fun hh => o_box (Mem.start [] w) rfl rfl hh⟩
end Go.Proofs.YtchmcdkmlmknnaaGreat
/-! RunH -/
namespace Go.Proofs.YtchmcdkmlmknnaaGreat
set_option linter.unusedVariables false
set_option linter.unusedSimpArgs false
open Go.RowKit
variable [Y : Sy]
variable {P : Program} {t : Tr Value}
section
variable {ρ : Operand → Value} {w : World} {R : Value → World → Prop} {d : Option Tmp} {ty : TypeId} {pos : String} {af : Array Edge} {g : Option (Nat × Bool)}
omit Y in
theorem zeros_made (zs : List Value) (k : Nat) : madeCells zs.toArray (k * zs.length) = (zerosL zs (k * zs.length)).toArray := by
  apply Array.ext'
  simp only [madeCells, Array.toList_map, Array.toList_range, zerosL]
  refine List.map_congr_left fun i hi => ?_
  have hi' : i < k * zs.length := List.mem_range.1 hi
  have hpos : 0 < zs.length := Nat.pos_of_ne_zero fun h => by rw [h, Nat.mul_zero] at hi'; omega
  have hlt : i % zs.length < zs.length := Nat.mod_lt _ hpos
  simp [hlt]
omit Y in
theorem o_buildSlice' {tt e : TypeId} {len sz : Nat} {xs : List (Nat × Operand)} {zs cs : List Value} [ht : TU P tt (.slice e)] [hs : TSz P e sz] [hz : TZero P e zs]
    (hle : Nat.ble (len * sz) 16777216 = true) (hzl : zs.length = sz) (hp : putAll (placesL len sz) (zerosL zs (len * sz)) (xs.map fun p => (p.1, (ρ p.2).cells.toList)) = some cs)
    (h : ∀ b w', Mem [] w w' [(b, .cells cs.toArray e (0, 0))] → R (.slice (some ⟨b, 0, none⟩) len len) w') : OpTo P ⟨d, .buildSlice tt len xs.toArray, ty, pos, af, g⟩ ρ w R := by
  obtain ⟨z, hzc, hzr⟩ := run_zeroC (w := w) hz.h
  have hf := fill_put (place := fun i => some (i * sz, sz)) (pl := placesL len sz) (fun j o ho => by
    rw [nthP_spec, placesL, List.getElem?_map] at ho
    cases hr : (List.range len)[j]? with
    | none => simp [hr] at ho
    | some q =>
      have : q = j := by
        obtain ⟨h1, h2⟩ := List.getElem?_eq_some_iff.1 hr
        simpa using h2.symm
      subst this
      simpa [hr] using ho) (xs.map fun p => (p.1, (ρ p.2).cells.toList)) (xs.map fun (p : Nat × Operand) => (p.1, ρ p.2)) (zerosL zs (len * sz)) cs (by simp) hp
  have hle' : ¬ (len * sz > 2 ^ 24) := by have := Nat.le_of_ble_eq_true hle; omega
  have hzero : (Array.range (len * sz)).map (fun i => zs.toArray[i % zs.toArray.size]!) = (zerosL zs (len * sz)).toArray := by rw [← hzl]; exact zeros_made zs len
  refine OpTo.val (v := .slice (some ⟨w.heap.size, 0, none⟩) len len) (w' := w.alloc (.cells cs.toArray e)) ?_ (h _ _ ((Mem.start [] w).alloc _))
  simp only [execOp, List.map_toArray, Sem.run_bind]
  rw [show (List.map (fun x : Nat × Operand => match x with | (i, x) => (i, ρ x)) xs) = xs.map fun (p : Nat × Operand) => (p.1, ρ p.2) from rfl]
  by_cases h0 : len * sz = 0
  · have hz0 : zerosL zs (len * sz) = [] := by rw [h0]; rfl
    rw [hz0] at hf
    have hr0 : (Array.map (fun (_ : Nat) => (default : Value)) (Array.range 0)) = #[] := by simp
    simp [Instr.buildSlice, run_underlying ht.h, run_sizeOf hs.h, h0, hr0, hf, newRow]
  · simp only [Instr.buildSlice, Sem.run_bind, run_underlying ht.h, Result.andThen_ok, run_sizeOf hs.h, if_neg hle', if_neg h0, hzr, Sem.run_pure, hzc, hzero, hf]
    simp [newRow]
omit Y in
theorem o_makeG {tt e : TypeId} {x y : Operand} {k k' : IntKind} {n m : Int} {sz by_ : Nat} {zs : List Value} [ht : TU P tt (.slice e)] (hel : elB P e sz by_ = true) (hz : zeroC P e = some zs.toArray) (hzl : zs.length = sz) (hx : ρ x = .int k n) (hy : ρ y = .int k' m) (h0 : 0 ≤ n) (h1 : n ≤ m) (hb : (by_ : Int) * m ≤ 281474976710656) (h63 : m ≤ 9223372036854775807)
    (h : ∀ b w', Mem [] w w' [(b, .cells (zerosL zs (m.toNat * sz)).toArray e (0, 0))] → R (.slice (some ⟨b, 0, none⟩) n.toNat m.toNat) w') : OpTo P ⟨d, .makeSlice tt x y, ty, pos, af, g⟩ ρ w R := by
  obtain ⟨i, zz, hi, hs, rfl, hz0, hzs⟩ := elB_spec hel
  have hzc : zz.cells = zs.toArray := by
    unfold zeroC at hz
    rw [hi] at hz
    simpa [hz0] using hz
  have hr := run_make (P := P) w tt e i zz ht.h hi hz0 k k' n m h0 h1 hb h63
  rw [hzc, hs, ← hzl, zeros_made, hzl] at hr
  refine OpTo.val (v := .slice (some ⟨w.heap.size, 0, none⟩) n.toNat m.toNat) (w' := w.alloc (.cells (zerosL zs (m.toNat * sz)).toArray e)) ?_ (h _ _ ((Mem.start [] w).alloc _))
  simp [execOp, hx, hy, hr]
end
omit Y in
theorem zerosL_add (zs : List Value) (k : Nat) : zerosL zs (zs.length + k) = zs ++ zerosL zs k := by
  unfold zerosL
  rw [List.range_add, List.map_append]
  congr 1
  · apply List.ext_getElem (by simp)
    intro i h1 h2
    have : i % zs.length = i := Nat.mod_eq_of_lt h2
    simp [this, h2]
  · rw [List.map_map]
    refine List.map_congr_left fun i _ => ?_
    simp [Nat.add_mod_left]
noncomputable def repK (zs : List Value) (n : Nat) : (List Value → Bool) → Bool := Nat.rec (motive := fun _ => (List Value → Bool) → Bool) (fun c => c []) (fun _ ih c => ih fun r => appK zs r c) n
omit Y in
theorem repK_is {zs : List Value} : ∀ (n : Nat) (c : List Value → Bool), repK zs n c = c (zerosL zs (n * zs.length))
  | 0, c => by
    show c [] = _
    rw [Nat.zero_mul]
    rfl
  | n + 1, c => by
    show repK zs n (fun r => appK zs r c) = _
    rw [repK_is n, appK_is, ← zerosL_add]
    congr 2
    rw [Nat.succ_mul, Nat.add_comm]
theorem zerosL_vr {ρ : Rl} {zs : List Value} (h : VRs ρ zs zs) : ∀ n, VRs ρ (zerosL zs (n * zs.length)) (zerosL zs (n * zs.length))
  | 0 => by rw [Nat.zero_mul]; exact .nil
  | n + 1 => by
    rw [Nat.succ_mul, Nat.add_comm, zerosL_add]
    exact h.app (zerosL_vr h n)
noncomputable def partsSK (t : Tr Value) (len sz : Nat) (xs : List (Nat × Operand)) : List Value → (List Value → Bool) → Bool := List.rec (motive := fun _ => List Value → (List Value → Bool) → Bool) (fun z c => c z)
  (fun p _ ih z c => evK t p.2 fun v => cellsK v fun cs => match Nat.blt p.1 len with
    | true => match Nat.beq cs.length sz with
      | true => putK z (Nat.mul p.1 sz) cs fun z => ih z c
      | false => false
    | false => false) xs
theorem partsSK_ok {len sz : Nat} : ∀ {xs : List (Nat × Operand)} {z : List Value} {c : List Value → Bool}, partsSK t len sz xs z c = true →
    ∃ z', c z' = true ∧ ∀ (ρ : Rl) (n : Nat) (df : List Deferred) (a : Act), FrR ρ n df t a → ∀ us, VRs ρ z us → ∃ us', putAll (placesL len sz) us (xs.map fun p => (p.1, (a.eval p.2).cells.toList)) = some us' ∧ VRs ρ z' us'
  | [], z, c, h => ⟨z, h, fun ρ n df a F us hu => ⟨us, rfl, hu⟩⟩
  | (i, x) :: xs, z, c, h => by
    have h' : (evK t x fun v => cellsK v fun cs => match Nat.blt i len with
      | true => match Nat.beq cs.length sz with
        | true => putK z (Nat.mul i sz) cs fun z => partsSK t len sz xs z c
        | false => false
      | false => false) = true := h
    obtain ⟨v, h1, h2⟩ := evK_ok h'
    have h3 := cellsK_ok h2
    split at h3
    case h_2 => cases h3
    rename_i hi
    have hi : i < len := Nat.le_of_ble_eq_true hi
    split at h3
    case h_2 => cases h3
    rename_i hl
    obtain ⟨z1, h4, h5⟩ := putK_ok h3
    obtain ⟨z', h6, h7⟩ := partsSK_ok h5
    refine ⟨z', h6, fun ρ n df a F us hu => ?_⟩
    have hc := (h1 ρ n df a F).cells
    obtain ⟨us1, g1, g2⟩ := vr_put hu hc h4
    obtain ⟨us', g3, g4⟩ := h7 ρ n df a F us1 g2
    refine ⟨us', ?_, g4⟩
    have : Nat.beq ((a.eval x).cells.toList).length sz = true := by rw [hc.len]; exact hl
    have hq : nthP (placesL len sz) i = some (i * sz, sz) := by
      rw [nthP_spec, placesL, List.getElem?_map, List.getElem?_range hi]
      rfl
    have g1' : put us (i * sz) (a.eval x).cells.toList = some us1 := g1
    simp only [List.map_cons, putAll, hq, this, g1', g3]
/-- a new slice -/
noncomputable def newSK (e : TypeId) (z : List Value) (len cap : Nat) (s : MSt) (c : Value → MSt → Bool) : Bool := match Nat.ble len cap && Nat.blt cap 9223372036854775808 with
  | true => allocK s ⟨z, e, none, none⟩ fun s' => c (.slice (some ⟨s.nx, 0, none⟩) len cap) s'
  | false => false
theorem newS_ok {op : Op} {e : TypeId} {z : List Value} {len cap : Nat} {s : MSt} {c : Value → MSt → Bool} (hwf : Wf s) (h : newSK e z len cap s c = true)
    (ho : ∀ (ρ : Rl) (n : Nat) (df : List Deferred) (a : Act) (w : World) (R : Value → World → Prop) (d : Option Tmp) (ty : TypeId) (pos : String) (af : Array Edge) (g : Option (Nat × Bool)), FrR ρ n df t a → ∃ us, VRs ρ z us ∧ ((∀ b w', Mem [] w w' [(b, .cells us.toArray e (0, 0))] → R (.slice (some ⟨b, 0, none⟩) len cap) w') → OpTo P ⟨d, op, ty, pos, af, g⟩ a.eval w R)) :
    ∃ v s', SLe s s' ∧ OpM P t s s' op v ∧ c v s' = true := by
  unfold newSK at h
  split at h
  case h_2 => cases h
  rename_i hk
  simp only [Bool.and_eq_true] at hk
  have hk1 := Nat.le_of_ble_eq_true hk.1
  have hk2 : cap < 9223372036854775808 := Nat.le_of_ble_eq_true hk.2
  obtain ⟨m', hm, h4⟩ := allocK_ok h
  refine ⟨_, _, SLe.alloc hm, fun S W0 ρ n df a w R d ty pos af g F hp hR => ?_, h4⟩
  obtain ⟨us, h1, h2⟩ := ho ρ n df a w R d ty pos af g F
  refine h2 fun b w' M => ?_
  have hge : w.heap.size ≤ b := (M.own _ List.mem_cons_self).resolve_left (by simp)
  have hle := updR_le (x := (b, 0)) (hp.2 s.nx (Nat.le_refl _) (Nat.lt_succ_self _))
  refine hR _ _ w' (Stp.alloc (r := b) (c := 0) hm hwf hp M.ext hge (objR_new (h1.mono hle) (M.heap .here))) ?_
  have := VR.sl (ρ := updR ρ s.nx (b, 0)) (b := s.nx) (o := 0) (r := b) (c := 0) (n := len) (k := cap) (if_pos rfl) (by rw [capR_lt hk2]; exact hk1)
  rw [capR_lt hk2] at this
  exact this
noncomputable def buildSliceK (P : Program) (t : Tr Value) (tt : TypeId) (len : Nat) (xs : List (Nat × Operand)) (s : MSt) (c : Value → MSt → Bool) : Bool := match P.underlying tt with
  | some (.slice e) => match P.info? e with
    | some i => match Nat.ble (len * i.size) 16777216 with
      | true => zeroK P e fun z => match Nat.beq z.length i.size with
        | true => repK z len fun zs => partsSK t len i.size xs zs fun cs => newSK e cs len len s c
        | false => false
      | false => false
    | none => false
  | _ => false
theorem buildSliceK_ok {tt : TypeId} {len : Nat} {xs : List (Nat × Operand)} {s : MSt} {c : Value → MSt → Bool} (hwf : Wf s) (h : buildSliceK P t tt len xs s c = true) : ∃ v s', SLe s s' ∧ OpM P t s s' (.buildSlice tt len xs.toArray) v ∧ c v s' = true := by
  unfold buildSliceK at h
  split at h
  case h_2 => cases h
  rename_i e hu
  haveI : TU P tt (.slice e) := ⟨hu⟩
  split at h
  case h_2 => cases h
  rename_i i hi
  haveI : TSz P e i.size := ⟨sizeIs_of hi⟩
  split at h
  case h_2 => cases h
  rename_i hb
  obtain ⟨z, h1, h2, h3⟩ := zeroK_ok h
  split at h3
  case h_2 => cases h3
  rename_i hzl
  have hzl := Nat.eq_of_beq_eq_true hzl
  rw [repK_is] at h3
  obtain ⟨cs, h4, h5⟩ := partsSK_ok h3
  haveI : TZero P e z := ⟨h1⟩
  refine newS_ok hwf h4 fun ρ n df a w R d ty pos af g F => ?_
  obtain ⟨us, g1, g2⟩ := h5 ρ n df a F _ (zerosL_vr (h2 ρ) len)
  exact ⟨us, g2, fun hh => o_buildSlice' hb hzl (by rw [← hzl]; rw [← hzl] at g1; exact g1) hh⟩
noncomputable def makeSliceK (P : Program) (tt : TypeId) (v u : Value) (s : MSt) (c : Value → MSt → Bool) : Bool := match v, u with
  | .int _ (.ofNat n), .int _ (.ofNat m) => lit2 (.ofNat n) (.ofNat m) (match P.underlying tt with
    | some (.slice e) => match P.info? e with
      | some i => match elB P e i.size i.bytes && Nat.ble n m && Nat.ble (i.bytes * m) 281474976710656 && Nat.ble m 9223372036854775807 with
        | true => zeroK P e fun z => match Nat.beq z.length i.size with
          | true => repK z m fun zs => newSK e zs n m s c
          | false => false
        | false => false
      | none => false
    | _ => false)
  | _, _ => false
theorem makeSliceK_ok {tt : TypeId} {x y : Operand} {v u : Value} {s : MSt} {c : Value → MSt → Bool} (hwf : Wf s) (hx : OpdR t x v) (hy : OpdR t y u) (h : makeSliceK P tt v u s c = true) : ∃ v s', SLe s s' ∧ OpM P t s s' (.makeSlice tt x y) v ∧ c v s' = true := by
  unfold makeSliceK at h
  split at h
  case h_2 => cases h
  rename_i k n k' m
  have hq := lit2_ok h
  clear h
  obtain ⟨e1, e2, h⟩ := hq
  split at h
  case h_2 => cases h
  rename_i e hu
  haveI : TU P tt (.slice e) := ⟨hu⟩
  split at h
  case h_2 => cases h
  rename_i i hi
  split at h
  case h_2 => cases h
  rename_i hb
  simp only [Bool.and_eq_true] at hb
  obtain ⟨⟨⟨b1, b2⟩, b3⟩, b4⟩ := hb
  have b2 := Nat.le_of_ble_eq_true b2
  have b3 := Nat.le_of_ble_eq_true b3
  have b4 := Nat.le_of_ble_eq_true b4
  obtain ⟨z, h1, h2, h3⟩ := zeroK_ok h
  split at h3
  case h_2 => cases h3
  rename_i hzl
  have hzl := Nat.eq_of_beq_eq_true hzl
  rw [repK_is] at h3
  refine newS_ok hwf h3 fun ρ nn df a w R d ty pos af g F => ⟨_, zerosL_vr (h2 ρ) m, fun hh => ?_⟩
  refine o_makeG (n := Int.ofNat n) (m := Int.ofNat m) b1 h1 hzl (hx.intT e1 F) (hy.intT e2 F) (Int.natCast_nonneg _) (Int.ofNat_le.2 b2) (by rw [show Int.ofNat m = (m : Int) from rfl, ← Int.natCast_mul]; generalize i.bytes * m = q at b3 ⊢; omega) (Int.ofNat_le.2 b4) fun b w' M => hh b w' ?_
  rw [← hzl] at M
  exact M
end Go.Proofs.YtchmcdkmlmknnaaGreat
/-! O1 -/
namespace Go.Proofs.YtchmcdkmlmknnaaGreat
set_option linter.unusedVariables false
set_option linter.unusedSimpArgs false
open Go.RowKit
def ipC (a : List Int) : List Value := a.map (Value.int .u8)
theorem one_ip (a : List Int) : (ipC a).all (·.oneCell') = true := by simp [ipC, Value.oneCell']
theorem ipC_len (a : List Int) : (ipC a).length = a.length := by simp [ipC]
theorem ipC_app (a b : List Int) : ipC (a ++ b) = ipC a ++ ipC b := by simp [ipC]
def IsBy (l : List Int) : Prop := ∀ x ∈ l, 0 ≤ x ∧ x < 256
/-! rules -/
section
variable {c : Cx} {Q : Exit → Act → World → Prop} {ks : List KF} {fr : List (Nat × Value)} {l l' : Row} {all : Array Oper} {rest : List Oper} {d : Nat} {ty : TypeId} {pos : String} {af : Array Edge} {g : Option (Nat × Bool)}
/-- append of a slice -/
theorem g_appL (i : Nat) {st xt e : TypeId} {x y : Operand} {sz by_ n m : Nat} {v xv : Value} {xs ys : List Value} {ent : List (Nat × Obj)} {f : List (Nat × Obj) → Row} [hst : TU c.P st (.slice e)] [hel : TEl c.P e sz by_] [hxt : TNI c.P xt]
    (hx : Ev fr x = some v) (hy : Ev fr y = some xv) (hO : OwnS e sz v n xs ent) (hi : nthO l i = some ent) (hX : ∀ w, Mem c.S c.W w l.flatten → SrcOf c.P w xv m sz ys) (hbd : (n + m) * by_ ≤ 140737488355328) (hln : n + m ≤ 9223372036854775807)
    (hf : ∀ e', setO l i e' = some (f e')) (hk : ∀ v' ent', OwnS e sz v' (n + m) (xs ++ ys) ent' → G c Q ks (.ops all rest) ((d, v') :: fr) (f ent')) (hd : Nat.blt d c.n = true := by rfl) (hg : gOk all fr g = some true := by rfl) :
    G c Q ks (.ops all (⟨some d, .call ⟨.builtin .append, #[x, y], #[st, xt]⟩, ty, pos, af, g⟩ :: rest)) fr l := by
  refine g_op rfl hd hg fun a w F M => ?_
  obtain ⟨r, p1, _⟩ := nthO_perm hi (hf ent)
  have hp : ∀ e', (f e').flatten.Perm (e' ++ r) := fun e' => by
    obtain ⟨r', q1, q2⟩ := nthO_perm hi (hf e')
    exact q2.trans (List.Perm.append_left _ ((List.perm_append_left_iff ent).1 (q1.symm.trans p1)))
  refine o_append (f := fun e' => r ++ e') hO (M.perm (p1.trans List.perm_append_comm)) ?_ (F.ev hx) (F.ev hy) (hX w M) hbd hln (fun v' ent' w' hO' M' => ?_)
  · exact .app .here
  · exact fun a' F' => hk v' ent' hO' a' w' F' (M'.perm (List.perm_append_comm.trans (hp ent').symm))
/-- make([]T, 0, n) -/
theorem g_mk0 {tt e : TypeId} {x y : Operand} {k k' : IntKind} {m : Int} {by_ : Nat} {z : Value} [ht : TU c.P tt (.slice e)] [hel : TEl c.P e 1 by_] (hz : zeroC c.P e = some [z].toArray) (hx : Ev fr x = some (.int k 0)) (hy : Ev fr y = some (.int k' m)) (h1 : 0 ≤ m) (hb : (by_ : Int) * m ≤ 281474976710656) (h63 : m ≤ 9223372036854775807)
    (hk : ∀ v ent, OwnS e 1 v 0 [] ent → G c Q ks (.ops all rest) ((d, v) :: fr) (ent :: l)) (hd : Nat.blt d c.n = true := by rfl) (hg : gOk all fr g = some true := by rfl) :
    G c Q ks (.ops all (⟨some d, .makeSlice tt x y, ty, pos, af, g⟩ :: rest)) fr l := by
  refine g_op rfl hd hg fun a w F M => ?_
  refine o_makeG hel.h hz rfl (F.ev hx) (F.ev hy) (by omega) h1 hb h63 fun b w' M' a' F' => ?_
  exact hk _ [(b, .cells (zerosL [z] (m.toNat * 1)).toArray e (0, 0))] (.inr ⟨b, m.toNat, zerosL [z] (m.toNat * 1), rfl, rfl, rfl, by simp [zerosL], by omega⟩) a' w' F' (M.joins M')
end
section
variable {c : Cx} {Q : Exit → Act → World → Prop} {ks : List KF} {fr : List (Nat × Value)} {l : Row} {ol rest : List Oper} {n k : Nat} {d : Nat} {ty : TypeId} {pos : String} {af : Array Edge}
/-- in a region that draws: an operation that answers with new memory, the last free one -/
theorem fd_new {op : Op} (Φ : Value → List (Nat × Obj) → Prop) (h : ∀ a w, Frm a c.n c.df fr → Mem c.S c.W w l.flatten → OpTo c.P ⟨some d, op, ty, pos, af, none⟩ a.eval w fun u w' => ∃ ent, Φ u ent ∧ Mem [] w w' ent)
    (hk : ∀ u ent, Φ u ent → G c Q ks (.ops ol.toArray rest) ((d, u) :: fr) (ent :: l)) (hn : Nat.beq (k + 1) n = true := by rfl) (hef : effOk ol.toArray n [] = true := by rfl) (hlt : flo [] [] [] n k op = true := by rfl) (hd : Nat.blt d c.n = true := by rfl) (hnd : notIn d fr = true := by rfl) (hat : (ol[k]?.bind (·.dst)) = some d := by rfl) :
    FD c Q ks ol n k (⟨some d, op, ty, pos, af, none⟩ :: rest) fr l := fun a w Vs M hok => by
  intro hlen
  refine mX (V := NewP w.heap.size Φ) hok hlt hnd (NewP.stays _ _) (fun a' w' F' E' D' => (h a' w' F' (M.later E')).mono fun u w'' hu => newP_of E' hu) (mDone hn hef fun a' w' F he hX _ _ _ => ?_) hlen
  obtain ⟨ent, h1, h2⟩ := hX k (NewP w.heap.size Φ) (by rw [← hlen]; simp)
  have h4 : a'.tmps.getD d undef = slotV ol.toArray k a' := by
    unfold slotV
    rw [List.getElem?_toArray, hat]
  exact hk _ ent h1 a' w' (F.know h4) ((M.later he).joinNew M h2)
end
attribute [local irreducible] OpTo wpListIn Code.wpIn MW Cal
/-- the number of a row of bytes, the first one highest -/
def beN (xs : List Int) : Int := xs.foldl (fun v c => 256 * v + c) 0
theorem beN_snoc (xs : List Int) (c : Int) : beN (xs ++ [c]) = 256 * beN xs + c := by simp [beN]
theorem beN_bd : ∀ (n : Nat) (xs : List Int), xs.length = n → (∀ x ∈ xs, 0 ≤ x ∧ x < 256) → 0 ≤ beN xs ∧ beN xs < ((256 ^ n : Nat) : Int)
  | 0, xs, hl, _ => by
    have : xs = [] := List.length_eq_zero_iff.1 hl
    subst this; simp [beN]
  | n + 1, xs, hl, h => by
    obtain ⟨ys, c, rfl⟩ : ∃ ys c, xs = ys ++ [c] := ⟨xs.dropLast, xs.getLast (by intro e; rw [e] at hl; cases hl), (List.dropLast_concat_getLast _).symm⟩
    have ih := beN_bd n ys (by simpa using hl) (fun x hx => h x (by simp [hx]))
    have hc := h c (by simp)
    rw [beN_snoc, Nat.pow_succ]
    omega
theorem shl8u64 {v c : Int} (h0 : 0 ≤ v) (h1 : v < 72057594037927936) (c0 : 0 ≤ c) (c1 : c < 256) : bitsOf .or .u64 (IntKind.u64.wrap (v * 2 ^ min (Int.toNat 8) IntKind.u64.bits)) c = 256 * v + c := by
  obtain ⟨q, rfl⟩ := Int.eq_ofNat_of_zero_le h0
  obtain ⟨n, rfl⟩ := Int.eq_ofNat_of_zero_le c0
  have e : IntKind.u64.wrap ((q : Int) * 2 ^ min (Int.toNat 8) IntKind.u64.bits) = ((2 ^ 8 * q : Nat) : Int) := by
    have : ((q : Int) * 2 ^ min (Int.toNat 8) IntKind.u64.bits) = ((2 ^ 8 * q : Nat) : Int) := by
      show (q : Int) * 256 = _
      omega
    rw [this]
    exact wrap_u rfl (show 2 ^ 8 * q < 18446744073709551616 by omega)
  rw [e, or_add (k := .u64) rfl 8 q n (by omega) (show 2 ^ 8 * q + n < 18446744073709551616 by omega)]
  omega
theorem seg_at {cs : List Value} {off n i : Nat} {xs : List Int} (h : seg cs off n = some (ipC xs)) (hi : i < n) {q : Nat} (hq : q = off + i) : nth cs q = some (.int .u8 (xs.getD i 0)) := by
  obtain ⟨h1, h2⟩ := seg_spec _ _ _ _ h
  have := h2 i hi
  subst hq
  rw [nth_spec, this]
  have hxn : xs.length = n := by simpa [ipC] using h1
  have hl : i < xs.length := by omega
  simp [ipC, hl]
set_option maxHeartbeats 400000 in
theorem uint_c {b o len cap : Nat} {at_ n : Nat} {cs : List Value} {t : TypeId} {fz : Nat × Nat} (xs : List Int) (W : World) (hb : W.heap[b]? = some (.cells cs.toArray t fz)) (hs : seg cs (o + at_) n = some (ipC xs)) (hx : ∀ x ∈ xs, 0 ≤ x ∧ x < 256) (h1 : 1 ≤ n) (h8 : n ≤ 8) (hl : at_ + n ≤ len) (hc : len ≤ cap) (hm : len ≤ 9223372036854775807) :
    Cal Tryz.prog 16 [.slice (some ⟨b, o, none⟩) len cap, .int .i64 at_, .int .i64 n].toArray W fun v w' => v = .tuple #[.int .u64 (beN xs), .bool true] ∧ Ext [] W w' := by
  have hxl : xs.length = n := by have := (seg_spec _ _ _ _ hs).1; simpa [ipC] using this
  refine fn_ofM (n := 47) [b] Tryz.func16 rfl rfl rfl ?_
  intro a w F M hwW
  replace M := M.came hwW hb (by simp) (by simp)
  refine c_seq (c_region ?_)
  refine sD F (o_assign (F.ev rfl) ?_); clear F a; intro a F
  refine sD F (o_assign (F.ev rfl) ?_); clear F a; intro a F
  with_reducible refine l_nil (q_then (c_seq (c_seq (c_region ?_))))
  refine sD F (o_move (F.ev rfl) ?_); clear F a; intro a F
  refine sD F (o_lssF (F.ev rfl) (F.ev rfl) (by omega) ?_); clear F a; intro a F
  refine sD F (o_move (F.ev rfl) ?_); clear F a; intro a F
  refine sG F (o_move (F.ev rfl) ?_); clear F a; intro a F
  refine sG F (o_gtrF (F.ev rfl) (F.ev rfl) (by omega) ?_); clear F a; intro a F
  refine sD F (o_pickF (F.ev rfl) (F.ev rfl) ?_); clear F a; intro a F
  refine sD F (o_move (F.ev rfl) ?_); clear F a; intro a F
  refine sG F (o_move (F.ev rfl) ?_); clear F a; intro a F
  refine sG F (o_lssF (F.ev rfl) (F.ev rfl) (by omega) ?_); clear F a; intro a F
  refine sD F (o_pickF (F.ev rfl) (F.ev rfl) ?_); clear F a; intro a F
  refine sD F (o_move (F.ev rfl) ?_); clear F a; intro a F
  refine sG F (o_move (F.ev rfl) ?_); clear F a; intro a F
  refine sG F (o_move (F.ev rfl) ?_); clear F a; intro a F
  refine sG F (o_lenSl (F.ev rfl) ?_); clear F a; intro a F
  refine sG F (o_move (F.ev rfl) ?_); clear F a; intro a F
  refine sG F (o_sub (F.ev rfl) (F.ev rfl) (w_i64 (by omega) (by omega)) ?_); clear F a; intro a F
  refine sG F (o_gtrF (F.ev rfl) (F.ev rfl) (by omega) ?_); clear F a; intro a F
  refine sD F (o_pickF (F.ev rfl) (F.ev rfl) ?_); clear F a; intro a F
  with_reducible refine l_nil (q_then ?_)
  refine c_false F rfl rfl ?_
  with_reducible refine c_skip (q_then (c_seq (c_region ?_)))
  refine sD F (o_assign (F.ev rfl) ?_); clear F a; intro a F
  with_reducible refine l_nil (q_then (c_seq (c_seq (c_region ?_))))
  refine sD F (o_move (F.ev rfl) ?_); clear F a; intro a F
  refine sD F (o_move (F.ev rfl) ?_); clear F a; intro a F
  refine sD F (o_move (F.ev rfl) ?_); clear F a; intro a F
  refine sD F (o_move (F.ev rfl) ?_); clear F a; intro a F
  refine sD F (o_add (F.ev rfl) (F.ev rfl) (w_i64 (by omega) (by omega)) ?_); clear F a; intro a F
  (refine sD F (o_slLH (F.ev rfl) (F.ev rfl) (F.ev rfl) (by omega) (by omega) (by omega) (by omega) ?_); clear F a; intro a F)
  refine sD F (o_lenSl (F.ev rfl) ?_); clear F a; intro a F
  refine sD F (o_move (F.ev rfl) ?_); clear F a; intro a F
  with_reducible refine l_nil (q_then (c_block ?_))
  refine c_loop (fun k a w => ∃ i : Nat, k = n - i ∧ i ≤ n ∧ Frm a 47 [] [(36, .int .i64 i), (35, .int .i64 n), (34, .slice (some ⟨b, o + at_, none⟩) n (cap - at_)), (8, .int .u64 (beN (xs.take i)))] ∧ Mem [b] W w [(b, .cells cs.toArray t fz)]) n ⟨0, rfl, by omega, ?_, M⟩ ?_
  · have e1 : (((at_ : Int) + (n : Int)).toNat - (at_ : Int).toNat) = n := by omega
    have e2 : o + (at_ : Int).toNat * 1 = o + at_ := by omega
    have e3 : cap - (at_ : Int).toNat = cap - at_ := by omega
    rw [e1, e2, e3] at F
    exact F.only [36, 35, 34, 8] rfl
  clear F M
  rintro k a w ⟨i, hk, hi, F, M⟩
  by_cases hlt : i < n
  · have e1 := seg_at hs hlt (q := o + at_ + (i : Int).toNat * 1) (by omega)
    have hg := hx (xs.getD i 0) (by rw [List.getD_eq_getElem?_getD, List.getElem?_eq_getElem (by omega)]; exact List.getElem_mem _)
    have hv := beN_bd i (xs.take i) (by rw [List.length_take]; omega) (fun x h => hx x (List.mem_of_mem_take h))
    have hp : 256 ^ i ≤ 72057594037927936 := Nat.le_trans (Nat.pow_le_pow_right (by omega) (show i ≤ 7 by omega)) (by decide)
    refine c_seq (c_region ?_)
    refine sD F (o_lssT (F.ev rfl) (F.ev rfl) (by omega) ?_); clear F a; intro a F
    with_reducible refine l_nil (q_then (c_seq ?_))
    refine c_true F rfl rfl ?_
    with_reducible refine c_skip (q_then (c_seq (c_block (c_seq (c_region ?_)))))
    refine sD F (o_indexSl (F.ev rfl) (F.ev rfl) (by omega) (by omega) ?_); clear F a; intro a F
    refine sD F (o_load1 M (F.ev rfl) (by repeat constructor) (by first | assumption | rfl) ?_); clear F a; intro a F
    refine sD F (o_assign (F.ev rfl) ?_); clear F a; intro a F
    with_reducible refine l_nil (q_then (c_region ?_))
    refine sD F (o_move (F.ev rfl) ?_); clear F a; intro a F
    refine sD F (o_shl (F.ev rfl) (F.ev rfl) (by omega) rfl ?_); clear F a; intro a F
    refine sD F (o_move (F.ev rfl) ?_); clear F a; intro a F
    refine sD F (o_conv (F.ev rfl) (w_u64 (by omega) (by omega)) ?_); clear F a; intro a F
    refine sD F (o_or (F.ev rfl) (F.ev rfl) rfl ?_); clear F a; intro a F
    refine sD F (o_assign (F.ev rfl) ?_); clear F a; intro a F
    with_reducible refine l_nil (q_inB (q_then (c_region ?_)))
    refine sD F (o_add (F.ev rfl) (F.ev rfl) (w_i64 (by omega) (by omega)) ?_); clear F a; intro a F
    refine sD F (o_move (F.ev rfl) ?_); clear F a; intro a F
    with_reducible refine l_nil (q_then ?_)
    rw [shl8u64 hv.1 (by omega) hg.1 hg.2] at F
    skip
    have hsn : xs.take (i + 1) = xs.take i ++ [xs.getD i 0] := by
      rw [List.take_succ_eq_append_getElem (by omega), List.getD_eq_getElem?_getD, List.getElem?_eq_getElem (by omega)]; rfl
    refine ⟨_, by omega, i + 1, rfl, by omega, ?_, M⟩
    rw [hsn, beN_snoc]
    exact F.only [36, 35, 34, 8] rfl
  · obtain rfl : i = n := by omega
    rw [List.take_of_length_le (by omega)] at F
    refine c_seq (c_region ?_)
    refine sD F (o_lssF (F.ev rfl) (F.ev rfl) (by omega) ?_); clear F a; intro a F
    with_reducible refine l_nil (q_then (c_seq ?_))
    refine c_false F rfl rfl ?_
    with_reducible refine c_exit (q_thenX (q_thenX (q_inBX (q_then (c_seq (c_region ?_))))))
    refine sD F (o_move (F.ev rfl) ?_); clear F a; intro a F
    refine sD F (o_assign (F.ev rfl) ?_); clear F a; intro a F
    refine sD F (o_assign (F.ev rfl) ?_); clear F a; intro a F
    with_reducible refine l_nil (q_then (c_ret ?_))
    refine p_ret F rfl (.cons (.tmp (F.ev rfl)) (.cons (.tmp (F.ev rfl)) .nil)) ?_
    exact ⟨rfl, M.back1 .here hb⟩
/-- x[i:] of a slice, i up to its length -/
theorem slL_ex (P : Program) (b o : Nat) {len cap sz : Nat} {m : Int} (h0 : 0 ≤ m) (h1 : m ≤ len) (hlc : len ≤ cap) : ∃ q, (m < len → q = some ⟨b, o + m.toNat * sz, none⟩) ∧ ∀ {t e : TypeId} {x i : Operand} {k : IntKind} {d : Option Tmp} {ty : TypeId} {pos : String} {af : Array Edge} {g : Option (Nat × Bool)} {ρ : Operand → Value} {w : World} {R : Value → World → Prop} [_ht : TU P t (.slice e)] [_hs : TSz P e sz],
    ρ x = .slice (some ⟨b, o, none⟩) len cap → ρ i = .int k m → R (.slice q (len - m.toNat) (cap - m.toNat)) w → OpTo P ⟨d, .slice t x (some i) none none, ty, pos, af, g⟩ ρ w R := by
  by_cases hc : m < cap
  · exact ⟨_, fun _ => rfl, fun hx hi hR => o_slL hx hi h0 h1 hc hR⟩
  · have e1 : cap = m.toNat := by omega
    have e2 : len = m.toNat := by omega
    refine ⟨some ⟨b, o, none⟩, fun h => by omega, fun {t e x i k d ty pos af g ρ w R} ht hs hx hi hR => ?_⟩
    have h5 : ¬ (len : Int) < m := by omega
    exact OpTo.val (v := .slice (some ⟨b, o, none⟩) (len - m.toNat) (cap - m.toNat)) (w' := w) (by simp [execOp, Instr.sliceAt, Instr.slice, Instr.sliceBounds, Instr.sliceBound, asIntOf, hx, hi, run_underlying ht.h, run_sizeOf hs.h, h0, h1, h5, addr_add]; omega) hR
/-! bytes.Equal, bytes.Clone -/
theorem Mem.just {w : World} {b : Nat} {o : Obj} (h : w.heap[b]? = some o) : Mem [b] w w [(b, o)] :=
  ⟨Ext.refl _ _, fun p hp => by rw [List.mem_singleton.1 hp]; exact h, by simp, fun p hp => .inl (by rw [List.mem_singleton.1 hp]; simp)⟩
theorem o_convAt {P : Program} {ρ : Operand → Value} {w : World} {R : Value → World → Prop} {d : Option Tmp} {ty : TypeId} {pos : String} {af : Array Edge} {g : Option (Nat × Bool)} {s t e : TypeId} {x : Operand} {v : Value} {xs : List Int} (hx : ρ x = v) (hS : SlAt w 1 v xs.length (ipC xs)) [hs : TU P s (.slice e)] [he : TU P e (.int .u8)] [ht : TU P t .string]
    (h : R (.string (strOfNums xs)) w) : OpTo P ⟨d, .convert s t x, ty, pos, af, g⟩ ρ w R := by
  obtain ⟨p, cap, rfl, h1, _, h3, h4⟩ := hS
  by_cases h0 : 0 < xs.length
  · obtain ⟨b, o, cs, t', fz, rfl, h5, h6⟩ := h4 h0
    exact o_convBS (M := Mem.just h5) hx .here (by simpa [ipC] using h6) h
  · have : xs = [] := List.length_eq_zero_iff.1 (by omega)
    subst this
    have h7 : (convert s t (.slice p 0 cap)).run P w = .ok (.string .empty) w := by
      rw [run_convert_bytes_string (P := P) w s t e p 0 cap hs.h he.h ht.h]
      cases p <;> simp [Conv.bytesToString, loadCells]
      all_goals rfl
    exact OpTo.val (v := .string .empty) (w' := w) (by simp [execOp, hx, h7]) h
/-- an owned slice is handed to a call, which hands it back -/
theorem g_callO {c : Cx} {Q : Exit → Act → World → Prop} {ks : List KF} {fr : List (Nat × Value)} {l : Row} {all : Array Oper} {rest : List Oper} {d : Nat} {ty : TypeId} {pos : String} {af : Array Edge} {g : Option (Nat × Bool)} (i : Nat) (Ψ : Value → List (Nat × Obj) → Prop) {ent : List (Nat × Obj)} {f : List (Nat × Obj) → Row} {x : Operand} {fn : FuncId} {xs : List Operand} {ts : Array TypeId} {vs : List Value} [hb : TBody c.P fn] (hx : Ev fr x = some (.func (.func fn) #[] #[])) (ha : evL fr xs = some vs) (hi : nthO l i = some ent) (hf : ∀ e', setO l i e' = some (f e'))
    (hc : ∀ w r, Mem c.S c.W w (r ++ ent) → Cal c.P fn vs.toArray w fun u w' => ∃ e', Ψ u e' ∧ Mem c.S c.W w' (r ++ e')) (hk : ∀ u e', Ψ u e' → G c Q ks (.ops all rest) ((d, u) :: fr) (f e')) (hd : Nat.blt d c.n = true := by rfl) (hg : gOk all fr g = some true := by rfl) :
    G c Q ks (.ops all (⟨some d, .call ⟨.value x, xs.toArray, ts⟩, ty, pos, af, g⟩ :: rest)) fr l :=
  g_op rfl hd hg fun a w F M => by
    obtain ⟨r, p1, _⟩ := nthO_perm hi (hf ent)
    have hp : ∀ e', (f e').flatten.Perm (e' ++ r) := fun e' => by
      obtain ⟨r', q1, q2⟩ := nthO_perm hi (hf e')
      exact q2.trans (List.Perm.append_left _ ((List.perm_append_left_iff ent).1 (q1.symm.trans p1)))
    refine o_call (F.ev hx) (F.evs ha) (Cal.mono (hc w r (M.perm (p1.trans List.perm_append_comm))) fun u w' h a' F' => ?_)
    obtain ⟨e', h1, M'⟩ := h
    exact hk u e' h1 a' w' F' (M'.perm (List.perm_append_comm.trans (hp e').symm))
theorem map_u8_inj : ∀ {xs ys : List Int}, IsBy xs → IsBy ys → xs.map (fun n => UInt8.ofNat n.toNat) = ys.map (fun n => UInt8.ofNat n.toNat) → xs = ys
  | [], [], _, _, _ => rfl
  | [], _ :: _, _, _, h => by simp at h
  | _ :: _, [], _, _, h => by simp at h
  | x :: xs, y :: ys, hx, hy, h => by
    simp only [List.map_cons, List.cons.injEq] at h
    have h1 := hx x List.mem_cons_self
    have h2 := hy y List.mem_cons_self
    have h3 := congrArg UInt8.toNat h.1
    simp only [UInt8.toNat_ofNat'] at h3
    have : x = y := by omega
    rw [this, map_u8_inj (fun z hz => hx z (List.mem_cons_of_mem _ hz)) (fun z hz => hy z (List.mem_cons_of_mem _ hz)) h.2]
theorem strOf_inj {xs ys : List Int} (hx : IsBy xs) (hy : IsBy ys) : (xs.map (fun n => UInt8.ofNat n.toNat) == ys.map (fun n => UInt8.ofNat n.toNat)) = (xs == ys) := by
  rw [Bool.eq_iff_iff, beq_iff_eq, beq_iff_eq]
  exact ⟨map_u8_inj hx hy, fun h => by rw [h]⟩
set_option maxHeartbeats 400000 in
theorem equal_c {xs ys : List Int} {v u : Value} (W : World) (hx : IsBy xs) (hy : IsBy ys) (hS : SlAt W 1 v xs.length (ipC xs)) (hT : SlAt W 1 u ys.length (ipC ys)) :
    Cal Tryz.prog 8 [v, u].toArray W fun r w' => r = .bool (xs == ys) ∧ Ext [] W w' := by
  refine fn_ofM (n := 10) [] Tryz.func8 rfl rfl rfl ?_
  intro a w F M hwW
  refine c_seq (c_region ?_)
  refine sD F (o_assign (F.ev rfl) ?_); clear F a; intro a F
  with_reducible refine l_nil (q_then (c_seq (c_region ?_)))
  refine sD F (o_move (F.ev rfl) ?_); clear F a; intro a F
  (refine sD F (o_convAt (F.ev rfl) (hS.later M.ext) ?_); clear F a; intro a F)
  refine sD F (o_move (F.ev rfl) ?_); clear F a; intro a F
  (refine sD F (o_convAt (F.ev rfl) (hT.later M.ext) ?_); clear F a; intro a F)
  refine sD F (s_eql (F.ev rfl) (F.ev rfl) ?_); clear F a; intro a F
  refine sD F (o_assign (F.ev rfl) ?_); clear F a; intro a F
  with_reducible refine l_nil (q_then (c_ret ?_))
  rw [strOf_inj hx hy] at F
  refine p_ret F rfl (.cons (.tmp (F.ev rfl)) .nil) ?_
  exact ⟨rfl, M.ext⟩
theorem IsBy.nil : IsBy [] := fun _ h => by cases h
theorem IsBy.app {a b : List Int} (h : IsBy a) (k : IsBy b) : IsBy (a ++ b) := fun x hx => (List.mem_append.1 hx).elim (h x) (k x)
theorem IsBy.take {a : List Int} (h : IsBy a) (n : Nat) : IsBy (a.take n) := fun x hx => h x (List.mem_of_mem_take hx)
theorem IsBy.drop {a : List Int} (h : IsBy a) (n : Nat) : IsBy (a.drop n) := fun x hx => h x (List.mem_of_mem_drop hx)
set_option maxHeartbeats 400000 in
/-- a copy in new memory -/
theorem bclone_c {xs : List Int} {v : Value} (W : World) (hS : SlAt W 1 v xs.length (ipC xs)) (hl : xs.length ≤ 100000) :
    Cal Tryz.prog 17 [v].toArray W fun r w' => ∃ ent, OwnS 5 1 r xs.length (ipC xs) ent ∧ Mem [] W w' ent := by
  obtain ⟨p, cap, rfl, h1, h2, h3, h4⟩ := id hS
  refine fn_ofM (n := 8) [] Tryz.func17 rfl rfl rfl ?_
  intro a w F M hwW
  refine c_seq (c_region ?_)
  refine sD F (o_assign (F.ev rfl) ?_); clear F a; intro a F
  with_reducible refine l_nil (q_then (c_seq (c_seq (c_region ?_))))
  refine sD F (o_move (F.ev rfl) ?_); clear F a; intro a F
  (refine sD F (o_eqlNil (F.ev rfl) (F.ev rfl) ?_); clear F a; intro a F)
  cases p with
  | none =>
    have : xs = [] := List.length_eq_zero_iff.1 (Nat.le_zero.1 (Nat.le_of_not_lt fun h => by obtain ⟨b, o, cs, t, fz, h5, _⟩ := h4 h; cases h5))
    subst this
    with_reducible refine l_nil (q_then ?_)
    refine c_true F rfl rfl ?_
    refine c_seq (c_region ?_)
    refine sD F (o_assign (F.ev rfl) ?_); clear F a; intro a F
    with_reducible refine l_nil (q_then (c_ret (q_thenR ?_)))
    refine p_ret F rfl (.cons (.tmp (F.ev rfl)) .nil) ?_
    exact ⟨[], OwnS.nil _ _, Mem.nil M.ext⟩
  | some q =>
    with_reducible refine l_nil (q_then ?_)
    refine c_false F rfl rfl ?_
    with_reducible refine c_skip (q_then (c_seq (c_region ?_)))
    (refine sD F (o_buildSlice F M rfl rfl rfl rfl ?_); clear F M; intro b5 w M a F)
    refine sD F (o_move (F.ev rfl) ?_); clear F a; intro a F
    have hO : OwnS 5 1 (.slice (some ⟨b5, 0, none⟩) 0 0) 0 [] [(b5, .cells ([] : List Value).toArray 5 (0, 0))] := .inr ⟨b5, 0, [], rfl, rfl, rfl, rfl, by omega⟩
    (refine sD F (o_append hO M (.here) (F.ev rfl) (F.ev rfl) ((hS.later M.ext).src (one_ip _)) (by first | omega | (simp; omega)) (by first | omega | (simp; omega)) ?_); clear F; clear M; clear hO; intro v2 ent2 w hO M a F; (try dsimp only at M))
    refine sD F (o_assign (F.ev rfl) ?_); clear F a; intro a F
    with_reducible refine l_nil (q_then (c_ret ?_))
    refine p_ret F rfl (.cons (.tmp (F.ev rfl)) .nil) ?_
    exact ⟨ent2, by simpa [oneOr] using hO, M⟩
/-! numbers as bytes -/
/-- byte i of the n bytes of a number -/
def byB (v : Int) (n i : Nat) : Int := IntKind.u8.wrap (Int.fdiv v (2 ^ min (8 * ((n : Int) - 1 - (i : Int))).toNat 64))
def beK (v : Int) (n : Nat) : List Int := (List.range n).map (byB v n)
theorem beK_len (v : Int) (n : Nat) : (beK v n).length = n := by simp [beK]
theorem u8_bd (x : Int) : 0 ≤ IntKind.u8.wrap x ∧ IntKind.u8.wrap x < 256 := by
  simp only [IntKind.wrap, IntKind.signed, IntKind.bits, Bool.false_and, Bool.false_eq_true, if_false]
  omega
theorem beK_by (v : Int) (n : Nat) : IsBy (beK v n) := fun x hx => by
  obtain ⟨i, _, rfl⟩ := List.mem_map.1 hx
  exact u8_bd _
theorem beK_take (v : Int) {n i : Nat} (h : i < n) : (beK v n).take (i + 1) = (beK v n).take i ++ [byB v n i] := by
  rw [List.take_succ_eq_append_getElem (by rw [beK_len]; exact h)]
  simp [beK]
def kRow (v : Int) (n i : Nat) : List Value := (List.range n).map fun j => if j < i then .int .u8 (byB v n j) else .int .u8 0
theorem kRow_len (v : Int) (n i : Nat) : (kRow v n i).length = n := by simp [kRow]
theorem kRow_all (v : Int) (n : Nat) : kRow v n n = ipC (beK v n) := by
  unfold kRow beK ipC
  rw [List.map_map]
  refine List.map_congr_left fun j hj => ?_
  simp [List.mem_range.1 hj]
theorem kRow_zero (v : Int) (n : Nat) : kRow v n 0 = List.replicate n (.int .u8 0) := by
  unfold kRow
  apply List.ext_getElem (by simp)
  intro j h1 h2
  simp
theorem put1 {xs : List Value} {off q : Nat} (v : Value) (h : off = q) (hq : q < xs.length) : put xs off [v] = some (xs.set q v) := by
  subst h
  rw [put_of _ _ _ (by simp; omega)]
  congr 1
  have := splice_set xs off v [] hq
  simp only [splice, List.length_nil, List.nil_append, Nat.add_zero, List.take_append_drop] at this
  exact this.symm
theorem put_kRow {A : List Value} {v : Int} {n i q : Nat} (h : i < n) (hq : q = A.length + i) : put (A ++ kRow v n i) q [.int .u8 (byB v n i)] = some (A ++ kRow v n (i + 1)) := by
  have h1 : put (kRow v n i) i [.int .u8 (byB v n i)] = some (kRow v n (i + 1)) := by
    rw [put1 (q := i) _ rfl (by rw [kRow_len]; exact h)]
    congr 1
    unfold kRow
    apply List.ext_getElem (by simp)
    intro j h1 h2
    simp only [List.getElem_set, List.getElem_map, List.getElem_range]
    split
    · subst_vars; simp
    · have : j < i ↔ j < i + 1 := by omega
      simp [this]
  have := put_in (B := []) hq h1
  simpa using this
set_option maxHeartbeats 1000000 in
theorem octApp_c {sb so m cap : Nat} {cs : List Value} {t : TypeId} {fz : Nat × Nat} (xs : List Int) (v : Int) (n : Nat) (W : World) (hb : W.heap[sb]? = some (.cells cs.toArray t fz)) (hs : seg cs so (m * 1) = some (ipC xs)) (hm : xs.length = m) (h0 : 0 < m) (h1 : m ≤ 1000) (hn : n ≤ 8) :
    Cal Tryz.prog 14 [.slice (some ⟨sb, so, none⟩) m cap, .int .u64 v, .int .i64 n].toArray W fun x w' => ∃ ent, OwnS 5 1 x (m + n) (ipC (xs ++ beK v n)) ent ∧ Mem [] W w' ent := by
  refine fn_ofM (n := 43) [sb] Tryz.func14 rfl rfl rfl ?_
  intro a w F M hwW
  replace M := M.came hwW hb (by simp) (by simp)
  refine c_seq (c_region ?_)
  refine sD F (o_assign (F.ev rfl) ?_); clear F a; intro a F
  with_reducible refine l_nil (q_then (c_seq (c_seq (c_region ?_))))
  refine sD F (o_move (F.ev rfl) ?_); clear F a; intro a F
  refine sD F (o_lssF (F.ev rfl) (F.ev rfl) (by omega) ?_); clear F a; intro a F
  refine sD F (o_move (F.ev rfl) ?_); clear F a; intro a F
  refine sG F (o_move (F.ev rfl) ?_); clear F a; intro a F
  refine sG F (o_gtrF (F.ev rfl) (F.ev rfl) (by omega) ?_); clear F a; intro a F
  refine sD F (o_pickF (F.ev rfl) (F.ev rfl) ?_); clear F a; intro a F
  with_reducible refine l_nil (q_then ?_)
  refine c_false F rfl rfl ?_
  with_reducible refine c_skip (q_then (c_seq (c_region ?_)))
  refine sD F (o_move (F.ev rfl) ?_); clear F a; intro a F
  refine sD F (o_lenSl (F.ev rfl) ?_); clear F a; intro a F
  refine sD F (o_move (F.ev rfl) ?_); clear F a; intro a F
  refine sD F (o_add (F.ev rfl) (F.ev rfl) (w_i64 (by omega) (by omega)) ?_); clear F a; intro a F
  (refine sD F (o_make1 M (F.ev rfl) (F.ev rfl) (by omega) (by omega) (by omega) ?_); clear F M; intro b w M a F)
  rw [show ((m : Int) + (n : Int)).toNat = m + n by omega] at F M
  refine sD F (o_assign (F.ev rfl) ?_); clear F a; intro a F
  with_reducible refine l_nil (q_then (c_seq (c_region ?_)))
  refine sD F (o_move (F.ev rfl) ?_); clear F a; intro a F
  refine sD F (o_move (F.ev rfl) ?_); clear F a; intro a F
  have hp : put (List.replicate (m + n) (Value.int .u8 0)) 0 (ipC xs) = some (ipC xs ++ kRow v n 0) := by
    rw [put_of _ _ _ (by simp [ipC]; omega), kRow_zero]
    unfold splice
    rw [ipC_len, hm]
    simp
  (refine sD F (o_copy (n := m) M (F.ev rfl) (F.ev rfl) (by show _ = min _ _; omega) (.there .here) hs (one_ip _) .here hp .here ?_); clear F M; intro w M a F)
  with_reducible refine l_nil (q_then (c_seq (c_seq (c_region ?_))))
  refine sD F (o_move (F.ev rfl) ?_); clear F a; intro a F
  refine sD F (o_move (F.ev rfl) ?_); clear F a; intro a F
  with_reducible refine l_nil (q_then (c_block ?_))
  refine c_loop (fun k a w => ∃ i : Nat, k = n - i ∧ i ≤ n ∧ Frm a 43 [] [(24, .int .i64 i), (23, .int .i64 n), (7, .slice (some ⟨b, 0, none⟩) (m + n) (m + n)), (0, .slice (some ⟨sb, so, none⟩) m cap), (1, .int .u64 v), (2, .int .i64 n)] ∧ Mem [sb] W w [(b, .cells (ipC xs ++ kRow v n i).toArray 5 (0, 0)), (sb, .cells cs.toArray t fz)]) n ⟨0, rfl, by omega, F.only [24, 23, 7, 0, 1, 2] rfl, M⟩ ?_
  clear F M
  rintro k a w ⟨i, hk, hi, F, M⟩
  by_cases hlt : i < n
  · refine c_seq ?_
    refine c_region ?_
    refine sD F (o_lssT (F.ev rfl) (F.ev rfl) (by omega) ?_); clear F a; intro a F
    with_reducible refine l_nil (q_then (c_seq ?_))
    refine c_true F rfl rfl ?_
    with_reducible refine c_skip (q_then (c_seq (c_block (c_seq (c_region ?_)))))
    refine sD F (o_move (F.ev rfl) ?_); clear F a; intro a F
    refine sD F (o_assign (F.ev rfl) ?_); clear F a; intro a F
    with_reducible refine l_nil (q_then (c_region ?_))
    refine sD F (o_move (F.ev rfl) ?_); clear F a; intro a F
    refine sD F (o_move (F.ev rfl) ?_); clear F a; intro a F
    refine sD F (o_lenSl (F.ev rfl) ?_); clear F a; intro a F
    refine sD F (o_move (F.ev rfl) ?_); clear F a; intro a F
    refine sD F (o_add (F.ev rfl) (F.ev rfl) (w_i64 (by omega) (by omega)) ?_); clear F a; intro a F
    refine sD F (o_move (F.ev rfl) ?_); clear F a; intro a F
    refine sD F (o_move (F.ev rfl) ?_); clear F a; intro a F
    refine sD F (o_sub (F.ev rfl) (F.ev rfl) (w_i64 (by omega) (by omega)) ?_); clear F a; intro a F
    refine sD F (o_move (F.ev rfl) ?_); clear F a; intro a F
    refine sD F (o_sub (F.ev rfl) (F.ev rfl) (w_i64 (by omega) (by omega)) ?_); clear F a; intro a F
    refine sD F (o_mul (F.ev rfl) (F.ev rfl) (w_i64 (by omega) (by omega)) ?_); clear F a; intro a F
    refine sD F (o_shr (F.ev rfl) (F.ev rfl) (by omega) rfl ?_); clear F a; intro a F
    refine sD F (o_conv (F.ev rfl) rfl ?_); clear F a; intro a F
    refine sD F (o_indexSl (F.ev rfl) (F.ev rfl) (by omega) (by omega) ?_); clear F a; intro a F
    (refine stepN rfl F (o_store1 M (F.ev rfl) (F.ev rfl) rfl (by repeat constructor) (put_kRow hlt (by rw [ipC_len, hm]; omega)) (by repeat constructor) ?_); clear F M; intro w M a F)
    with_reducible refine l_nil (q_inB (q_then (c_region ?_)))
    refine sD F (o_add (F.ev rfl) (F.ev rfl) (w_i64 (by omega) (by omega)) ?_); clear F a; intro a F
    refine sD F (o_move (F.ev rfl) ?_); clear F a; intro a F
    with_reducible refine l_nil (q_then ?_)
    exact ⟨_, by omega, i + 1, rfl, by omega, F.only [24, 23, 7, 0, 1, 2] rfl, M⟩
  · obtain rfl : i = n := by omega
    rw [kRow_all, ← ipC_app] at M
    refine c_seq (c_region ?_)
    refine sD F (o_lssF (F.ev rfl) (F.ev rfl) (by omega) ?_); clear F a; intro a F
    with_reducible refine l_nil (q_then (c_seq ?_))
    refine c_false F rfl rfl ?_
    with_reducible refine c_exit (q_thenX (q_thenX (q_inBX (q_then (c_seq (c_region ?_))))))
    refine sD F (o_move (F.ev rfl) ?_); clear F a; intro a F
    refine sD F (o_assign (F.ev rfl) ?_); clear F a; intro a F
    with_reducible refine l_nil (q_then (c_ret ?_))
    refine p_ret F rfl (.cons (.tmp (F.ev rfl)) .nil) ?_
    exact ⟨[(b, _)], .inr ⟨b, m + i, [], rfl, by rw [List.append_nil], by rw [ipC_len, List.length_append, beK_len, hm]; omega, by simp, by omega⟩, M.back' (fun k hk => by simp at hk; subst hk; exact ⟨_, .there .here, hb⟩) (by simp) (fun p hp => by simp only [List.mem_singleton] at hp; subst hp; have := M.nd; simp at this; simpa using this)⟩
set_option maxHeartbeats 400000 in
/-- the reference's number out of bytes -/
theorem rget_c {b o len cap : Nat} {at_ n : Nat} {cs : List Value} {t : TypeId} {fz : Nat × Nat} (xs : List Int) (W : World) (hb : W.heap[b]? = some (.cells cs.toArray t fz)) (hs : seg cs (o + at_) n = some (ipC xs)) (hx : IsBy xs) (h8 : n ≤ 8) (hl : at_ + n ≤ len) (hm : len ≤ 9223372036854775807) :
    Cal Tryz.prog 18 [.slice (some ⟨b, o, none⟩) len cap, .int .i64 at_, .int .i64 n].toArray W fun v w' => v = .int .u64 (beN xs) ∧ Ext [] W w' := by
  have hxl : xs.length = n := by have := (seg_spec _ _ _ _ hs).1; simpa [ipC] using this
  refine fn_ofM (n := 25) [b] Tryz.func18 rfl rfl rfl ?_
  intro a w F M hwW
  replace M := M.came hwW hb (by simp) (by simp)
  refine c_seq (c_region ?_)
  refine sD F (o_assign (F.ev rfl) ?_); clear F a; intro a F
  with_reducible refine l_nil (q_then (c_seq (c_region ?_)))
  refine sD F (o_assign (F.ev rfl) ?_); clear F a; intro a F
  with_reducible refine l_nil (q_then (c_seq (c_seq (c_region ?_))))
  refine sD F (o_assign (F.ev rfl) ?_); clear F a; intro a F
  with_reducible refine l_nil (q_then (c_block ?_))
  refine c_loop (fun k a w => ∃ i : Nat, k = n - i ∧ i ≤ n ∧ Frm a 25 [] [(8, .int .i64 i), (0, .slice (some ⟨b, o, none⟩) len cap), (1, .int .i64 at_), (2, .int .i64 n), (7, .int .u64 (beN (xs.take i)))] ∧ Mem [b] W w [(b, .cells cs.toArray t fz)]) n ⟨0, rfl, by omega, F.only [8, 0, 1, 2, 7] rfl, M⟩ ?_
  clear F M
  rintro k a w ⟨i, hk, hi, F, M⟩
  by_cases hlt : i < n
  · have e1 := seg_at hs hlt (q := o + ((at_ : Int) + (i : Int)).toNat * 1) (by omega)
    have hg := hx (xs.getD i 0) (by rw [List.getD_eq_getElem?_getD, List.getElem?_eq_getElem (by omega)]; exact List.getElem_mem _)
    have hv := beN_bd i (xs.take i) (by rw [List.length_take]; omega) (fun x h => hx x (List.mem_of_mem_take h))
    have hp : 256 ^ i ≤ 72057594037927936 := Nat.le_trans (Nat.pow_le_pow_right (by omega) (show i ≤ 7 by omega)) (by decide)
    with_reducible refine c_seq (c_seq (c_region ?_))
    refine sD F (o_move (F.ev rfl) ?_); clear F a; intro a F
    refine sD F (o_move (F.ev rfl) ?_); clear F a; intro a F
    refine sD F (o_lssT (F.ev rfl) (F.ev rfl) (by omega) ?_); clear F a; intro a F
    with_reducible refine l_nil (q_then ?_)
    refine c_true F rfl rfl ?_
    with_reducible refine c_skip (q_then (c_seq (c_block (c_region ?_))))
    refine sD F (o_move (F.ev rfl) ?_); clear F a; intro a F
    refine sD F (o_shl (F.ev rfl) (F.ev rfl) (by omega) rfl ?_); clear F a; intro a F
    refine sD F (o_move (F.ev rfl) ?_); clear F a; intro a F
    refine sD F (o_move (F.ev rfl) ?_); clear F a; intro a F
    refine sD F (o_move (F.ev rfl) ?_); clear F a; intro a F
    refine sD F (o_add (F.ev rfl) (F.ev rfl) (w_i64 (by omega) (by omega)) ?_); clear F a; intro a F
    refine sD F (o_indexSl (F.ev rfl) (F.ev rfl) (by omega) (by omega) ?_); clear F a; intro a F
    refine sD F (o_load1 M (F.ev rfl) (by repeat constructor) (by first | assumption | rfl) ?_); clear F a; intro a F
    refine sD F (o_conv (F.ev rfl) (w_u64 (by omega) (by omega)) ?_); clear F a; intro a F
    refine sD F (o_or (F.ev rfl) (F.ev rfl) rfl ?_); clear F a; intro a F
    refine sD F (o_assign (F.ev rfl) ?_); clear F a; intro a F
    with_reducible refine l_nil (q_inB (q_then (c_region ?_)))
    refine sD F (o_move (F.ev rfl) ?_); clear F a; intro a F
    refine sD F (o_add (F.ev rfl) (F.ev rfl) (w_i64 (by omega) (by omega)) ?_); clear F a; intro a F
    refine sD F (o_assign (F.ev rfl) ?_); clear F a; intro a F
    with_reducible refine l_nil (q_then ?_)
    rw [shl8u64 hv.1 (by omega) hg.1 hg.2] at F
    skip
    have hsn : xs.take (i + 1) = xs.take i ++ [xs.getD i 0] := by
      rw [List.take_succ_eq_append_getElem (by omega), List.getD_eq_getElem?_getD, List.getElem?_eq_getElem (by omega)]; rfl
    refine ⟨_, by omega, i + 1, rfl, by omega, ?_, M⟩
    rw [hsn, beN_snoc]
    exact F.only [8, 0, 1, 2, 7] rfl
  · obtain rfl : i = n := by omega
    rw [List.take_of_length_le (by omega)] at F
    with_reducible refine c_seq (c_seq (c_region ?_))
    refine sD F (o_move (F.ev rfl) ?_); clear F a; intro a F
    refine sD F (o_move (F.ev rfl) ?_); clear F a; intro a F
    refine sD F (o_lssF (F.ev rfl) (F.ev rfl) (by omega) ?_); clear F a; intro a F
    with_reducible refine l_nil (q_then ?_)
    refine c_false F rfl rfl ?_
    with_reducible refine c_exit (q_thenX (q_thenX (q_inBX (q_then (c_seq (c_region ?_))))))
    refine sD F (o_move (F.ev rfl) ?_); clear F a; intro a F
    refine sD F (o_assign (F.ev rfl) ?_); clear F a; intro a F
    with_reducible refine l_nil (q_then (c_ret ?_))
    refine p_ret F rfl (.cons (.tmp (F.ev rfl)) .nil) ?_
    exact ⟨rfl, M.back1 .here hb⟩
set_option maxHeartbeats 1000000 in
/-- the reference's bytes of a number, appended -/
theorem rput_c {S : List Nat} {W0 W : World} {r ent : List (Nat × Obj)} {v0 : Value} {m : Nat} {xs : List Int} (v : Int) (n : Nat) (hO : OwnS 5 1 v0 m (ipC xs) ent) (M : Mem S W0 W (r ++ ent)) (hm : m ≤ 1000) (hn : n ≤ 8) :
    Cal Tryz.prog 19 [v0, .int .u64 v, .int .i64 n].toArray W fun x w' => ∃ ent', OwnS 5 1 x (m + n) (ipC (xs ++ beK v n)) ent' ∧ Mem S W0 w' (r ++ ent') := by
  have hv0 : v0.oneCell' = true := by obtain ⟨p, c, rfl⟩ := hO.slice; rfl
  refine fn_of (n := 24) Tryz.func19 rfl rfl rfl ?_
  intro a F
  refine c_seq (c_region ?_)
  refine sD F (o_assign (F.ev rfl) ?_); clear F a; intro a F
  with_reducible refine l_nil (q_then (c_seq (c_seq (c_region ?_))))
  refine sD F (o_move (F.ev rfl) ?_); clear F a; intro a F
  refine sD F (o_sub (F.ev rfl) (F.ev rfl) (w_i64 (by omega) (by omega)) ?_); clear F a; intro a F
  refine sD F (o_assign (F.ev rfl) ?_); clear F a; intro a F
  with_reducible refine l_nil (q_then (c_block ?_))
  refine c_loop (fun k a w => ∃ (i : Nat) (u : Value) (e : List (Nat × Obj)), k = n - i ∧ i ≤ n ∧ OwnS 5 1 u (m + i) (ipC (xs ++ (beK v n).take i)) e ∧ Frm a 24 [] [(7, .int .i64 ((n : Int) - 1 - (i : Int))), (0, u), (1, .int .u64 v), (2, .int .i64 n)] ∧ Mem S W0 w (r ++ e)) n ⟨0, v0, ent, rfl, by omega, by simpa using hO, ?_, M⟩ ?_
  · have := F.only [7, 0, 1, 2] rfl
    simpa using this
  clear F M hO hv0
  rintro k a w ⟨i, u, e, hk, hi, hO, F, M⟩
  by_cases hlt : i < n
  · refine c_seq ?_
    refine c_seq (c_region ?_)
    refine sD F (o_move (F.ev rfl) ?_); clear F a; intro a F
    refine sD F (o_geqT (F.ev rfl) (F.ev rfl) (by omega) ?_); clear F a; intro a F
    with_reducible refine l_nil (q_then ?_)
    refine c_true F rfl rfl ?_
    with_reducible refine c_skip (q_then (c_seq (c_block (c_region ?_))))
    refine sD F (o_move (F.ev rfl) ?_); clear F a; intro a F
    refine sD F (o_move (F.ev rfl) ?_); clear F a; intro a F
    refine sD F (o_move (F.ev rfl) ?_); clear F a; intro a F
    refine sD F (o_mul (F.ev rfl) (F.ev rfl) (w_i64 (by omega) (by omega)) ?_); clear F a; intro a F
    refine sD F (o_conv (F.ev rfl) (w_u64 (by omega) (by omega)) ?_); clear F a; intro a F
    refine sD F (o_shr (F.ev rfl) (F.ev rfl) (by omega) rfl ?_); clear F a; intro a F
    refine sD F (o_conv (F.ev rfl) rfl ?_); clear F a; intro a F
    (refine sD F (o_buildSlice F M rfl rfl rfl rfl ?_); clear F M; intro b21 w M a F)
    skip
    (refine sD F (o_append hO M (.cons (.app .here)) (F.ev rfl) (F.ev rfl) (SrcOf.cells' (M.heap .here) rfl rfl) (by first | omega | (simp; omega)) (by first | omega | (simp; omega)) ?_); clear F; clear M; clear hO; intro u2 e2 w hO M a F; (try dsimp only at M))
    refine sD F (o_assign (F.ev rfl) ?_); clear F a; intro a F
    with_reducible refine l_nil (q_inB (q_then (c_region ?_)))
    refine sD F (o_move (F.ev rfl) ?_); clear F a; intro a F
    refine sD F (o_sub (F.ev rfl) (F.ev rfl) (w_i64 (by omega) (by omega)) ?_); clear F a; intro a F
    refine sD F (o_assign (F.ev rfl) ?_); clear F a; intro a F
    with_reducible refine l_nil (q_then ?_)
    refine ⟨_, by omega, i + 1, u2, e2, rfl, by omega, ?_, ?_, M.sub (List.sublist_cons_self _ _)⟩
    · rw [beK_take v hlt, ← List.append_assoc, ipC_app]
      exact hO
    · rw [show (n : Int) - 1 - ((i + 1 : Nat) : Int) = (n : Int) - 1 - (i : Int) - 1 by omega]
      exact F.only [7, 0, 1, 2] rfl
  · obtain rfl : i = n := by omega
    rw [List.take_of_length_le (by rw [beK_len]; omega)] at hO
    with_reducible refine c_seq (c_seq (c_region ?_))
    refine sD F (o_move (F.ev rfl) ?_); clear F a; intro a F
    refine sD F (o_geqF (F.ev rfl) (F.ev rfl) (by omega) ?_); clear F a; intro a F
    with_reducible refine l_nil (q_then ?_)
    refine c_false F rfl rfl ?_
    with_reducible refine c_exit (q_thenX (q_thenX (q_inBX (q_then (c_seq (c_region ?_))))))
    refine sD F (o_move (F.ev rfl) ?_); clear F a; intro a F
    refine sD F (o_assign (F.ev rfl) ?_); clear F a; intro a F
    with_reducible refine l_nil (q_then (c_ret ?_))
    refine p_ret F rfl (.cons (.tmp (F.ev rfl)) .nil) ?_
    exact ⟨e, hO, M⟩
theorem len16 {l : List Int} (h : l.length = 16) : ∃ x0 x1 x2 x3 x4 x5 x6 x7 x8 x9 x10 x11 x12 x13 x14 x15 : Int, l = [x0, x1, x2, x3, x4, x5, x6, x7, x8, x9, x10, x11, x12, x13, x14, x15] :=
  match l, h with
  | [x0, x1, x2, x3, x4, x5, x6, x7, x8, x9, x10, x11, x12, x13, x14, x15], _ => ⟨x0, x1, x2, x3, x4, x5, x6, x7, x8, x9, x10, x11, x12, x13, x14, x15, rfl⟩
/-! the same, told of slices as a whole -/
theorem SlAt.blk {W : World} {v : Value} {xs : List Int} (h : SlAt W 1 v xs.length (ipC xs)) (h0 : 0 < xs.length) : ∃ b o cap cs t fz, v = .slice (some ⟨b, o, none⟩) xs.length cap ∧ xs.length ≤ cap ∧ W.heap[b]? = some (.cells (List.toArray cs) t fz) ∧ seg cs o (xs.length * 1) = some (ipC xs) := by
  obtain ⟨p, cap, rfl, h1, _, h3, h4⟩ := h
  obtain ⟨b, o, cs, t, fz, rfl, h5, h6⟩ := h4 h0
  exact ⟨b, o, cap, cs, t, fz, rfl, h1, h5, h6⟩
theorem octAppN_c {v0 : Value} {m : Nat} {xs : List Int} (v : Int) (n : Nat) (W : World) (hS : SlAt W 1 v0 m (ipC xs)) (h0 : 0 < m) (h1 : m ≤ 1000) (hn : n ≤ 8) :
    Cal Tryz.prog 14 [v0, .int .u64 v, .int .i64 n].toArray W fun x w' => ∃ i : Value × List (Nat × Obj), x = i.1 ∧ OwnS 5 1 i.1 (m + n) (ipC (xs ++ beK v n)) i.2 ∧ Mem [] W w' ([i.2] : Row).flatten := by
  have hm : xs.length = m := by obtain ⟨p, cap, _, _, _, h3, _⟩ := hS; rw [ipC_len] at h3; omega
  subst hm
  obtain ⟨b, o, cap, cs, t, fz, rfl, h2, h3, h4⟩ := hS.blk h0
  exact (octApp_c xs v n W h3 h4 rfl h0 h1 hn).mono fun x w' ⟨ent, q1, q2⟩ => ⟨(x, ent), rfl, q1, by simpa using q2⟩
theorem seg_sub {cs : List Value} {o at_ n : Nat} {xs : List Int} (h : seg cs o (xs.length * 1) = some (ipC xs)) (hl : at_ + n ≤ xs.length) : seg cs (o + at_) n = some (ipC ((xs.drop at_).take n)) := by
  refine sg_seg h ?_ rfl
  rw [sg_eq, if_pos (by rw [ipC_len]; exact hl)]
  simp [ipC]
theorem uintS_c {v : Value} {at_ n : Nat} (xs : List Int) (W : World) (hS : SlAt W 1 v xs.length (ipC xs)) (hx : IsBy xs) (h1 : 1 ≤ n) (h8 : n ≤ 8) (hl : at_ + n ≤ xs.length) (hm : xs.length ≤ 100000) :
    Cal Tryz.prog 16 [v, .int .i64 at_, .int .i64 n].toArray W fun r w' => r = .tuple #[.int .u64 (beN ((xs.drop at_).take n)), .bool true] ∧ Ext [] W w' := by
  obtain ⟨b, o, cap, cs, t, fz, rfl, h2, h3, h4⟩ := hS.blk (by omega)
  exact uint_c _ W h3 (seg_sub h4 hl) ((hx.drop _).take _) h1 h8 hl h2 (by omega)
theorem rgetS_c {v : Value} {at_ n : Nat} (xs : List Int) (W : World) (hS : SlAt W 1 v xs.length (ipC xs)) (hx : IsBy xs) (h1 : 1 ≤ n) (h8 : n ≤ 8) (hl : at_ + n ≤ xs.length) (hm : xs.length ≤ 100000) :
    Cal Tryz.prog 18 [v, .int .i64 at_, .int .i64 n].toArray W fun r w' => r = .int .u64 (beN ((xs.drop at_).take n)) ∧ Ext [] W w' := by
  obtain ⟨b, o, cap, cs, t, fz, rfl, h2, h3, h4⟩ := hS.blk (by omega)
  exact rget_c _ W h3 (seg_sub h4 hl) ((hx.drop _).take _) h8 hl (by omega)
end Go.Proofs.YtchmcdkmlmknnaaGreat
/-! O2 -/
namespace Go.Proofs.YtchmcdkmlmknnaaGreat
set_option linter.unusedVariables false
set_option linter.unusedSimpArgs false
open Go.RowKit
attribute [local irreducible] OpTo wpListIn Code.wpIn MW Cal
/-! rules -/
theorem Mem.joinB {S : List Nat} {W0 w w' : World} {l0 r new : List (Nat × Obj)} (M : Mem S W0 w (l0 ++ r)) (N : Mem (l0.map (·.1)) w w' new) : Mem S W0 w' (new ++ r) := by
  have hnd := M.nd
  simp only [List.map_append, List.nodup_append] at hnd
  have hE : Ext S W0 w' := (M.ext.mono (S' := S ++ l0.map (·.1)) fun k hk => List.mem_append_left _ hk).trans (N.ext.mono fun k hk => List.mem_append_right _ hk) |>.fresh fun k hk => by
    rcases List.mem_append.1 hk with h | h
    · exact .inl h
    · obtain ⟨q, hq, rfl⟩ := List.mem_map.1 h
      exact M.own q (List.mem_append_left _ hq)
  have hr : ∀ p ∈ r, p.1 ∉ l0.map (·.1) := fun p hp hc => hnd.2.2 _ hc _ (List.mem_map.2 ⟨p, hp, rfl⟩) rfl
  refine ⟨hE, fun p hp => ?_, ?_, fun p hp => ?_⟩
  · rcases List.mem_append.1 hp with h | h
    · exact N.at_ p h
    · exact (N.ext.block p.1 (M.lt (List.mem_append_right _ h)) (hr p h)).trans (M.at_ p (List.mem_append_right _ h))
  · simp only [List.map_append, List.nodup_append]
    refine ⟨N.nd, hnd.2.1, fun a ha b hb e => ?_⟩
    obtain ⟨p, hp, rfl⟩ := List.mem_map.1 ha
    obtain ⟨q, hq, rfl⟩ := List.mem_map.1 hb
    rcases N.own p hp with h | h
    · exact hr q hq (e ▸ h)
    · have := M.lt (List.mem_append_right _ hq)
      omega
  · rcases List.mem_append.1 hp with h | h
    · rcases N.own p h with h1 | h1
      · obtain ⟨q, hq, e⟩ := List.mem_map.1 h1
        rw [← e]
        exact M.own q (List.mem_append_left _ hq)
      · exact .inr (Nat.le_trans M.ext.size h1)
    · exact M.own p (List.mem_append_right _ h)
section
variable {c : Cx} {Q : Exit → Act → World → Prop} {ks : List KF} {fr : List (Nat × Value)} {l : Row} {d : Nat} {ty : TypeId} {pos : String} {af : Array Edge} {g : Option (Nat × Bool)} {aa : Array Oper} {rest : List Oper}
theorem g_mkF {fn : Fn} {xs ys : List Operand} {vs us : List Value} (h1 : evL fr xs = some vs) (h2 : evL fr ys = some us) (hk : G c Q ks (.ops aa rest) ((d, .func fn vs.toArray us.toArray) :: fr) l) (hd : Nat.blt d c.n = true := by rfl) (hg : gOk aa fr g = some true := by rfl) :
    G c Q ks (.ops aa (⟨some d, .makeFunc fn xs.toArray ys.toArray, ty, pos, af, g⟩ :: rest)) fr l := g_v (fun a w F M R r => o_makeFunc (F.evs h1) (F.evs h2) r) hk rfl hd hg
/-- a closure that turns one block -/
theorem g_callC1 (i : Nat) {v : Value} {o' : Obj} {b : Nat} {o : Obj} {l' : Row} {y : Operand} {fn : FuncId} {ys : List Operand} {ts : Array TypeId} {vs us : List Value} [hb : TBody c.P fn] (hx : Ev fr y = some (.func (.func fn) #[] us.toArray)) (ha : evL fr ys = some vs)
    (hl : nthO l i = some [(b, o)]) (hc : ∀ w, Mem c.S c.W w l.flatten → Cal c.P fn (vs ++ us).toArray w fun u w' => u = v ∧ Mem [b] w w' [(b, o')]) (hf : setO l i [(b, o')] = some l')
    (hk : G c Q ks (.ops aa rest) ((d, v) :: fr) l') (hd : Nat.blt d c.n = true := by rfl) (hg : gOk aa fr g = some true := by rfl) : G c Q ks (.ops aa (⟨some d, .call ⟨.value y, ys.toArray, ts⟩, ty, pos, af, g⟩ :: rest)) fr l :=
  g_op rfl hd hg fun a w F M => o_callCl (us := (vs ++ us).toArray) (F.ev hx) (F.evs ha) (by simp) (Cal.mono (hc w M) fun u w' h a' F' => by
    obtain ⟨rfl, N⟩ := h
    obtain ⟨r, p1, p2⟩ := nthO_perm hl hf
    have N' : Mem (([(b, o)] : List (Nat × Obj)).map (·.1)) w w' [(b, o')] := N
    exact hk a' w' F' (((M.perm p1).joinB N').perm p2.symm))
end
/-! datagrams -/
def dgC (cr og nm : Int) (p1 : List Int) (b1 : Int) (p2 : List Int) (b2 ro : Int) : List Value := .int .i64 cr :: .int .u64 og :: .int .u32 nm :: (ipC p1 ++ .int .i64 b1 :: (ipC p2 ++ [.int .i64 b2, .int .u64 ro]))
def hdrV (cr og nm b1 b2 ro : Int) : List Int := 48 :: (beK (IntKind.u64.wrap cr) 5 ++ (beK og 8 ++ (beK (IntKind.u64.wrap nm) 4 ++ (IntKind.u8.wrap b1 :: IntKind.u8.wrap b2 :: beK ro 8))))
theorem hdr_len (cr og nm b1 b2 ro : Int) : (hdrV cr og nm b1 b2 ro).length = 28 := by simp [hdrV, beK_len]
theorem hdr_by (cr og nm b1 b2 ro : Int) : IsBy (hdrV cr og nm b1 b2 ro) := by
  intro x hx
  simp only [hdrV, List.mem_cons, List.mem_append] at hx
  rcases hx with rfl | h | h | h | rfl | rfl | h
  · omega
  · exact beK_by _ _ x h
  · exact beK_by _ _ x h
  · exact beK_by _ _ x h
  · exact u8_bd _
  · exact u8_bd _
  · exact beK_by _ _ x h
def PhB (bs : List Int) : Value → List (Nat × Obj) → Prop := fun v ent => OwnS 5 1 v bs.length (ipC bs) ent
theorem PhB.of {v : Value} {n : Nat} {xs : List Value} {ent : List (Nat × Obj)} {bs : List Int} (h : OwnS 5 1 v n xs ent) (h1 : n = bs.length) (h2 : xs = ipC bs) : PhB bs v ent := by subst h1; subst h2; exact h
theorem PhB.slAt {bs : List Int} {v : Value} {ent : List (Nat × Obj)} (h : PhB bs v ent) {S : List Nat} {W0 w : World} {l : List (Nat × Obj)} (M : Mem S W0 w l) (hs : ∀ p ∈ ent, p ∈ l) : SlAt w 1 v bs.length (ipC bs) := OwnS.slAt h M hs
theorem octAppP_c {v0 : Value} {xs : List Int} (v : Int) (n : Nat) (W : World) (hS : SlAt W 1 v0 xs.length (ipC xs)) (h0 : 0 < xs.length) (h1 : xs.length ≤ 1000) (hn : n ≤ 8) :
    Cal Tryz.prog 14 [v0, .int .u64 v, .int .i64 n].toArray W fun x w' => ∃ i : Value × List (Nat × Obj), x = i.1 ∧ PhB (xs ++ beK v n) i.1 i.2 ∧ Mem [] W w' ([i.2] : Row).flatten :=
  (octAppN_c v n W hS h0 h1 hn).mono fun x w' ⟨i, q1, q2, q3⟩ => ⟨i, q1, PhB.of q2 (by rw [List.length_append, beK_len]) rfl, q3⟩
set_option maxHeartbeats 2000000 in
theorem wrap_c {p1 p2 : List Int} (cr og nm n1 n2 ro : Int) (h1 : p1.length = 16) (h2 : p2.length = 16) (bd : List Int) (v : Value) (W : World) (hS : SlAt W 1 v bd.length (ipC bd)) (hl : bd.length ≤ 300) :
    Cal Tryz.prog 5 [.agg (dgC cr og nm p1 n1 p2 n2 ro).toArray, v].toArray W fun r w' => ∃ ent, PhB (hdrV cr og nm n1 n2 ro ++ bd) r ent ∧ Mem [] W w' ent := by
  obtain ⟨x0, x1, x2, x3, x4, x5, x6, x7, x8, x9, x10, x11, x12, x13, x14, x15, rfl⟩ := len16 h1
  obtain ⟨y0, y1, y2, y3, y4, y5, y6, y7, y8, y9, y10, y11, y12, y13, y14, y15, rfl⟩ := len16 h2
  obtain ⟨q, cap, rfl, hS2, hS3, hS4, hS5⟩ := id hS
  simp only [dgC, ipC, List.map_cons, List.map_nil, List.cons_append, List.nil_append]
  refine g_start (n := 48) (S := []) fldT_ok slcT_ok Tryz.func5 rfl rfl rfl ?_
  refine g_run 2 rfl ?_
  refine g_box rfl rfl fun b2 => ?_
  refine g_run 7 rfl ?_
  refine g_add rfl rfl (w_i64 (by omega) (by omega)) ?_
  refine g_mk0 (z := .int .u8 0) (by kernel_rfl) rfl rfl (by omega) (by omega) (by omega) ?_
  intro v9 e9 hO9
  refine g_run 6 rfl ?_
  refine g_bs rfl rfl rfl rfl (fun b11 => ?_)
  refine g_appL 1 rfl rfl hO9 rfl (fun w M => SrcOf.cells' (M.at_ _ (nthO_mem (i := 0) rfl)) rfl rfl) (by omega) (by omega) (fun _ => rfl) ?_
  intro v12 e12 hO12
  replace hO12 : PhB [48] v12 e12 := hO12
  refine g_run 7 rfl ?_
  refine g_ld1 2 rfl rfl rfl ?_
  refine g_conv rfl rfl ?_
  refine g_callN (ι := Value × List (Nat × Obj)) (fun x => x.1) (fun y => PhB ([48] ++ beK (IntKind.u64.wrap cr) 5) y.1 y.2) (fun x => [x.2]) rfl rfl (fun w M => octAppP_c _ 5 w (hO12.slAt M (nthO_sub (i := 1) rfl)) (by simp [beK_len]) (by simp [beK_len]) (by omega)) ?_
  rintro ⟨v17, e17⟩ hO17
  refine g_run 7 rfl ?_
  refine g_ld1 3 rfl rfl rfl ?_
  refine g_callN (ι := Value × List (Nat × Obj)) (fun x => x.1) (fun y => PhB (([48] ++ beK (IntKind.u64.wrap cr) 5) ++ beK og 8) y.1 y.2) (fun x => [x.2]) rfl rfl (fun w M => octAppP_c _ 8 w (hO17.slAt M (nthO_sub (i := 0) rfl)) (by simp [beK_len]) (by simp [beK_len]) (by omega)) ?_
  rintro ⟨v21, e21⟩ hO21
  refine g_run 7 rfl ?_
  refine g_ld1 4 rfl rfl rfl ?_
  refine g_conv rfl rfl ?_
  refine g_callN (ι := Value × List (Nat × Obj)) (fun x => x.1) (fun y => PhB ((([48] ++ beK (IntKind.u64.wrap cr) 5) ++ beK og 8) ++ beK (IntKind.u64.wrap nm) 4) y.1 y.2) (fun x => [x.2]) rfl rfl (fun w M => octAppP_c _ 4 w (hO21.slAt M (nthO_sub (i := 0) rfl)) (by simp [beK_len]) (by simp [beK_len]) (by omega)) ?_
  rintro ⟨v26, e26⟩ hO26
  refine g_run 9 rfl ?_
  refine g_ld1 5 rfl rfl rfl ?_
  refine g_conv rfl rfl ?_
  refine g_run 3 rfl ?_
  refine g_ld1 5 rfl rfl rfl ?_
  refine g_conv rfl rfl ?_
  refine g_bs rfl rfl rfl rfl (fun b38 => ?_)
  refine g_appL 1 rfl rfl hO26 rfl (fun w M => SrcOf.cells' (M.at_ _ (nthO_mem (i := 0) rfl)) rfl rfl) (by simp [beK_len]) (by simp [beK_len]) (fun _ => rfl) ?_
  intro v39 e39 hO39
  replace hO39 : PhB (((([48] ++ beK (IntKind.u64.wrap cr) 5) ++ beK og 8) ++ beK (IntKind.u64.wrap nm) 4) ++ [IntKind.u8.wrap n1, IntKind.u8.wrap n2]) v39 e39 := PhB.of hO39 (by simp [beK_len]) (by rw [ipC_app]; rfl)
  refine g_run 8 rfl ?_
  refine g_ld1 6 rfl rfl rfl ?_
  refine g_callN (ι := Value × List (Nat × Obj)) (fun x => x.1) (fun y => PhB ((((([48] ++ beK (IntKind.u64.wrap cr) 5) ++ beK og 8) ++ beK (IntKind.u64.wrap nm) 4) ++ [IntKind.u8.wrap n1, IntKind.u8.wrap n2]) ++ beK ro 8) y.1 y.2) (fun x => [x.2]) rfl rfl (fun w M => octAppP_c _ 8 w (hO39.slAt M (nthO_sub (i := 1) rfl)) (by simp [beK_len]) (by simp [beK_len]) (by omega)) ?_
  rintro ⟨v44, e44⟩ hO44
  refine g_run 7 rfl ?_
  refine g_appL 0 rfl rfl hO44 rfl (fun w M => (hS.later M.ext).src (one_ip _)) (by simp [beK_len]; omega) (by simp [beK_len]; omega) (fun _ => rfl) ?_
  intro v47 e47 hO47
  replace hO47 : PhB (hdrV cr og nm n1 n2 ro ++ bd) v47 e47 := PhB.of hO47 (by simp only [List.length_append, List.length_cons, List.length_nil, beK_len, hdrV] <;> omega) (by rw [← ipC_app]; simp [hdrV])
  refine g_run 4 rfl ?_
  refine g_ret1 rfl rfl rfl fun w M => ?_
  exact ⟨e47, hO47, M.sub (by simp)⟩
set_option maxHeartbeats 2000000 in
theorem rwrap_c {p1 p2 : List Int} (cr og nm n1 n2 ro : Int) (h1 : p1.length = 16) (h2 : p2.length = 16) (bd : List Int) (v : Value) (W : World) (hS : SlAt W 1 v bd.length (ipC bd)) (hl : bd.length ≤ 300) :
    Cal Tryz.prog 9 [.agg (dgC cr og nm p1 n1 p2 n2 ro).toArray, v].toArray W fun r w' => ∃ ent, PhB (hdrV cr og nm n1 n2 ro ++ bd) r ent ∧ Mem [] W w' ent := by
  obtain ⟨x0, x1, x2, x3, x4, x5, x6, x7, x8, x9, x10, x11, x12, x13, x14, x15, rfl⟩ := len16 h1
  obtain ⟨y0, y1, y2, y3, y4, y5, y6, y7, y8, y9, y10, y11, y12, y13, y14, y15, rfl⟩ := len16 h2
  obtain ⟨q, cap, rfl, hS2, hS3, hS4, hS5⟩ := id hS
  simp only [dgC, ipC, List.map_cons, List.map_nil, List.cons_append, List.nil_append]
  refine g_start (n := 41) (S := []) fldT_ok slcT_ok Tryz.func9 rfl rfl rfl ?_
  refine g_run 2 rfl ?_
  refine g_box rfl rfl fun b2 => ?_
  refine g_run 5 rfl ?_
  refine g_bs rfl rfl rfl rfl (fun b6 => ?_)
  refine g_run 1 rfl ?_
  refine g_ld1 1 rfl rfl rfl ?_
  refine g_conv rfl rfl ?_
  have hO6 : ∀ b : Nat, PhB [48] (.slice (some ⟨b, 0, none⟩) 1 1) [(b, .cells [Value.int .u8 48].toArray 5 (0, 0))] := fun b => .inr ⟨b, 1, [], rfl, rfl, rfl, rfl, by decide⟩
  refine g_callO 0 (PhB ([48] ++ beK (IntKind.u64.wrap cr) 5)) rfl rfl rfl (fun _ => rfl) (fun w r M => (rput_c _ 5 (hO6 b6) M (by simp [beK_len]) (by omega)).mono fun u w' ⟨e', q1, q2⟩ => ⟨e', PhB.of q1 (by simp [beK_len]) rfl, q2⟩) ?_
  intro v10 e10 hO10
  refine g_run 7 rfl ?_
  refine g_ld1 1 rfl rfl rfl ?_
  refine g_callO 0 (PhB (([48] ++ beK (IntKind.u64.wrap cr) 5) ++ beK og 8)) rfl rfl rfl (fun _ => rfl) (fun w r M => (rput_c _ 8 hO10 M (by simp [beK_len]) (by omega)).mono fun u w' ⟨e', q1, q2⟩ => ⟨e', PhB.of q1 (by simp [beK_len]) rfl, q2⟩) ?_
  intro v14 e14 hO14
  refine g_run 7 rfl ?_
  refine g_ld1 1 rfl rfl rfl ?_
  refine g_conv rfl rfl ?_
  refine g_callO 0 (PhB ((([48] ++ beK (IntKind.u64.wrap cr) 5) ++ beK og 8) ++ beK (IntKind.u64.wrap nm) 4)) rfl rfl rfl (fun _ => rfl) (fun w r M => (rput_c _ 4 hO14 M (by simp [beK_len]) (by omega)).mono fun u w' ⟨e', q1, q2⟩ => ⟨e', PhB.of q1 (by simp [beK_len]) rfl, q2⟩) ?_
  intro v19 e19 hO19
  refine g_run 9 rfl ?_
  refine g_ld1 1 rfl rfl rfl ?_
  refine g_conv rfl rfl ?_
  refine g_run 3 rfl ?_
  refine g_ld1 1 rfl rfl rfl ?_
  refine g_conv rfl rfl ?_
  refine g_bs rfl rfl rfl rfl (fun b31 => ?_)
  refine g_appL 1 rfl rfl hO19 rfl (fun w M => SrcOf.cells' (M.at_ _ (nthO_mem (i := 0) rfl)) rfl rfl) (by simp [beK_len]) (by simp [beK_len]) (fun _ => rfl) ?_
  intro v32 e32 hO32
  replace hO32 : PhB (((([48] ++ beK (IntKind.u64.wrap cr) 5) ++ beK og 8) ++ beK (IntKind.u64.wrap nm) 4) ++ [IntKind.u8.wrap n1, IntKind.u8.wrap n2]) v32 e32 := PhB.of hO32 (by simp [beK_len]) (by rw [ipC_app]; rfl)
  refine g_run 8 rfl ?_
  refine g_ld1 2 rfl rfl rfl ?_
  refine g_callO 1 (PhB ((((([48] ++ beK (IntKind.u64.wrap cr) 5) ++ beK og 8) ++ beK (IntKind.u64.wrap nm) 4) ++ [IntKind.u8.wrap n1, IntKind.u8.wrap n2]) ++ beK ro 8)) rfl rfl rfl (fun _ => rfl) (fun w r M => (rput_c _ 8 hO32 M (by simp [beK_len]) (by omega)).mono fun u w' ⟨e', q1, q2⟩ => ⟨e', PhB.of q1 (by simp [beK_len]) rfl, q2⟩) ?_
  intro v37 e37 hO37
  refine g_run 7 rfl ?_
  refine g_appL 1 rfl rfl hO37 rfl (fun w M => (hS.later M.ext).src (one_ip _)) (by simp [beK_len]; omega) (by simp [beK_len]; omega) (fun _ => rfl) ?_
  intro v40 e40 hO40
  replace hO40 : PhB (hdrV cr og nm n1 n2 ro ++ bd) v40 e40 := PhB.of hO40 (by simp only [List.length_append, List.length_cons, List.length_nil, beK_len, hdrV] <;> omega) (by rw [← ipC_app]; simp [hdrV])
  refine g_run 4 rfl ?_
  refine g_ret1 rfl rfl rfl fun w M => ?_
  exact ⟨e40, hO40, M.sub (by simp)⟩
end Go.Proofs.YtchmcdkmlmknnaaGreat
/-! OO -/
namespace Go.Proofs.YtchmcdkmlmknnaaGreat
set_option linter.unusedVariables false
set_option linter.unusedSimpArgs false
open Go.ChangeShapes Go.WideShapes Go.ChangeAt Go.RowKit
theorem wfV_int {k : IntKind} {v : Value} (h : wfV (.i k) v = true) : ∃ n, v = .int k n ∧ loK k ≤ n ∧ n ≤ hiK k := by
  cases v <;> simp [wfV] at h
  rename_i k' n
  obtain ⟨rfl, hw⟩ := h
  exact ⟨n, rfl, int_bd hw⟩
theorem wfK_cons {k : LK} {ks : List LK} {xs : List Value} (h : wfK (k :: ks) xs = true) : ∃ x ys, xs = x :: ys ∧ wfV k x = true ∧ wfK ks ys = true := by
  cases xs with
  | nil => cases h
  | cons x ys => simp only [wfK, Bool.and_eq_true] at h; exact ⟨x, ys, rfl, h.1, h.2⟩
theorem wfK_nil {xs : List Value} (h : wfK [] xs = true) : xs = [] := by
  cases xs with
  | nil => rfl
  | cons x ys => cases h
theorem ip_wf : ∀ (xs : List Value) (n : Nat), wfK (List.replicate n (.i .u8)) xs = true → ∃ a : List Int, xs = ipC a ∧ a.length = n ∧ ∀ x ∈ a, 0 ≤ x ∧ x < 256
  | [], 0, _ => ⟨[], rfl, rfl, by simp⟩
  | [], n + 1, h => by simp [List.replicate_succ, wfK] at h
  | _ :: _, 0, h => by simp [wfK] at h
  | x :: xs, n + 1, h => by
    simp only [List.replicate_succ, wfK, Bool.and_eq_true] at h
    obtain ⟨a, rfl, hl, hb⟩ := ip_wf xs n h.2
    obtain ⟨m, rfl, h0, h1⟩ := wfV_int h.1
    refine ⟨m :: a, rfl, by simp [hl], fun y hy => ?_⟩
    rcases List.mem_cons.1 hy with rfl | hy
    · simp only [loK, hiK] at h0 h1; omega
    · exact hb y hy
theorem wfK_split : ∀ {ks ks' : List LK} {xs : List Value}, wfK (ks ++ ks') xs = true → ∃ ys zs, xs = ys ++ zs ∧ wfK ks ys = true ∧ wfK ks' zs = true
  | [], ks', xs, h => ⟨[], xs, rfl, rfl, h⟩
  | k :: ks, ks', [], h => by cases h
  | k :: ks, ks', x :: xs, h => by
    simp only [List.cons_append, wfK, Bool.and_eq_true] at h
    obtain ⟨ys, zs, rfl, h1, h2⟩ := wfK_split h.2
    exact ⟨x :: ys, zs, rfl, by simp [wfK, h.1, h1], h2⟩
section
variable {H : Type} {enc : TypeId × Value → H} {w : World} {r : Reach} {b0 base : Nat} {sp : Nat → Bool} {held : Bool} {v : Value} {d : DataW H} {p : List MemPlace}
set_option maxRecDepth 100000 in
theorem dec_by (n : Nat) (cs : List Value) (y : DataW H × List MemPlace) (h : DataW.trod enc Tryz.prog w base sp held n 5 cs = some y) : ∃ x : Int, (0 ≤ x ∧ x < 256) ∧ cs = [Value.int .u8 x] := by
  have hw := open_leaf 8 5 [.i .u8] (by kernel_rfl) n cs y h (.inl (by kernel_rfl))
  obtain ⟨x, c1, rfl, h1, h2⟩ := wfK_cons hw
  obtain rfl := wfK_nil h2
  obtain ⟨m, rfl, h3, h4⟩ := wfV_int h1
  simp only [loK, hiK] at h3 h4
  exact ⟨m, ⟨h3, by omega⟩, rfl⟩
theorem encL_by : ∀ l : List Int, encL (fun x => [Value.int .u8 x]) l = ipC l
  | [] => rfl
  | x :: xs => by rw [encL_cons, encL_by xs]; rfl
set_option maxRecDepth 100000 in
theorem open_bys (hval : Value.okWide Tryz.prog w r b0 33 v) (h : DataW.Trod enc Tryz.prog w base sp held 33 v d p) : ∃ ls : List Int, IsBy ls ∧ SlAt w 1 v ls.length (ipC ls) := by
  obtain ⟨a, len, cap, rfl⟩ := okWide_slice Tryz.underlying33 hval
  obtain ⟨fuel, hf⟩ := h
  obtain ⟨v', ls, e, h1, h2, _⟩ := open_slG (sz := 1) Tryz.underlying33 (by kernel_rfl) (by omega) dec_by hf
  have e' : [Value.slice a len cap] = [v'] := e
  cases e'
  exact ⟨ls, h1, by rw [← encL_by]; exact h2⟩
set_option maxRecDepth 100000 in
theorem open_dg (hval : Value.okWide Tryz.prog w r b0 32 v) (h : DataW.Trod enc Tryz.prog w base sp held 32 v d p) : ∃ (cr og nm n1 n2 ro : Int) (p1 p2 : List Int), p1.length = 16 ∧ p2.length = 16 ∧ v = .agg (dgC cr og nm p1 n1 p2 n2 ro).toArray := by
  obtain ⟨xs, rfl, hw⟩ := open_lf (ks := .i .i64 :: .i .u64 :: .i .u32 :: (List.replicate 16 (.i .u8) ++ (.i .i64 :: (List.replicate 16 (.i .u8) ++ [.i .i64, .i .u64])))) (by kernel_rfl) hval h
  obtain ⟨z1, xs, rfl, k1, hw⟩ := wfK_cons hw
  obtain ⟨z2, xs, rfl, k2, hw⟩ := wfK_cons hw
  obtain ⟨z3, xs, rfl, k3, hw⟩ := wfK_cons hw
  obtain ⟨c0, c1, rfl, h1, h2⟩ := wfK_split hw
  obtain ⟨a1, rfl, hl1, _⟩ := ip_wf c0 16 h1
  obtain ⟨x1, c2, rfl, g1, h3⟩ := wfK_cons h2
  obtain ⟨c3, c4, rfl, h4, h5⟩ := wfK_split (ks := List.replicate 16 (LK.i .u8)) (ks' := [LK.i .i64, .i .u64]) h3
  obtain ⟨a2, rfl, hl2, _⟩ := ip_wf c3 16 h4
  obtain ⟨y0, d0, rfl, q0, r0⟩ := wfK_cons h5
  obtain ⟨y1, d1, rfl, q1, r1⟩ := wfK_cons r0
  obtain rfl := wfK_nil r1
  obtain ⟨i1, rfl, _, _⟩ := wfV_int k1
  obtain ⟨i2, rfl, _, _⟩ := wfV_int k2
  obtain ⟨i3, rfl, _, _⟩ := wfV_int k3
  obtain ⟨i4, rfl, _, _⟩ := wfV_int g1
  obtain ⟨i5, rfl, _, _⟩ := wfV_int q0
  obtain ⟨i6, rfl, _, _⟩ := wfV_int q1
  exact ⟨i1, i2, i3, i4, i5, i6, a1, a2, hl1, hl2, rfl⟩
end
end Go.Proofs.YtchmcdkmlmknnaaGreat
/-! O3 -/
namespace Go.Proofs.YtchmcdkmlmknnaaGreat
set_option linter.unusedVariables false
set_option linter.unusedSimpArgs false
open Go.RowKit
theorem g_startB {P : Program} {f : FuncId} {fn : Func} {x : Code} {vs : List Value} {W : World} {R : Value → World → Prop} {n : Nat} (S : List Nat) {b : Nat} {o : Obj} {flds : List (Nat × Nat × Nat)} {slcs : List Nat} (hb : W.heap[b]? = some o) (hbS : b ∈ S) (hf : (flds.all fun q => fieldAtB P q.1 q.2.1 q.2.2) = true) (hs : (slcs.all fun t => isSlB P t) = true)
    (hfn : P.funcs[f]? = some fn) (hx : fn.body = some x) (hn : fn.ntmps = n) (hle : Nat.ble vs.length n = true)
    (h : G ⟨P, none, n, [], S, W, flds, slcs, hf, hs⟩ (Post P fn R) [] (.code x) (number 0 vs) [[(b, o)]]) : Cal P f vs.toArray W R :=
  fn_ofM S hfn hx hn hle fun a w F M hw => h a w F (M.came hw hb hbS (by simp))
attribute [local irreducible] OpTo wpListIn Code.wpIn MW Cal
/-- the number in n bytes from a on -/
def numA (l : List Int) (a n : Nat) : Int := beN ((l.drop a).take n)
theorem numA_one {l : List Int} {a : Nat} (h : a < l.length) : numA l a 1 = l.getD a 0 := by
  have e : (l.drop a).take 1 = [l[a]] := by rw [List.drop_eq_getElem_cons h]; rfl
  unfold numA
  rw [e]
  simp [beN, h]
def dgR (cr og nm b1 b2 ro : Int) : List Value := [.int .i64 cr, .int .u64 og, .int .u32 nm, .int .u8 0, .int .u8 0, .int .u8 0, .int .u8 0, .int .u8 0, .int .u8 0, .int .u8 0, .int .u8 0, .int .u8 0, .int .u8 0, .int .u8 0, .int .u8 0, .int .u8 0, .int .u8 0, .int .u8 0, .int .u8 0, .int .i64 b1,
  .int .u8 0, .int .u8 0, .int .u8 0, .int .u8 0, .int .u8 0, .int .u8 0, .int .u8 0, .int .u8 0, .int .u8 0, .int .u8 0, .int .u8 0, .int .u8 0, .int .u8 0, .int .u8 0, .int .u8 0, .int .u8 0, .int .i64 b2, .int .u64 ro]
def unwOk (l : List Int) : Bool := decide (28 ≤ l.length) && (l.getD 0 0 == 48)
def unwD (l : List Int) : List Value := if unwOk l then dgR (IntKind.i64.wrap (numA l 1 5)) (numA l 6 8) (IntKind.u32.wrap (numA l 14 4)) (IntKind.i64.wrap (numA l 18 1)) (IntKind.i64.wrap (numA l 19 1)) (numA l 20 8) else dgR 0 0 0 0 0 0
def unwB (l : List Int) : List Int := if unwOk l then l.drop 28 else []
def PhU (l : List Int) : Value → List (Nat × Obj) → Prop := fun r ent => ∃ u, r = .tuple [.agg (unwD l).toArray, u, .bool (unwOk l)].toArray ∧ PhB (unwB l) u ent
theorem PhU.no {l : List Int} (h : unwOk l = false) : PhU l (.tuple [.agg (dgR 0 0 0 0 0 0).toArray, .slice none 0 0, .bool false].toArray) [] := ⟨.slice none 0 0, by simp [unwD, h], by simp only [unwB, h]; exact OwnS.nil _ _⟩
theorem PhU.yes {l : List Int} {u : Value} {ent : List (Nat × Obj)} (h : unwOk l = true) (hO : PhB (l.drop 28) u ent) : PhU l (.tuple [.agg (dgR (IntKind.i64.wrap (numA l 1 5)) (numA l 6 8) (IntKind.u32.wrap (numA l 14 4)) (IntKind.i64.wrap (numA l 18 1)) (IntKind.i64.wrap (numA l 19 1)) (numA l 20 8)).toArray, u, .bool true].toArray) ent := ⟨u, by simp [unwD, h], by simp only [unwB, h, if_true]; exact hO⟩
set_option maxHeartbeats 1000000 in
theorem take_c {l : List Int} {v : Value} {bt1 bt5 : Nat} (a n : Nat) (W : World) (hb1 : W.heap[bt1]? = some (.cells [v].toArray 33 (0, 0))) (hb5 : W.heap[bt5]? = some (.cells [Value.int .i64 a].toArray 3 (0, 0))) (hne : bt1 ≠ bt5)
    (hS : SlAt W 1 v l.length (ipC l)) (hn : ∀ b o s k c, v = .slice (some ⟨b, o, s⟩) k c → b ∉ [bt5]) (hx : IsBy l) (h1 : 1 ≤ n) (h8 : n ≤ 8) (hl : a + n ≤ l.length) (hm : l.length ≤ 1000) :
    Cal Tryz.prog 15 ([Value.int .i64 n] ++ [Value.pointer (some ⟨bt1, 0, none⟩), Value.pointer (some ⟨bt5, 0, none⟩)]).toArray W fun r w' => r = .int .u64 (numA l a n) ∧ Mem [bt5] W w' [(bt5, .cells [Value.int .i64 ((a + n : Nat) : Int)].toArray 3 (0, 0))] := by
  have hld : ∀ w', Ext [bt5] W w' → w'.heap[bt1]? = some (.cells (List.toArray [v]) 33 (0, 0)) := fun w' E => by
    rw [E.block bt1 (Array.getElem?_eq_some_iff.1 hb1).1 (by simpa using hne)]
    exact hb1
  have hnt : nth [v] 0 = some v := rfl
  simp only [List.cons_append, List.nil_append]
  refine g_startB (n := 18) [bt5] hb5 (by simp) fldT_ok slcT_ok Tryz.func15 rfl rfl rfl ?_
  refine g_run 7 rfl ?_
  refine g_le1 rfl (by assumption) (by with_reducible assumption) ?_
  refine g_ld1 0 rfl rfl rfl ?_
  refine g_run 1 rfl ?_
  refine g_call (v := .tuple #[.int .u64 (numA l a n), .bool true]) rfl rfl (fun w M => uintS_c l w (hS.laterB hn M.ext) hx h1 h8 hl (by omega)) ?_
  refine g_run 9 rfl ?_
  refine g_ld1 0 rfl rfl rfl ?_
  refine g_run 1 rfl ?_
  refine g_add rfl rfl (w_i64 (by omega) (by omega)) ?_
  refine g_st1 0 rfl rfl rfl rfl rfl rfl ?_
  refine g_run 9 rfl ?_
  refine g_ret1 rfl rfl rfl fun w M => ?_
  exact ⟨rfl, M⟩
theorem nd_row {l : Row} {i j : Nat} {p q : Nat × Obj} (hnd : (l.flatten.map (·.1)).Nodup) (hi : nthO l i = some [p]) (hj : nthO l j = some [q]) (hij : i < j) : p.1 ≠ q.1 := by
  induction l generalizing i j with
  | nil => simp [nthO] at hi
  | cons x r ih =>
    cases j with
    | zero => omega
    | succ j =>
      have hj' : nthO r j = some [q] := hj
      rw [List.flatten_cons, List.map_append, List.nodup_append] at hnd
      cases i with
      | zero =>
        have hx : x = [p] := by simpa [nthO] using hi
        exact hnd.2.2 p.1 (by rw [hx]; simp) q.1 (List.mem_map_of_mem (nthO_sub hj' q (by simp)))
      | succ i => exact ih hnd.2.1 hi hj' (by omega)
theorem SlAt.dropQ {W : World} {b o cap m : Nat} {cs : List Value} {t : TypeId} {fz : Nat × Nat} {l : List Int} {q2 : Option Addr} (hb : W.heap[b]? = some (.cells (List.toArray cs) t fz)) (hs : seg cs o (l.length * 1) = some (ipC l)) (hm : m ≤ l.length) (hc : l.length ≤ cap) (hq : (m : Int) < l.length → q2 = some ⟨b, o + (m : Int).toNat * 1, none⟩) :
    SlAt W 1 (.slice q2 (l.length - (m : Int).toNat) (cap - (m : Int).toNat)) (l.drop m).length (ipC (l.drop m)) := by
  refine ⟨q2, cap - m, by simp, by simp; omega, fun _ _ => trivial, by simp [ipC], fun hpos => ⟨b, o + m, cs, t, fz, ?_, hb, ?_⟩⟩
  · rw [hq (by simp at hpos; omega)]
    simp
  · have := seg_sub (at_ := m) (n := l.length - m) hs (by omega)
    rw [List.take_of_length_le (by simp)] at this
    simpa using this
set_option maxHeartbeats 4000000 in
theorem unwrap_c (l : List Int) (v : Value) (W : World) (hS : SlAt W 1 v l.length (ipC l)) (hx : IsBy l) (hm : l.length ≤ 1000) :
    Cal Tryz.prog 6 [v].toArray W fun r w' => ∃ ent, PhU l r ent ∧ Mem [] W w' ent := by
  obtain ⟨q, cap, rfl, hS2, hS3, hS4, hS5⟩ := id hS
  by_cases h28 : l.length < 28
  · have hd : decide ((l.length : Int) < 28) = true := decide_eq_true (by omega)
    have hno : unwOk l = false := by unfold unwOk; rw [decide_eq_false (by omega)]; rfl
    refine g_start (n := 51) (S := []) fldT_ok slcT_ok Tryz.func6 rfl rfl rfl ?_
    refine g_run 2 rfl ?_
    refine g_box rfl rfl fun b1 => ?_
    refine g_alloc fun b2 => ?_
    refine g_run 7 rfl ?_
    refine g_ld1 1 rfl rfl rfl ?_
    refine g_run 3 rfl ?_
    refine g_know 11 rfl (decide_eq_true (by omega)) ?_
    refine g_run 10 rfl ?_
    refine g_v (fun a w F M R r => o_build F rfl rfl r) ?_
    refine g_stA 0 rfl rfl rfl rfl rfl rfl rfl ?_
    refine g_run 6 rfl ?_
    refine g_ret rfl rfl (fun a w F M => (.cons (.cell (F.ev rfl) (run_loadVar_agg TAgg.h (M.at_ _ (nthO_mem (i := 0) rfl)) rfl)) (.cons (.tmp (F.ev rfl)) (.cons (.tmp (F.ev rfl)) .nil)))) ?_
    intro w M
    exact ⟨[], PhU.no hno, Mem.nil M.ext⟩
  have hd : decide ((l.length : Int) < 28) = false := decide_eq_false (by omega)
  obtain ⟨b, o, cs, t, fz, rfl, hb, hs⟩ := hS5 (by omega)
  have hld : ∀ w', Ext [] W w' → w'.heap[b]? = some (.cells (List.toArray cs) t fz) := fun w' E => by rw [E.block b (Array.getElem?_eq_some_iff.1 hb).1 (by simp)]; exact hb
  have hn0 : nth cs (o + (0 : Int).toNat * 1) = some (.int .u8 (l.getD 0 0)) := seg_at (n := l.length) (by simpa using hs) (i := 0) (by omega) (by omega)
  by_cases h48 : l.getD 0 0 = 48
  case neg =>
    have hne : (l.getD 0 0 != 48) = true := by simpa using h48
    have hno : unwOk l = false := by unfold unwOk; rw [show (l.getD 0 0 == 48) = false by simpa using h48, Bool.and_false]
    generalize l.getD 0 0 = x0 at *
    refine g_start (n := 51) (S := []) fldT_ok slcT_ok Tryz.func6 rfl rfl rfl ?_
    refine g_run 2 rfl ?_
    refine g_box rfl rfl fun b1 => ?_
    refine g_alloc fun b2 => ?_
    refine g_run 7 rfl ?_
    refine g_ld1 1 rfl rfl rfl ?_
    refine g_run 3 rfl ?_
    refine g_know 11 rfl (decide_eq_false (by omega)) ?_
    refine g_ld1 1 rfl rfl rfl ?_
    refine g_ixS rfl rfl (by omega) (by omega) ?_
    refine g_le1 rfl (by assumption) (by with_reducible assumption) ?_
    refine g_run 4 rfl ?_
    refine g_ifT rfl (bne_iff_ne.2 (by omega)) ?_
    refine g_run 2 rfl ?_
    refine g_v (fun a w F M R r => o_build F rfl rfl r) ?_
    refine g_stA 0 rfl rfl rfl rfl rfl rfl rfl ?_
    refine g_run 6 rfl ?_
    refine g_ret rfl rfl (fun a w F M => (.cons (.cell (F.ev rfl) (run_loadVar_agg TAgg.h (M.at_ _ (nthO_mem (i := 0) rfl)) rfl)) (.cons (.tmp (F.ev rfl)) (.cons (.tmp (F.ev rfl)) .nil)))) ?_
    intro w M
    exact ⟨[], PhU.no hno, Mem.nil M.ext⟩
  have hyes : unwOk l = true := by unfold unwOk; rw [decide_eq_true (by omega), h48]; rfl
  rw [h48] at hn0
  obtain ⟨q2, hq2, hqs⟩ := slL_ex Tryz.prog b o (len := l.length) (cap := cap) (sz := 1) (m := ((28 : Nat) : Int)) (by omega) (by omega) hS2
  have hSl : ∀ w, Ext [] W w → SlAt w 1 (.slice q2 (l.length - ((28 : Nat) : Int).toNat) (cap - ((28 : Nat) : Int).toNat)) (l.drop 28).length (ipC (l.drop 28)) := fun w E => SlAt.dropQ (hld w E) hs (by omega) hS2 hq2
  have hbl := (Array.getElem?_eq_some_iff.1 hb).1
  refine g_start (n := 51) (S := []) fldT_ok slcT_ok Tryz.func6 rfl rfl rfl ?_
  refine g_run 2 rfl ?_
  refine g_box rfl rfl fun b1 => ?_
  refine g_alloc fun b2 => ?_
  refine g_run 7 rfl ?_
  refine g_ld1 1 rfl rfl rfl ?_
  refine g_run 3 rfl ?_
  refine g_know 11 rfl (decide_eq_false (by omega)) ?_
  refine g_ld1 1 rfl rfl rfl ?_
  refine g_ixS rfl rfl (by omega) (by omega) ?_
  refine g_le1 rfl (by assumption) (by with_reducible assumption) ?_
  refine g_run 9 rfl ?_
  refine g_alloc fun b5 => ?_
  refine g_st1 0 rfl rfl rfl rfl rfl rfl ?_
  refine g_run 4 rfl ?_
  refine g_mkF (xs := []) rfl rfl ?_
  refine g_run 5 rfl ?_
  refine g_alloc fun b7 => ?_
  refine g_run 5 rfl ?_
  refine g_callC1 1 (v := .int .u64 (numA l 1 5)) (o' := .cells [Value.int .i64 ((6 : Nat) : Int)].toArray 3 (0, 0)) (us := [.pointer (some ⟨b1, 0, none⟩), .pointer (some ⟨b5, 0, none⟩)]) rfl rfl rfl (fun w M => take_c (l := l) 1 5 w (M.at_ _ (nthO_mem (i := 3) rfl)) (M.at_ _ (nthO_mem (i := 1) rfl)) (nd_row M.nd (i := 1) (j := 3) rfl rfl (by decide)).symm (hS.later M.ext) (fun b' o' s' k' c' e' hb' => by cases e'; simp only [List.mem_singleton] at hb'; subst hb'; have := (M.own _ (nthO_mem (i := 1) rfl)).resolve_left (by simp); dsimp only at this; omega) hx (by omega) (by omega) (by omega) hm) rfl ?_
  refine g_conv rfl rfl ?_
  refine g_run 1 rfl ?_
  refine g_st1 0 rfl rfl rfl rfl rfl rfl ?_
  refine g_run 5 rfl ?_
  refine g_callC1 1 (v := .int .u64 (numA l 6 8)) (o' := .cells [Value.int .i64 ((14 : Nat) : Int)].toArray 3 (0, 0)) (us := [.pointer (some ⟨b1, 0, none⟩), .pointer (some ⟨b5, 0, none⟩)]) rfl rfl rfl (fun w M => take_c (l := l) 6 8 w (M.at_ _ (nthO_mem (i := 3) rfl)) (M.at_ _ (nthO_mem (i := 1) rfl)) (nd_row M.nd (i := 1) (j := 3) rfl rfl (by decide)).symm (hS.later M.ext) (fun b' o' s' k' c' e' hb' => by cases e'; simp only [List.mem_singleton] at hb'; subst hb'; have := (M.own _ (nthO_mem (i := 1) rfl)).resolve_left (by simp); dsimp only at this; omega) hx (by omega) (by omega) (by omega) hm) rfl ?_
  refine g_run 1 rfl ?_
  refine g_st1 0 rfl rfl rfl rfl rfl rfl ?_
  refine g_run 5 rfl ?_
  refine g_callC1 1 (v := .int .u64 (numA l 14 4)) (o' := .cells [Value.int .i64 ((18 : Nat) : Int)].toArray 3 (0, 0)) (us := [.pointer (some ⟨b1, 0, none⟩), .pointer (some ⟨b5, 0, none⟩)]) rfl rfl rfl (fun w M => take_c (l := l) 14 4 w (M.at_ _ (nthO_mem (i := 3) rfl)) (M.at_ _ (nthO_mem (i := 1) rfl)) (nd_row M.nd (i := 1) (j := 3) rfl rfl (by decide)).symm (hS.later M.ext) (fun b' o' s' k' c' e' hb' => by cases e'; simp only [List.mem_singleton] at hb'; subst hb'; have := (M.own _ (nthO_mem (i := 1) rfl)).resolve_left (by simp); dsimp only at this; omega) hx (by omega) (by omega) (by omega) hm) rfl ?_
  refine g_conv rfl rfl ?_
  refine g_run 1 rfl ?_
  refine g_st1 0 rfl rfl rfl rfl rfl rfl ?_
  refine g_run 5 rfl ?_
  refine g_callC1 1 (v := .int .u64 (numA l 18 1)) (o' := .cells [Value.int .i64 ((19 : Nat) : Int)].toArray 3 (0, 0)) (us := [.pointer (some ⟨b1, 0, none⟩), .pointer (some ⟨b5, 0, none⟩)]) rfl rfl rfl (fun w M => take_c (l := l) 18 1 w (M.at_ _ (nthO_mem (i := 3) rfl)) (M.at_ _ (nthO_mem (i := 1) rfl)) (nd_row M.nd (i := 1) (j := 3) rfl rfl (by decide)).symm (hS.later M.ext) (fun b' o' s' k' c' e' hb' => by cases e'; simp only [List.mem_singleton] at hb'; subst hb'; have := (M.own _ (nthO_mem (i := 1) rfl)).resolve_left (by simp); dsimp only at this; omega) hx (by omega) (by omega) (by omega) hm) rfl ?_
  refine g_conv rfl rfl ?_
  refine g_run 3 rfl ?_
  refine g_st1 0 rfl rfl rfl rfl rfl rfl ?_
  refine g_run 5 rfl ?_
  refine g_callC1 1 (v := .int .u64 (numA l 19 1)) (o' := .cells [Value.int .i64 ((20 : Nat) : Int)].toArray 3 (0, 0)) (us := [.pointer (some ⟨b1, 0, none⟩), .pointer (some ⟨b5, 0, none⟩)]) rfl rfl rfl (fun w M => take_c (l := l) 19 1 w (M.at_ _ (nthO_mem (i := 3) rfl)) (M.at_ _ (nthO_mem (i := 1) rfl)) (nd_row M.nd (i := 1) (j := 3) rfl rfl (by decide)).symm (hS.later M.ext) (fun b' o' s' k' c' e' hb' => by cases e'; simp only [List.mem_singleton] at hb'; subst hb'; have := (M.own _ (nthO_mem (i := 1) rfl)).resolve_left (by simp); dsimp only at this; omega) hx (by omega) (by omega) (by omega) hm) rfl ?_
  refine g_conv rfl rfl ?_
  refine g_run 3 rfl ?_
  refine g_st1 0 rfl rfl rfl rfl rfl rfl ?_
  refine g_run 5 rfl ?_
  refine g_callC1 1 (v := .int .u64 (numA l 20 8)) (o' := .cells [Value.int .i64 ((28 : Nat) : Int)].toArray 3 (0, 0)) (us := [.pointer (some ⟨b1, 0, none⟩), .pointer (some ⟨b5, 0, none⟩)]) rfl rfl rfl (fun w M => take_c (l := l) 20 8 w (M.at_ _ (nthO_mem (i := 3) rfl)) (M.at_ _ (nthO_mem (i := 1) rfl)) (nd_row M.nd (i := 1) (j := 3) rfl rfl (by decide)).symm (hS.later M.ext) (fun b' o' s' k' c' e' hb' => by cases e'; simp only [List.mem_singleton] at hb'; subst hb'; have := (M.own _ (nthO_mem (i := 1) rfl)).resolve_left (by simp); dsimp only at this; omega) hx (by omega) (by omega) (by omega) hm) rfl ?_
  refine g_run 2 rfl ?_
  refine g_st1 0 rfl rfl rfl rfl rfl rfl ?_
  refine g_run 3 rfl ?_
  refine g_draw 5 51 rfl (by kernel_rfl) ?_
  refine fd_ldA 0 rfl rfl rfl ?_
  refine fd_ld1 3 rfl rfl rfl ?_
  refine fd_ld1 1 rfl rfl rfl ?_
  refine fd_v (fun a w F M R r => hqs (F.ev rfl) (F.ev rfl) r) ?_
  refine fd_new (PhB (l.drop 28)) (fun a w F M => o_call (F.ev rfl) (F.evs rfl) (bclone_c w (hSl w M.ext) (by simp; omega))) ?_
  intro u50 e50 hO50
  refine g_stA 3 rfl rfl rfl rfl rfl rfl rfl ?_
  refine g_run 5 rfl ?_
  refine g_ret rfl rfl (fun a w F M => (.cons (.cell (F.ev rfl) (run_loadVar_agg TAgg.h (M.at_ _ (nthO_mem (i := 3) rfl)) rfl)) (.cons (.tmp (F.ev rfl)) (.cons (.tmp (F.ev rfl)) .nil)))) ?_
  intro w M
  exact ⟨e50, PhU.yes hyes hO50, M.sub (by simp)⟩
set_option maxHeartbeats 4000000 in
theorem runwrap_c (l : List Int) (v : Value) (W : World) (hS : SlAt W 1 v l.length (ipC l)) (hx : IsBy l) (hm : l.length ≤ 1000) :
    Cal Tryz.prog 7 [v].toArray W fun r w' => ∃ ent, PhU l r ent ∧ Mem [] W w' ent := by
  obtain ⟨q, cap, rfl, hS2, hS3, hS4, hS5⟩ := id hS
  by_cases h28 : l.length < 28
  · have hd : decide ((l.length : Int) < 28) = true := decide_eq_true (by omega)
    have hno : unwOk l = false := by unfold unwOk; rw [decide_eq_false (by omega)]; rfl
    refine g_start (n := 49) (S := []) fldT_ok slcT_ok Tryz.func7 rfl rfl rfl ?_
    refine g_run 2 rfl ?_
    refine g_alloc fun b2 => ?_
    refine g_run 6 rfl ?_
    refine g_alloc fun b5 => ?_
    refine g_run 9 rfl ?_
    refine g_know 9 rfl (decide_eq_true (by omega)) ?_
    refine g_run 10 rfl ?_
    refine g_ldA 0 rfl rfl rfl ?_
    refine g_stA 1 rfl rfl rfl rfl rfl rfl rfl ?_
    refine g_run 6 rfl ?_
    refine g_ret rfl rfl (fun a w F M => (.cons (.cell (F.ev rfl) (run_loadVar_agg TAgg.h (M.at_ _ (nthO_mem (i := 1) rfl)) rfl)) (.cons (.tmp (F.ev rfl)) (.cons (.tmp (F.ev rfl)) .nil)))) ?_
    intro w M
    exact ⟨[], PhU.no hno, Mem.nil M.ext⟩
  have hd : decide ((l.length : Int) < 28) = false := decide_eq_false (by omega)
  obtain ⟨b, o, cs, t, fz, rfl, hb, hs⟩ := hS5 (by omega)
  have hld : ∀ w', Ext [] W w' → w'.heap[b]? = some (.cells (List.toArray cs) t fz) := fun w' E => by rw [E.block b (Array.getElem?_eq_some_iff.1 hb).1 (by simp)]; exact hb
  have hn0 : nth cs (o + (0 : Int).toNat * 1) = some (.int .u8 (l.getD 0 0)) := seg_at (n := l.length) (by simpa using hs) (i := 0) (by omega) (by omega)
  have hn18 : nth cs (o + (18 : Int).toNat * 1) = some (.int .u8 (l.getD 18 0)) := seg_at (n := l.length) (by simpa using hs) (i := 18) (by omega) (by omega)
  have hn19 : nth cs (o + (19 : Int).toNat * 1) = some (.int .u8 (l.getD 19 0)) := seg_at (n := l.length) (by simpa using hs) (i := 19) (by omega) (by omega)
  by_cases h48 : l.getD 0 0 = 48
  case neg =>
    have hne : (l.getD 0 0 != 48) = true := by simpa using h48
    have hno : unwOk l = false := by unfold unwOk; rw [show (l.getD 0 0 == 48) = false by simpa using h48, Bool.and_false]
    generalize l.getD 0 0 = x0 at *
    refine g_start (n := 49) (S := []) fldT_ok slcT_ok Tryz.func7 rfl rfl rfl ?_
    refine g_run 2 rfl ?_
    refine g_alloc fun b2 => ?_
    refine g_run 6 rfl ?_
    refine g_alloc fun b5 => ?_
    refine g_run 9 rfl ?_
    refine g_know 9 rfl (decide_eq_false (by omega)) ?_
    refine g_run 1 rfl ?_
    refine g_ixS rfl rfl (by omega) (by omega) ?_
    refine g_le1 rfl (by assumption) (by with_reducible assumption) ?_
    refine g_run 4 rfl ?_
    refine g_ifT rfl (bne_iff_ne.2 (by omega)) ?_
    refine g_run 2 rfl ?_
    refine g_ldA 0 rfl rfl rfl ?_
    refine g_stA 1 rfl rfl rfl rfl rfl rfl rfl ?_
    refine g_run 6 rfl ?_
    refine g_ret rfl rfl (fun a w F M => (.cons (.cell (F.ev rfl) (run_loadVar_agg TAgg.h (M.at_ _ (nthO_mem (i := 1) rfl)) rfl)) (.cons (.tmp (F.ev rfl)) (.cons (.tmp (F.ev rfl)) .nil)))) ?_
    intro w M
    exact ⟨[], PhU.no hno, Mem.nil M.ext⟩
  have hyes : unwOk l = true := by unfold unwOk; rw [decide_eq_true (by omega), h48]; rfl
  rw [h48] at hn0
  have hbd : ∀ i, i < l.length → 0 ≤ l.getD i 0 ∧ l.getD i 0 < 256 := fun i hi => hx _ (by rw [List.getD_eq_getElem?_getD, List.getElem?_eq_getElem hi]; exact List.getElem_mem _)
  have hb18 := hbd 18 (by omega)
  have hb19 := hbd 19 (by omega)
  have hP := fun (u : Value) (ent : List (Nat × Obj)) => @PhU.yes l u ent hyes
  rw [numA_one (show 18 < l.length by omega), numA_one (show 19 < l.length by omega), w_i64 (x := l.getD 18 0) (by omega) (by omega), w_i64 (x := l.getD 19 0) (by omega) (by omega)] at hP
  generalize l.getD 18 0 = x18 at *
  generalize l.getD 19 0 = x19 at *
  obtain ⟨q2, hq2, hqs⟩ := slL_ex Tryz.prog b o (len := l.length) (cap := cap) (sz := 1) (m := ((28 : Nat) : Int)) (by omega) (by omega) hS2
  have hSl : ∀ w, Ext [] W w → SlAt w 1 (.slice q2 (l.length - ((28 : Nat) : Int).toNat) (cap - ((28 : Nat) : Int).toNat)) (l.drop 28).length (ipC (l.drop 28)) := fun w E => SlAt.dropQ (hld w E) hs (by omega) hS2 hq2
  refine g_start (n := 49) (S := []) fldT_ok slcT_ok Tryz.func7 rfl rfl rfl ?_
  refine g_run 2 rfl ?_
  refine g_alloc fun b2 => ?_
  refine g_run 6 rfl ?_
  refine g_alloc fun b5 => ?_
  refine g_run 9 rfl ?_
  refine g_know 9 rfl (decide_eq_false (by omega)) ?_
  refine g_run 1 rfl ?_
  refine g_ixS rfl rfl (by omega) (by omega) ?_
  refine g_le1 rfl (by assumption) (by with_reducible assumption) ?_
  refine g_run 10 rfl ?_
  refine g_call (v := .int .u64 (numA l 1 5)) rfl rfl (fun w M => rgetS_c (at_ := 1) (n := 5) l w (hS.later M.ext) hx (by omega) (by omega) (by omega) (by omega)) ?_
  refine g_conv rfl rfl ?_
  refine g_run 1 rfl ?_
  refine g_st1 0 rfl rfl rfl rfl rfl rfl ?_
  refine g_run 5 rfl ?_
  refine g_call (v := .int .u64 (numA l 6 8)) rfl rfl (fun w M => rgetS_c (at_ := 6) (n := 8) l w (hS.later M.ext) hx (by omega) (by omega) (by omega) (by omega)) ?_
  refine g_run 1 rfl ?_
  refine g_st1 0 rfl rfl rfl rfl rfl rfl ?_
  refine g_run 5 rfl ?_
  refine g_call (v := .int .u64 (numA l 14 4)) rfl rfl (fun w M => rgetS_c (at_ := 14) (n := 4) l w (hS.later M.ext) hx (by omega) (by omega) (by omega) (by omega)) ?_
  refine g_conv rfl rfl ?_
  refine g_run 1 rfl ?_
  refine g_st1 0 rfl rfl rfl rfl rfl rfl ?_
  refine g_run 5 rfl ?_
  refine g_ixS rfl rfl (by omega) (by omega) ?_
  refine g_le1 rfl (by assumption) (by with_reducible assumption) ?_
  refine g_conv rfl (w_i64 (by omega) (by omega)) ?_
  refine g_run 3 rfl ?_
  refine g_st1 0 rfl rfl rfl rfl rfl rfl ?_
  refine g_run 5 rfl ?_
  refine g_ixS rfl rfl (by omega) (by omega) ?_
  refine g_le1 rfl (by assumption) (by with_reducible assumption) ?_
  refine g_conv rfl (w_i64 (by omega) (by omega)) ?_
  refine g_run 3 rfl ?_
  refine g_st1 0 rfl rfl rfl rfl rfl rfl ?_
  refine g_run 5 rfl ?_
  refine g_call (v := .int .u64 (numA l 20 8)) rfl rfl (fun w M => rgetS_c (at_ := 20) (n := 8) l w (hS.later M.ext) hx (by omega) (by omega) (by omega) (by omega)) ?_
  refine g_run 2 rfl ?_
  refine g_st1 0 rfl rfl rfl rfl rfl rfl ?_
  refine g_run 3 rfl ?_
  refine g_draw 4 49 rfl (by kernel_rfl) ?_
  refine fd_ldA 0 rfl rfl rfl ?_
  refine fd_run 1 rfl ?_
  refine fd_v (fun a w F M R r => hqs (F.ev rfl) (F.ev rfl) r) ?_
  refine fd_new (PhB (l.drop 28)) (fun a w F M => o_append (OwnS.nil _ _) (Mem.start [] w) .here (F.ev rfl) (F.ev rfl) ((hSl w M.ext).src (one_ip _)) (by simp; omega) (by simp; omega) (fun v' ent' w' hO' M' => ⟨ent', PhB.of hO' (by simp) (by simp), M'⟩)) ?_
  intro u48 e48 hO48
  refine g_stA 2 rfl rfl rfl rfl rfl rfl rfl ?_
  refine g_run 5 rfl ?_
  refine g_ret rfl rfl (fun a w F M => (.cons (.cell (F.ev rfl) (run_loadVar_agg TAgg.h (M.at_ _ (nthO_mem (i := 2) rfl)) rfl)) (.cons (.tmp (F.ev rfl)) (.cons (.tmp (F.ev rfl)) .nil)))) ?_
  intro w M
  exact ⟨e48, hP _ _ hO48, M.sub (by simp)⟩
end Go.Proofs.YtchmcdkmlmknnaaGreat

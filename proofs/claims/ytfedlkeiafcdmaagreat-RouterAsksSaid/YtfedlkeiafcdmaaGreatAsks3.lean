/-
  PROVED: for every input RouterAsks answers true, and each argument reads afterwards as it read before.
-/
import Derived.Test.YtfedlkeiafcdmaaGreatAsks2
import Derived.Test.YtfedlkeiafcdmaaGreatProg
import Derived.KernelRfl
/-! RunP -/
namespace Go.Proofs.YtfedlkeiafcdmaaGreat
set_option linter.unusedVariables false
set_option linter.unusedSimpArgs false
open Go.RowKit
variable [Y : Sy]
section
variable {P : Program}
def SemC (P : Program) (n : Nat) (x : Code) (t : Tr Value) (s : MSt) (e : Exit) (t' : Tr Value) (s' : MSt) : Prop := ∀ (S : List Nat) (W0 : World) (ρ : Rl) (df : List Deferred) (a : Act) (w : World) (Q : Exit → Act → World → Prop) (r : Option Nat),
  FrR ρ n df t a → Pre S W0 ρ s s' w → (∀ ρ' a' w', Stp S W0 ρ s w ρ' s' w' → FrR ρ' n df t' a' → Q e a' w') → Wp r P x Q a w
abbrev CodeK := Tr Value → MSt → (Exit → Tr Value → MSt → Bool) → Bool
noncomputable def loopK (ih : CodeK) (fuel : Nat) : CodeK := Nat.rec (motive := fun _ => CodeK) (fun _ _ _ => false) (fun _ rec t s c => ih t s fun e t s => match e with
  | .normal => rec t s c
  | e => c e t s) fuel
noncomputable def codeK (P : Program) (call : CallK) (n : Nat) (x : Code) : CodeK := Code.rec (motive := fun _ => CodeK)
  (fun t s c => c .normal t s)
  (fun _ ops draw t s c => match draw with
    | true => drawK P call n ops t s fun t s => c .normal t s
    | false => listK P call n ops ops.toList t s fun t s => c .normal t s)
  (fun _ _ iha ihb t s c => iha t s fun e t s => match e with
    | .normal => ihb t s c
    | e => c e t s)
  (fun o _ _ iha ihb t s c => evK t o fun v => match v with
    | .bool true => iha t s c
    | .bool false => ihb t s c
    | _ => false)
  (fun id _ ih t s c => ih t s fun e t s => match e with
    | .exit i => match Nat.beq i id with
      | true => c .normal t s
      | false => c (.exit i) t s
    | e => c e t s)
  (fun _ ih t s c => loopK ih 100000 t s c)
  (fun _ _ _ _ _ _ _ _ _ => false)
  (fun id t s c => c (.exit id) t s)
  (fun _ _ _ _ _ => false)
  (fun _ _ _ _ => false)
  (fun _ _ _ _ => false)
  (fun t s c => c .ret t s)
  (fun _ _ _ _ => false) x
inductive LoopCh (P : Program) (n : Nat) (x : Code) : Nat → Tr Value → MSt → Exit → Tr Value → MSt → Prop
  | last {t t' : Tr Value} {s s' : MSt} {e : Exit} (h : SemC P n x t s e t' s') (he : e ≠ .normal) : LoopCh P n x 0 t s e t' s'
  | step {j : Nat} {t t1 t' : Tr Value} {s s1 s' : MSt} {e : Exit} (h : SemC P n x t s .normal t1 s1) (hs : SLe s s1) (hs2 : SLe s1 s') (k : LoopCh P n x j t1 s1 e t' s') : LoopCh P n x (j + 1) t s e t' s'
theorem LoopCh.sem {n : Nat} {x : Code} {j : Nat} {t t' : Tr Value} {s s' : MSt} {e : Exit} (hwf : Wf s) (hle : SLe s s') (h : LoopCh P n x j t s e t' s') : SemC P n (.loop x) t s e t' s' := by
  intro S W0 ρ df a w Q r F hp hQ
  refine c_loop (fun j a1 w1 => ∃ t1 s1 ρ1, LoopCh P n x j t1 s1 e t' s' ∧ SLe s s1 ∧ SLe s1 s' ∧ Stp S W0 ρ s w ρ1 s1 w1 ∧ FrR ρ1 n df t1 a1) j ⟨t, s, ρ, h, SLe.refl s, hle, Stp.same rfl rfl (hp.1.mono hle.F), F⟩ ?_
  rintro k a1 w1 ⟨t1, s1, ρ1, hch, h1, h2, st, F1⟩
  have hp1 := Pre.snd h1 h2 hwf hp st
  cases hch with
  | last hb he =>
    refine hb S W0 ρ1 df a1 w1 _ r F1 hp1 fun ρ2 a2 w2 st2 F2 => ?_
    have := hQ ρ2 a2 w2 (Stp.trans h1 h2 hwf hp st st2) F2
    cases e with
    | normal => exact (he rfl).elim
    | exit _ => exact this
    | goto _ => exact this
    | ret => exact this
    | panic _ => exact this
    | outgrown => exact this
  | step hb hs hs2 hk =>
    rename_i j1 t2 s2
    have hp2 := Pre.fst hs hs2 hp1
    refine hb S W0 ρ1 df a1 w1 _ r F1 hp2 fun ρ2 a2 w2 st2 F2 => ?_
    exact ⟨j1, Nat.lt_succ_self _, t2, s2, ρ2, hk, h1.trans hs, hs2, Stp.trans h1 hs hwf (Pre.fst (h1.trans hs) hs2 hp) st st2, F2⟩
def CodeOk (P : Program) (n : Nat) (x : Code) (ih : CodeK) : Prop := ∀ t s c, Wf s → ih t s c = true → ∃ e t' s', SLe s s' ∧ SemC P n x t s e t' s' ∧ c e t' s' = true
theorem loopK_ok {n : Nat} {x : Code} {ih : CodeK} (hih : CodeOk P n x ih) : ∀ {fuel : Nat} {t : Tr Value} {s : MSt} {c : Exit → Tr Value → MSt → Bool}, Wf s → loopK ih fuel t s c = true → ∃ j e t' s', SLe s s' ∧ LoopCh P n x j t s e t' s' ∧ c e t' s' = true
  | 0, _, _, _, _, h => by cases h
  | fuel + 1, t, s, c, hwf, h => by
    have h' : (ih t s fun e t s => match e with
      | .normal => loopK ih fuel t s c
      | e => c e t s) = true := h
    obtain ⟨e, t1, s1, h1, h2, h3⟩ := hih t s _ hwf h'
    cases e with
    | normal =>
      obtain ⟨j, e, t', s', k1, k2, k3⟩ := loopK_ok hih (h1.wf hwf) h3
      exact ⟨j + 1, e, t', s', h1.trans k1, .step h2 h1 k1 k2, k3⟩
    | exit _ => exact ⟨0, _, t1, s1, h1, .last h2 (by simp), h3⟩
    | goto _ => exact ⟨0, _, t1, s1, h1, .last h2 (by simp), h3⟩
    | ret => exact ⟨0, _, t1, s1, h1, .last h2 (by simp), h3⟩
    | panic _ => exact ⟨0, _, t1, s1, h1, .last h2 (by simp), h3⟩
    | outgrown => exact ⟨0, _, t1, s1, h1, .last h2 (by simp), h3⟩
theorem codeK_ok {call : CallK} (hm : P.follows .mixedOrders = true) (hcall : CallOk P call) {n : Nat} (x : Code) : CodeOk P n x (codeK P call n x) := by
  induction x with
  | skip => exact fun t s c hwf h => ⟨.normal, t, s, SLe.refl s, fun S W0 ρ df a w Q r F hp hQ => c_skip (hQ ρ a w (Stp.same rfl rfl hp.1) F), h⟩
  | region id ops draw =>
    intro t s c hwf h
    cases draw with
    | true =>
      have h' : drawK P call n ops t s (fun t s => c .normal t s) = true := h
      obtain ⟨t', s', h1, h2, h3⟩ := drawK_ok hm hcall hwf h'
      exact ⟨.normal, t', s', h1, fun S W0 ρ df a w Q r F hp hQ => h2 S W0 ρ df a w Q r id F hp hQ, h3⟩
    | false =>
      have h' : listK P call n ops ops.toList t s (fun t s => c .normal t s) = true := h
      obtain ⟨t', s', h1, h2, h3⟩ := listK_ok hcall hwf h'
      refine ⟨.normal, t', s', h1, fun S W0 ρ df a w Q r F hp hQ => ?_, h3⟩
      have := h2 S W0 ρ df a w Q r F hp hQ
      have e : ops = ops.toList.toArray := by simp
      rw [e] at this ⊢
      exact c_region (by simpa using this)
  | seq x y ihx ihy =>
    intro t s c hwf h
    have h' : (codeK P call n x t s fun e t s => match e with
      | .normal => codeK P call n y t s c
      | e => c e t s) = true := h
    obtain ⟨e, t1, s1, h1, h2, h3⟩ := ihx t s _ hwf h'
    have hother : e ≠ .normal → c e t1 s1 = true → ∃ e t' s', SLe s s' ∧ SemC P n (.seq x y) t s e t' s' ∧ c e t' s' = true := fun he hc => by
      refine ⟨e, t1, s1, h1, fun S W0 ρ df a w Q r F hp hQ => c_seq (h2 S W0 ρ df a w _ r F hp fun ρ' a' w' st F' => ?_), hc⟩
      have := hQ ρ' a' w' st F'
      cases e with
      | normal => exact (he rfl).elim
      | exit _ => exact this
      | goto _ => exact this
      | ret => exact this
      | panic _ => exact this
      | outgrown => exact this
    cases e with
    | normal =>
      obtain ⟨e, t', s', k1, k2, k3⟩ := ihy t1 s1 c (h1.wf hwf) h3
      refine ⟨e, t', s', h1.trans k1, fun S W0 ρ df a w Q r F hp hQ => c_seq ?_, k3⟩
      refine h2 S W0 ρ df a w _ r F (Pre.fst h1 k1 hp) fun ρ1 a1 w1 st F1 => ?_
      exact k2 S W0 ρ1 df a1 w1 Q r F1 (Pre.snd h1 k1 hwf hp st) fun ρ2 a2 w2 st2 F2 => hQ ρ2 a2 w2 (Stp.trans h1 k1 hwf hp st st2) F2
    | exit _ => exact hother (by simp) h3
    | goto _ => exact hother (by simp) h3
    | ret => exact hother (by simp) h3
    | panic _ => exact hother (by simp) h3
    | outgrown => exact hother (by simp) h3
  | cond o x y ihx ihy =>
    intro t s c hwf h
    have h' : (evK t o fun v => match v with
      | .bool true => codeK P call n x t s c
      | .bool false => codeK P call n y t s c
      | _ => false) = true := h
    obtain ⟨v, h1, h2⟩ := evK_ok h'
    split at h2
    · obtain ⟨e, t', s', k1, k2, k3⟩ := ihx t s c hwf h2
      exact ⟨e, t', s', k1, fun S W0 ρ df a w Q r F hp hQ => wpIn_cond_true (h1.bool F) (k2 S W0 ρ df a w Q r F hp hQ), k3⟩
    · obtain ⟨e, t', s', k1, k2, k3⟩ := ihy t s c hwf h2
      exact ⟨e, t', s', k1, fun S W0 ρ df a w Q r F hp hQ => wpIn_cond_false (h1.bool F) (k2 S W0 ρ df a w Q r F hp hQ), k3⟩
    · cases h2
  | block id x ih =>
    intro t s c hwf h
    have h' : (codeK P call n x t s fun e t s => match e with
      | .exit i => match Nat.beq i id with
        | true => c .normal t s
        | false => c (.exit i) t s
      | e => c e t s) = true := h
    obtain ⟨e, t1, s1, h1, h2, h3⟩ := ih t s _ hwf h'
    cases e with
    | exit i =>
      dsimp only at h3
      split at h3
      · rename_i hi
        obtain rfl := Nat.eq_of_beq_eq_true hi
        exact ⟨.normal, t1, s1, h1, fun S W0 ρ df a w Q r F hp hQ => c_block (h2 S W0 ρ df a w _ r F hp fun ρ' a' w' st F' => by simpa [Exit.inBlock] using hQ ρ' a' w' st F'), h3⟩
      · rename_i hi
        have hi : i ≠ id := fun e => by rw [e] at hi; simp at hi
        exact ⟨.exit i, t1, s1, h1, fun S W0 ρ df a w Q r F hp hQ => c_block (h2 S W0 ρ df a w _ r F hp fun ρ' a' w' st F' => by simpa [Exit.inBlock, hi] using hQ ρ' a' w' st F'), h3⟩
    | normal => exact ⟨_, t1, s1, h1, fun S W0 ρ df a w Q r F hp hQ => c_block (h2 S W0 ρ df a w _ r F hp fun ρ' a' w' st F' => hQ ρ' a' w' st F'), h3⟩
    | goto _ => exact ⟨_, t1, s1, h1, fun S W0 ρ df a w Q r F hp hQ => c_block (h2 S W0 ρ df a w _ r F hp fun ρ' a' w' st F' => hQ ρ' a' w' st F'), h3⟩
    | ret => exact ⟨_, t1, s1, h1, fun S W0 ρ df a w Q r F hp hQ => c_block (h2 S W0 ρ df a w _ r F hp fun ρ' a' w' st F' => hQ ρ' a' w' st F'), h3⟩
    | panic _ => exact ⟨_, t1, s1, h1, fun S W0 ρ df a w Q r F hp hQ => c_block (h2 S W0 ρ df a w _ r F hp fun ρ' a' w' st F' => hQ ρ' a' w' st F'), h3⟩
    | outgrown => exact ⟨_, t1, s1, h1, fun S W0 ρ df a w Q r F hp hQ => c_block (h2 S W0 ρ df a w _ r F hp fun ρ' a' w' st F' => hQ ρ' a' w' st F'), h3⟩
  | loop x ih =>
    intro t s c hwf h
    have h' : loopK (codeK P call n x) 100000 t s c = true := h
    obtain ⟨j, e, t', s', h1, h2, h3⟩ := loopK_ok ih hwf h'
    exact ⟨e, t', s', h1, h2.sem hwf h1, h3⟩
  | exit id => exact fun t s c hwf h => ⟨.exit id, t, s, SLe.refl s, fun S W0 ρ df a w Q r F hp hQ => c_exit (hQ ρ a w (Stp.same rfl rfl hp.1) F), h⟩
  | ret => exact fun t s c hwf h => ⟨.ret, t, s, SLe.refl s, fun S W0 ρ df a w Q r F hp hQ => c_ret (hQ ρ a w (Stp.same rfl rfl hp.1) F), h⟩
  | _ => exact fun t s c hwf h => by cases h
end
end Go.Proofs.YtfedlkeiafcdmaaGreat
/-! RunQ -/
namespace Go.Proofs.YtfedlkeiafcdmaaGreat
set_option linter.unusedVariables false
set_option linter.unusedSimpArgs false
open Go.RowKit
section
variable [Y : Sy]
variable {P : Program} {t : Tr Value}
theorem loadR_ok {tt : TypeId} {v : Value} {s : MSt} {c : Value → MSt → Bool} (h : loadK P tt v s c = true) :
    ∃ v' s', SLe s s' ∧ s'.m = s.m ∧ s'.nx = s.nx ∧ (∀ (S : List Nat) (W0 : World) (ρ : Rl) (u : Value) (w : World), VR ρ v u → WR S W0 ρ s.m s'.F w → ∃ ad u', u = .pointer (some ad) ∧ (loadVar tt ad).run P w = .ok u' w ∧ VR ρ v' u') ∧ c v' s' = true := by
  unfold loadK at h
  split at h
  case h_2 => cases h
  rename_i b o
  split at h
  case h_2 => cases h
  rename_i ob hb
  split at h
  case h_2 => cases h
  rename_i hmp
  rw [rdK_is] at h
  rcases partK_ok h with ⟨h1, v, h2, h3⟩ | ⟨n, h1, vs, h2, h3⟩
  · refine ⟨v, s.rd b, SLe.rd s b, rfl, rfl, fun S W0 ρ u w hv A => ?_, h3⟩
    obtain ⟨r, cc, hr, cs', junk, q1, q2, _, _⟩ := A.atC hb bit_rd hmp
    cases hv
    rename_i r' cc' hr'
    rw [hr] at hr'
    cases hr'
    obtain ⟨y, e2, q3⟩ := vr_nth q1 h2
    exact ⟨_, y, rfl, run_loadVar_one h1 (cell_at q2 (by have := nth_junk (junk := junk) e2; rw [nth_spec] at this; simpa using this)), q3⟩
  · refine ⟨_, s.rd b, SLe.rd s b, rfl, rfl, fun S W0 ρ u w hv A => ?_, h3⟩
    obtain ⟨r, cc, hr, cs', junk, q1, q2, _, _⟩ := A.atC hb bit_rd hmp
    cases hv
    rename_i r' cc' hr'
    rw [hr] at hr'
    cases hr'
    obtain ⟨ys, e2, q3⟩ := vr_seg q1 h2
    exact ⟨_, _, rfl, run_loadVar_agg h1 q2 (by simpa using seg_junk (junk := junk) e2), .agg (by simpa using q3)⟩
noncomputable def resK (P : Program) (t : Tr Value) (rvs : List ResultVar) : MSt → (List Value → MSt → Bool) → Bool := List.rec (motive := fun _ => MSt → (List Value → MSt → Bool) → Bool) (fun s c => c [] s)
  (fun rv _ ih s c => match rv with
    | .tmp d => match t.get d with
      | some v => ih s fun vs s => c (v :: vs) s
      | none => false
    | .cell d ty => match t.get d with
      | some v => loadK P ty v s fun v s => ih s fun vs s => c (v :: vs) s
      | none => false) rvs
theorem resK_ok : ∀ {rvs : List ResultVar} {s : MSt} {c : List Value → MSt → Bool}, resK P t rvs s c = true →
    ∃ vs s', SLe s s' ∧ s'.m = s.m ∧ s'.nx = s.nx ∧ (∀ (S : List Nat) (W0 : World) (ρ : Rl) (n : Nat) (df : List Deferred) (a : Act) (w : World), FrR ρ n df t a → WR S W0 ρ s.m s'.F w → ∃ us, VRs ρ vs us ∧ ResVs P a w rvs us) ∧ c vs s' = true
  | [], s, c, h => ⟨[], s, SLe.refl s, rfl, rfl, fun S W0 ρ n df a w F A => ⟨[], .nil, .nil⟩, h⟩
  | rv :: rvs, s, c, h => by
    cases rv with
    | tmp d =>
      have h' : (match t.get d with
        | some v => resK P t rvs s fun vs s => c (v :: vs) s
        | none => false) = true := h
      split at h'
      case h_2 => cases h'
      rename_i v hv
      obtain ⟨vs, s', h1, h2, h3, h4, h5⟩ := resK_ok h'
      refine ⟨v :: vs, s', h1, h2, h3, fun S W0 ρ n df a w F A => ?_, h5⟩
      obtain ⟨us, q1, q2⟩ := h4 S W0 ρ n df a w F A
      exact ⟨_, .cons (F.at_ d v hv) q1, .cons (.tmp rfl) q2⟩
    | cell d ty =>
      have h' : (match t.get d with
        | some v => loadK P ty v s fun v s => resK P t rvs s fun vs s => c (v :: vs) s
        | none => false) = true := h
      split at h'
      case h_2 => cases h'
      rename_i v hv
      obtain ⟨v1, s1, g1, g2, g3, g4, g5⟩ := loadR_ok h'
      obtain ⟨vs, s', h1, h2, h3, h4, h5⟩ := resK_ok g5
      refine ⟨v1 :: vs, s', g1.trans h1, h2.trans g2, h3.trans g3, fun S W0 ρ n df a w F A => ?_, h5⟩
      obtain ⟨ad, u', q1, q2, q3⟩ := g4 S W0 ρ _ w (F.at_ d v hv) (A.mono h1.F)
      obtain ⟨us, q4, q5⟩ := h4 S W0 ρ n df a w F (g2 ▸ A)
      exact ⟨_, .cons q3 q4, .cons (.cell q1 q2) q5⟩
noncomputable def slotsK (vs : List Value) : Nat → Tr Value → (Tr Value → Bool) → Bool := List.rec (motive := fun _ => Nat → Tr Value → (Tr Value → Bool) → Bool) (fun _ t c => c t) (fun v _ ih i t c => t.setK i (some v) fun t => forceN (i + 1) fun i => ih i t c) vs
omit Y in
theorem slotsK_ok : ∀ {vs : List Value} {i : Nat} {t : Tr Value} {c : Tr Value → Bool}, slotsK vs i t c = true → ∃ t', c t' = true ∧ ∀ k, t'.get k = if i ≤ k ∧ k < i + vs.length then vs[k - i]? else t.get k
  | [], i, t, c, h => ⟨t, h, fun k => by rw [if_neg (by simp)]⟩
  | v :: vs, i, t, c, h => by
    have h' : (t.setK i (some v) fun t => forceN (i + 1) fun i => slotsK vs i t c) = true := h
    obtain ⟨t1, h1, h2⟩ := Tr.setK_ok h'
    rw [forceN_is] at h2
    obtain ⟨t', h3, h4⟩ := slotsK_ok h2
    refine ⟨t', h3, fun k => ?_⟩
    rw [h4, h1]
    simp only [List.length_cons]
    by_cases hk : k = i
    · subst hk
      rw [if_neg (by omega), if_pos rfl, if_pos (by omega)]
      simp
    · by_cases hk2 : i + 1 ≤ k ∧ k < i + 1 + vs.length
      · rw [if_pos hk2, if_pos (by omega)]
        obtain ⟨d, rfl⟩ : ∃ d, k = i + 1 + d := ⟨k - (i + 1), by omega⟩
        rw [show i + 1 + d - (i + 1) = d by omega, show i + 1 + d - i = d + 1 by omega, List.getElem?_cons_succ]
      · rw [if_neg hk2, if_neg hk, if_neg (by omega)]
noncomputable def finK (P : Program) (fn : Func) (t : Tr Value) (s : MSt) (c : Value → MSt → Bool) : Bool := resK P t fn.results.toList s fun vs s => c (oneOr vs) s
/-- a call whose answer is told -/
def OrOk (P : Program) (f : FuncId) (vs : List Value) (v : Value) : Prop := ∀ (ρ : Rl) (w : World) (us : List Value), VRs ρ vs us → Cal P f us.toArray w fun u w' => VR ρ v u ∧ Ext [] w w'
noncomputable def sameVs (l : List Value) : List Value → Bool := List.rec (motive := fun _ => List Value → Bool) (fun l2 => List.rec true (fun _ _ _ => false) l2) (fun x _ ih l2 => List.rec false (fun y ys _ => match x, y with
  | .int k a, .int k' b => match kEqR k k' && eqI a b with
    | true => ih ys
    | false => false
  | _, _ => false) l2) l
omit Y in
theorem sameVs_ok : ∀ {l l2 : List Value}, sameVs l l2 = true → l = l2
  | [], [], _ => rfl
  | [], _ :: _, h => by cases h
  | _ :: _, [], h => by cases h
  | x :: xs, y :: ys, h => by
    cases x
    case int k a =>
      cases y
      case int k' b =>
        have h' : (match kEqR k k' && eqI a b with
          | true => sameVs xs ys
          | false => false) = true := h
        split at h'
        case h_2 => cases h'
        rename_i hq
        rw [Bool.and_eq_true, eqI_is, beq_iff_eq] at hq
        obtain rfl := kEq_ok' hq.1
        rw [sameVs_ok h', hq.2]
      all_goals cases h
    all_goals (cases y <;> cases h)
noncomputable def orK (tb : List (FuncId × List Value × Value)) (call : CallK) : CallK := fun f vs s c => List.rec (call f vs s c) (fun q _ ih => match Nat.beq q.1 f && sameVs q.2.1 vs with
  | true => c q.2.2 s
  | false => ih) tb
theorem Stp.ext {S : List Nat} {W0 : World} {ρ : Rl} {s : MSt} {w w1 : World} (A : WR S W0 ρ s.m s.F w) (E : Ext [] w w1) : Stp S W0 ρ s w ρ s w1 :=
  ⟨fun _ _ => rfl, ⟨A.ext.trans E.any, fun b o hb hf => by
    obtain ⟨r, c, h1, h2⟩ := A.at_ b o hb hf
    exact ⟨r, c, h1, h2.later (fun _ _ h => h) (E.block r h2.lt (by simp))⟩, A.inj, A.own⟩, E.size, fun k hk _ => E.block k hk (by simp), fun b o r c h1 h2 => by omega⟩
theorem orK_ok {call : CallK} (hc : CallOk P call) : ∀ {tb : List (FuncId × List Value × Value)}, (∀ q ∈ tb, OrOk P q.1 q.2.1 q.2.2) → CallOk P (orK tb call)
  | [], _ => hc
  | q :: tb, htb => fun f vs s c hwf h => by
    have h' : (match Nat.beq q.1 f && sameVs q.2.1 vs with
      | true => c q.2.2 s
      | false => orK tb call f vs s c) = true := h
    split at h'
    · rename_i he
      rw [Bool.and_eq_true] at he
      obtain rfl := Nat.eq_of_beq_eq_true he.1
      obtain rfl := sameVs_ok he.2
      exact ⟨_, s, SLe.refl s, fun S W0 ρ w us hv hp => (htb q List.mem_cons_self ρ w us hv).mono fun u w' hu => ⟨ρ, Stp.ext hp.1 hu.2, hu.1⟩, h'⟩
    · exact orK_ok hc (fun p hp => htb p (List.mem_cons_of_mem _ hp)) f vs s c hwf h'
noncomputable def callN (P : Program) (tb : List (FuncId × List Value × Value)) (fuel : Nat) : CallK := Nat.rec (motive := fun _ => CallK) (fun _ _ _ _ => false)
  (fun _ ih f vs s c => match P.funcs[f]? with
    | some fn => match fn.body with
      | some x => match Nat.ble vs.length fn.ntmps with
        | true => slotsK vs 0 .leaf fun t => codeK P (orK tb ih) fn.ntmps x t s fun e t s => match e with
          | .ret => finK P fn t s c
          | .normal => finK P fn t s c
          | _ => false
        | false => false
      | none => false
    | none => false) fuel
theorem vr_oneOr {ρ : Rl} {vs us : List Value} (h : VRs ρ vs us) : VR ρ (oneOr vs) (oneOr us) := by
  cases h with
  | nil => exact .tup .nil
  | cons h t => cases t with
    | nil => exact h
    | cons h2 t2 => exact .tup (.cons h (.cons h2 t2))
theorem callN_ok (hm : P.follows .mixedOrders = true) {tb : List (FuncId × List Value × Value)} (htb : ∀ q ∈ tb, OrOk P q.1 q.2.1 q.2.2) : ∀ fuel, CallOk P (callN P tb fuel)
  | 0 => fun f vs s c hwf h => by cases h
  | fuel + 1 => fun f vs s c hwf h => by
    have h' : (match P.funcs[f]? with
      | some fn => match fn.body with
        | some x => match Nat.ble vs.length fn.ntmps with
          | true => slotsK vs 0 .leaf fun t => codeK P (orK tb (callN P tb fuel)) fn.ntmps x t s fun e t s => match e with
            | .ret => finK P fn t s c
            | .normal => finK P fn t s c
            | _ => false
          | false => false
        | none => false
      | none => false) = true := h
    split at h'
    case h_2 => cases h'
    rename_i fn hfn
    split at h'
    case h_2 => cases h'
    rename_i x hx
    split at h'
    case h_2 => cases h'
    rename_i hle
    obtain ⟨t, h1, h2⟩ := slotsK_ok h'
    obtain ⟨e, t1, s1, g1, g2, g3⟩ := codeK_ok hm (orK_ok (callN_ok hm htb fuel) htb) x t s _ hwf h1
    have fin : (e = .ret ∨ e = .normal) → finK P fn t1 s1 c = true → ∃ v s', SLe s s' ∧ SemF P f vs s s' v ∧ c v s' = true := fun he hf => by
      obtain ⟨rs, s', k1, k2, k3, k4, k5⟩ := resK_ok hf
      refine ⟨oneOr rs, s', g1.trans k1, fun S W0 ρ w args hv hp => ?_, k5⟩
      refine fn_of hfn hx rfl (by rw [hv.len]; exact hle) fun a F => ?_
      have F0 : FrR ρ fn.ntmps [] t a := ⟨F.size, F.defers, fun k y hy => by
        rw [h2] at hy
        simp only [Nat.zero_le, true_and, Nat.zero_add, Nat.sub_zero] at hy
        split at hy
        · rename_i hk
          obtain ⟨u, q1, q2⟩ := vr_nth (i := k) hv (by rw [nth_spec]; exact hy)
          rw [nth_spec] at q1
          have hn : ∀ (vs : List Value) (i k : Nat) (u : Value), vs[k]? = some u → look (number i vs) (i + k) = some u := fun vs => by
            induction vs with
            | nil => intro i k u h; simp at h
            | cons z zs ih =>
              intro i k u h
              simp only [number, look_put]
              cases k with
              | zero => simp at h; simp [h]
              | succ k =>
                rw [if_neg (by omega)]
                have := ih (i + 1) k u (by simpa using h)
                rw [← this]
                congr 1
                omega
          have := F.at_ k u (by have := hn args 0 k u q1; rwa [Nat.zero_add] at this)
          rw [this]
          exact q2
        · rw [Tr.get_leaf] at hy
          cases hy⟩
      refine g2 S W0 ρ [] a w _ none F0 (Pre.fst g1 k1 hp) fun ρ1 a1 w1 st F1 => ?_
      have hp1 := Pre.snd g1 k1 hwf hp st
      obtain ⟨us, q1, q2⟩ := k4 S W0 ρ1 fn.ntmps [] a1 w1 F1 hp1.1
      have FF : Frm a1 fn.ntmps [] [] := ⟨F1.size, F1.defers, fun t v h => by simp [look] at h⟩
      have hR : ∃ ρ', Stp S W0 ρ s w ρ' s' w1 ∧ VR ρ' (oneOr rs) (oneOr us) := ⟨ρ1, Stp.trans g1 k1 hwf hp st (Stp.same k2 k3 hp1.1), vr_oneOr q1⟩
      rcases he with rfl | rfl
      · exact p_ret FF (rvs := fn.results.toList) (by simp) q2 hR
      · exact p_end FF (rvs := fn.results.toList) (by simp) q2 hR
    cases e with
    | ret => exact fin (.inl rfl) g3
    | normal => exact fin (.inr rfl) g3
    | exit _ => cases g3
    | goto _ => cases g3
    | panic _ => cases g3
    | outgrown => cases g3
/-- A call that comes to true. -/
noncomputable def trueK (P : Program) (tb : List (FuncId × List Value × Value)) (fuel : Nat) (f : FuncId) (vs : List Value) : Bool := callN P tb fuel f vs ⟨.leaf, 0, 0, 0⟩ fun v _ => match v with
  | .bool b => b
  | _ => false
theorem trueK_ok {tb : List (FuncId × List Value × Value)} {fuel : Nat} {f : FuncId} {vs us : List Value} [hm : TMix P] (htb : ∀ q ∈ tb, OrOk P q.1 q.2.1 q.2.2) (h : trueK P tb fuel f vs = true) (hv : VRs (fun _ => none) vs us) (W : World) : Cal P f us.toArray W fun r w' => r = .bool true ∧ Ext [] W w' := by
  have hwf : Wf ⟨.leaf, 0, 0, 0⟩ := ⟨fun b hb => (bit0 hb).elim, fun b _ => Tr.get_leaf b⟩
  obtain ⟨v, s', h1, h2, h3⟩ := callN_ok hm.h htb fuel f vs ⟨.leaf, 0, 0, 0⟩ _ hwf h
  have hp : Pre [] W (fun _ => none) ⟨.leaf, 0, 0, 0⟩ s' W := by
    have hl : ∀ b (o : VO), ¬ (Tr.leaf : Tr VO).get b = some o := fun b o hb => by rw [Tr.get_leaf] at hb; cases hb
    exact ⟨⟨Ext.refl _ _, fun b o hb => (hl b o hb).elim, fun b b' o o' r c c' hb => (hl b o hb).elim, fun b o r c hb => (hl b o hb).elim⟩, fun _ _ _ => rfl⟩
  refine (h2 [] W (fun _ => none) W us hv hp).mono fun u w' ⟨ρ', st, hv⟩ => ⟨?_, st.wr.ext⟩
  split at h3
  · rename_i b
    subst h3
    cases hv
    rfl
  · cases h3
end
/-- integers that are told, all of them -/
@[instance_reducible] noncomputable def sy0 : Sy := syOf 0 0 0 0 [] (by simp)
/-- A function without arguments that comes to true. -/
theorem true0_ok {P : Program} {fuel : Nat} {f : FuncId} [hm : TMix P] (h : @trueK sy0 P [] fuel f [] = true) (W : World) : Cal P f [].toArray W fun r w' => r = .bool true ∧ Ext [] W w' := by
  letI : Sy := sy0
  exact trueK_ok (tb := []) (vs := []) (us := []) (fun q hq => by cases hq) h .nil W
end Go.Proofs.YtfedlkeiafcdmaaGreat
/-! Types -/
namespace Go.Proofs.YtfedlkeiafcdmaaGreat
set_option linter.unusedVariables false
instance : TMix Tryz.prog := ⟨by kernel_rfl⟩
instance : TOne Tryz.prog 1 := ⟨by kernel_rfl⟩
instance : TSz Tryz.prog 1 1 := ⟨by kernel_rfl⟩
instance : TZero Tryz.prog 1 [.nilFunc] := ⟨by kernel_rfl⟩
instance : TU Tryz.prog 2 (TypeDesc.int IntKind.i64) := ⟨Tryz.underlying2⟩
instance : TSz Tryz.prog 2 1 := ⟨by kernel_rfl⟩
instance : TOne Tryz.prog 2 := ⟨by kernel_rfl⟩
instance : TEl Tryz.prog 2 1 8 := ⟨by kernel_rfl⟩
instance : TZero Tryz.prog 2 [.int .i64 0] := ⟨by kernel_rfl⟩
instance : TU Tryz.prog 3 (TypeDesc.int IntKind.i64) := ⟨Tryz.underlying3⟩
instance : TSz Tryz.prog 3 1 := ⟨by kernel_rfl⟩
instance : TOne Tryz.prog 3 := ⟨by kernel_rfl⟩
instance : TEl Tryz.prog 3 1 8 := ⟨by kernel_rfl⟩
instance : TZero Tryz.prog 3 [.int .i64 0] := ⟨by kernel_rfl⟩
instance : TU Tryz.prog 4 (TypeDesc.bool) := ⟨Tryz.underlying4⟩
instance : TSz Tryz.prog 4 1 := ⟨by kernel_rfl⟩
instance : TOne Tryz.prog 4 := ⟨by kernel_rfl⟩
instance : TEl Tryz.prog 4 1 1 := ⟨by kernel_rfl⟩
instance : TZero Tryz.prog 4 [.bool false] := ⟨by kernel_rfl⟩
instance : TU Tryz.prog 5 (TypeDesc.int IntKind.u8) := ⟨Tryz.underlying5⟩
instance : TSz Tryz.prog 5 1 := ⟨by kernel_rfl⟩
instance : TOne Tryz.prog 5 := ⟨by kernel_rfl⟩
instance : TEl Tryz.prog 5 1 1 := ⟨by kernel_rfl⟩
instance : TZero Tryz.prog 5 [.int .u8 0] := ⟨by kernel_rfl⟩
instance : TU Tryz.prog 6 (TypeDesc.int IntKind.u8) := ⟨Tryz.underlying6⟩
instance : TSz Tryz.prog 6 1 := ⟨by kernel_rfl⟩
instance : TOne Tryz.prog 6 := ⟨by kernel_rfl⟩
instance : TEl Tryz.prog 6 1 1 := ⟨by kernel_rfl⟩
instance : TZero Tryz.prog 6 [.int .u8 0] := ⟨by kernel_rfl⟩
instance : TSz Tryz.prog 7 4 := ⟨by kernel_rfl⟩
instance : TAgg Tryz.prog 7 4 := ⟨by kernel_rfl⟩
instance : TFldT Tryz.prog 7 0 0 2 := ⟨by kernel_rfl⟩
instance : TFld Tryz.prog 7 0 0 := ⟨by kernel_rfl⟩
instance : TFldT Tryz.prog 7 1 1 3 := ⟨by kernel_rfl⟩
instance : TFld Tryz.prog 7 1 1 := ⟨by kernel_rfl⟩
instance : TFldT Tryz.prog 7 2 2 4 := ⟨by kernel_rfl⟩
instance : TFld Tryz.prog 7 2 2 := ⟨by kernel_rfl⟩
instance : TFldT Tryz.prog 7 3 3 6 := ⟨by kernel_rfl⟩
instance : TFld Tryz.prog 7 3 3 := ⟨by kernel_rfl⟩
instance : TLay Tryz.prog 7 [(0, 1), (1, 1), (2, 1), (3, 1)] := ⟨by kernel_rfl⟩
instance : TEl Tryz.prog 7 4 24 := ⟨by kernel_rfl⟩
instance : TEq Tryz.prog 7 [.i .i64, .i .i64, .b, .i .u8] := ⟨by kernel_rfl⟩
instance : TZero Tryz.prog 7 [.int .i64 0, .int .i64 0, .bool false, .int .u8 0] := ⟨by kernel_rfl⟩
instance : TSz Tryz.prog 8 4 := ⟨by kernel_rfl⟩
instance : TAgg Tryz.prog 8 4 := ⟨by kernel_rfl⟩
instance : TFldT Tryz.prog 8 0 0 2 := ⟨by kernel_rfl⟩
instance : TFld Tryz.prog 8 0 0 := ⟨by kernel_rfl⟩
instance : TFldT Tryz.prog 8 1 1 3 := ⟨by kernel_rfl⟩
instance : TFld Tryz.prog 8 1 1 := ⟨by kernel_rfl⟩
instance : TFldT Tryz.prog 8 2 2 4 := ⟨by kernel_rfl⟩
instance : TFld Tryz.prog 8 2 2 := ⟨by kernel_rfl⟩
instance : TFldT Tryz.prog 8 3 3 6 := ⟨by kernel_rfl⟩
instance : TFld Tryz.prog 8 3 3 := ⟨by kernel_rfl⟩
instance : TLay Tryz.prog 8 [(0, 1), (1, 1), (2, 1), (3, 1)] := ⟨by kernel_rfl⟩
instance : TEl Tryz.prog 8 4 24 := ⟨by kernel_rfl⟩
instance : TEq Tryz.prog 8 [.i .i64, .i .i64, .b, .i .u8] := ⟨by kernel_rfl⟩
instance : TZero Tryz.prog 8 [.int .i64 0, .int .i64 0, .bool false, .int .u8 0] := ⟨by kernel_rfl⟩
instance : TU Tryz.prog 9 (TypeDesc.string) := ⟨Tryz.underlying9⟩
instance : TSz Tryz.prog 9 1 := ⟨by kernel_rfl⟩
instance : TOne Tryz.prog 9 := ⟨by kernel_rfl⟩
instance : TEl Tryz.prog 9 1 16 := ⟨by kernel_rfl⟩
instance : TNI Tryz.prog 9 := ⟨by kernel_rfl⟩
instance : TZero Tryz.prog 9 [.string .empty] := ⟨by kernel_rfl⟩
instance : TU Tryz.prog 10 (TypeDesc.string) := ⟨Tryz.underlying10⟩
instance : TSz Tryz.prog 10 1 := ⟨by kernel_rfl⟩
instance : TOne Tryz.prog 10 := ⟨by kernel_rfl⟩
instance : TEl Tryz.prog 10 1 16 := ⟨by kernel_rfl⟩
instance : TNI Tryz.prog 10 := ⟨by kernel_rfl⟩
instance : TZero Tryz.prog 10 [.string .empty] := ⟨by kernel_rfl⟩
instance : TU Tryz.prog 11 (TypeDesc.string) := ⟨Tryz.underlying11⟩
instance : TSz Tryz.prog 11 1 := ⟨by kernel_rfl⟩
instance : TOne Tryz.prog 11 := ⟨by kernel_rfl⟩
instance : TEl Tryz.prog 11 1 16 := ⟨by kernel_rfl⟩
instance : TNI Tryz.prog 11 := ⟨by kernel_rfl⟩
instance : TZero Tryz.prog 11 [.string .empty] := ⟨by kernel_rfl⟩
instance : TU Tryz.prog 12 (TypeDesc.int IntKind.u64) := ⟨Tryz.underlying12⟩
instance : TSz Tryz.prog 12 1 := ⟨by kernel_rfl⟩
instance : TOne Tryz.prog 12 := ⟨by kernel_rfl⟩
instance : TEl Tryz.prog 12 1 8 := ⟨by kernel_rfl⟩
instance : TZero Tryz.prog 12 [.int .u64 0] := ⟨by kernel_rfl⟩
instance : TSz Tryz.prog 13 2 := ⟨by kernel_rfl⟩
instance : TAgg Tryz.prog 13 2 := ⟨by kernel_rfl⟩
instance : TFldT Tryz.prog 13 0 0 9 := ⟨by kernel_rfl⟩
instance : TFld Tryz.prog 13 0 0 := ⟨by kernel_rfl⟩
instance : TFldT Tryz.prog 13 1 1 12 := ⟨by kernel_rfl⟩
instance : TFld Tryz.prog 13 1 1 := ⟨by kernel_rfl⟩
instance : TLay Tryz.prog 13 [(0, 1), (1, 1)] := ⟨by kernel_rfl⟩
instance : TEl Tryz.prog 13 2 24 := ⟨by kernel_rfl⟩
instance : TZero Tryz.prog 13 [.string .empty, .int .u64 0] := ⟨by kernel_rfl⟩
instance : TSz Tryz.prog 14 2 := ⟨by kernel_rfl⟩
instance : TAgg Tryz.prog 14 2 := ⟨by kernel_rfl⟩
instance : TFldT Tryz.prog 14 0 0 9 := ⟨by kernel_rfl⟩
instance : TFld Tryz.prog 14 0 0 := ⟨by kernel_rfl⟩
instance : TFldT Tryz.prog 14 1 1 12 := ⟨by kernel_rfl⟩
instance : TFld Tryz.prog 14 1 1 := ⟨by kernel_rfl⟩
instance : TLay Tryz.prog 14 [(0, 1), (1, 1)] := ⟨by kernel_rfl⟩
instance : TEl Tryz.prog 14 2 24 := ⟨by kernel_rfl⟩
instance : TZero Tryz.prog 14 [.string .empty, .int .u64 0] := ⟨by kernel_rfl⟩
instance : TU Tryz.prog 15 (TypeDesc.pointer 272) := ⟨Tryz.underlying15⟩
instance : TSz Tryz.prog 15 1 := ⟨by kernel_rfl⟩
instance : TOne Tryz.prog 15 := ⟨by kernel_rfl⟩
instance : TEl Tryz.prog 15 1 8 := ⟨by kernel_rfl⟩
instance : TZero Tryz.prog 15 [.pointer none] := ⟨by kernel_rfl⟩
instance : TU Tryz.prog 16 (TypeDesc.pointer 275) := ⟨Tryz.underlying16⟩
instance : TSz Tryz.prog 16 1 := ⟨by kernel_rfl⟩
instance : TOne Tryz.prog 16 := ⟨by kernel_rfl⟩
instance : TEl Tryz.prog 16 1 8 := ⟨by kernel_rfl⟩
instance : TZero Tryz.prog 16 [.pointer none] := ⟨by kernel_rfl⟩
instance : TU Tryz.prog 17 (TypeDesc.pointer 284) := ⟨Tryz.underlying17⟩
instance : TSz Tryz.prog 17 1 := ⟨by kernel_rfl⟩
instance : TOne Tryz.prog 17 := ⟨by kernel_rfl⟩
instance : TEl Tryz.prog 17 1 8 := ⟨by kernel_rfl⟩
instance : TZero Tryz.prog 17 [.pointer none] := ⟨by kernel_rfl⟩
instance : TSz Tryz.prog 18 1 := ⟨by kernel_rfl⟩
instance : TAgg Tryz.prog 18 1 := ⟨by kernel_rfl⟩
instance : TFldT Tryz.prog 18 0 0 17 := ⟨by kernel_rfl⟩
instance : TFld Tryz.prog 18 0 0 := ⟨by kernel_rfl⟩
instance : TLay Tryz.prog 18 [(0, 1)] := ⟨by kernel_rfl⟩
instance : TEl Tryz.prog 18 1 8 := ⟨by kernel_rfl⟩
instance : TZero Tryz.prog 18 [.pointer none] := ⟨by kernel_rfl⟩
instance : TSz Tryz.prog 19 1 := ⟨by kernel_rfl⟩
instance : TAgg Tryz.prog 19 1 := ⟨by kernel_rfl⟩
instance : TFldT Tryz.prog 19 0 0 17 := ⟨by kernel_rfl⟩
instance : TFld Tryz.prog 19 0 0 := ⟨by kernel_rfl⟩
instance : TLay Tryz.prog 19 [(0, 1)] := ⟨by kernel_rfl⟩
instance : TEl Tryz.prog 19 1 8 := ⟨by kernel_rfl⟩
instance : TZero Tryz.prog 19 [.pointer none] := ⟨by kernel_rfl⟩
instance : TU Tryz.prog 21 (TypeDesc.int IntKind.i32) := ⟨Tryz.underlying21⟩
instance : TSz Tryz.prog 21 1 := ⟨by kernel_rfl⟩
instance : TOne Tryz.prog 21 := ⟨by kernel_rfl⟩
instance : TEl Tryz.prog 21 1 4 := ⟨by kernel_rfl⟩
instance : TZero Tryz.prog 21 [.int .i32 0] := ⟨by kernel_rfl⟩
instance : TU Tryz.prog 22 (TypeDesc.int IntKind.u16) := ⟨Tryz.underlying22⟩
instance : TSz Tryz.prog 22 1 := ⟨by kernel_rfl⟩
instance : TOne Tryz.prog 22 := ⟨by kernel_rfl⟩
instance : TEl Tryz.prog 22 1 2 := ⟨by kernel_rfl⟩
instance : TZero Tryz.prog 22 [.int .u16 0] := ⟨by kernel_rfl⟩
instance : TOne Tryz.prog 23 := ⟨by kernel_rfl⟩
instance : TSz Tryz.prog 23 1 := ⟨by kernel_rfl⟩
instance : TZero Tryz.prog 23 [.nilFunc] := ⟨by kernel_rfl⟩
instance : TU Tryz.prog 24 (TypeDesc.array 16 5) := ⟨Tryz.underlying24⟩
instance : TSz Tryz.prog 24 16 := ⟨by kernel_rfl⟩
instance : TAgg Tryz.prog 24 16 := ⟨by kernel_rfl⟩
instance : TLay Tryz.prog 24 [(0, 1), (1, 1), (2, 1), (3, 1), (4, 1), (5, 1), (6, 1), (7, 1), (8, 1), (9, 1), (10, 1), (11, 1), (12, 1), (13, 1), (14, 1), (15, 1)] := ⟨by kernel_rfl⟩
instance : TEl Tryz.prog 24 16 16 := ⟨by kernel_rfl⟩
instance : TEq Tryz.prog 24 [.i .u8, .i .u8, .i .u8, .i .u8, .i .u8, .i .u8, .i .u8, .i .u8, .i .u8, .i .u8, .i .u8, .i .u8, .i .u8, .i .u8, .i .u8, .i .u8] := ⟨by kernel_rfl⟩
instance : TZero Tryz.prog 24 [.int .u8 0, .int .u8 0, .int .u8 0, .int .u8 0, .int .u8 0, .int .u8 0, .int .u8 0, .int .u8 0, .int .u8 0, .int .u8 0, .int .u8 0, .int .u8 0, .int .u8 0, .int .u8 0, .int .u8 0, .int .u8 0] := ⟨by kernel_rfl⟩
instance : TU Tryz.prog 25 (TypeDesc.array 16 5) := ⟨Tryz.underlying25⟩
instance : TSz Tryz.prog 25 16 := ⟨by kernel_rfl⟩
instance : TAgg Tryz.prog 25 16 := ⟨by kernel_rfl⟩
instance : TLay Tryz.prog 25 [(0, 1), (1, 1), (2, 1), (3, 1), (4, 1), (5, 1), (6, 1), (7, 1), (8, 1), (9, 1), (10, 1), (11, 1), (12, 1), (13, 1), (14, 1), (15, 1)] := ⟨by kernel_rfl⟩
instance : TEl Tryz.prog 25 16 16 := ⟨by kernel_rfl⟩
instance : TEq Tryz.prog 25 [.i .u8, .i .u8, .i .u8, .i .u8, .i .u8, .i .u8, .i .u8, .i .u8, .i .u8, .i .u8, .i .u8, .i .u8, .i .u8, .i .u8, .i .u8, .i .u8] := ⟨by kernel_rfl⟩
instance : TZero Tryz.prog 25 [.int .u8 0, .int .u8 0, .int .u8 0, .int .u8 0, .int .u8 0, .int .u8 0, .int .u8 0, .int .u8 0, .int .u8 0, .int .u8 0, .int .u8 0, .int .u8 0, .int .u8 0, .int .u8 0, .int .u8 0, .int .u8 0] := ⟨by kernel_rfl⟩
instance : TSz Tryz.prog 26 17 := ⟨by kernel_rfl⟩
instance : TAgg Tryz.prog 26 17 := ⟨by kernel_rfl⟩
instance : TFldT Tryz.prog 26 0 0 25 := ⟨by kernel_rfl⟩
instance : TFld Tryz.prog 26 0 0 := ⟨by kernel_rfl⟩
instance : TFldT Tryz.prog 26 1 16 3 := ⟨by kernel_rfl⟩
instance : TFld Tryz.prog 26 1 16 := ⟨by kernel_rfl⟩
instance : TLay Tryz.prog 26 [(0, 16), (16, 1)] := ⟨by kernel_rfl⟩
instance : TEl Tryz.prog 26 17 24 := ⟨by kernel_rfl⟩
instance : TEq Tryz.prog 26 [.i .u8, .i .u8, .i .u8, .i .u8, .i .u8, .i .u8, .i .u8, .i .u8, .i .u8, .i .u8, .i .u8, .i .u8, .i .u8, .i .u8, .i .u8, .i .u8, .i .i64] := ⟨by kernel_rfl⟩
instance : TZero Tryz.prog 26 [.int .u8 0, .int .u8 0, .int .u8 0, .int .u8 0, .int .u8 0, .int .u8 0, .int .u8 0, .int .u8 0, .int .u8 0, .int .u8 0, .int .u8 0, .int .u8 0, .int .u8 0, .int .u8 0, .int .u8 0, .int .u8 0, .int .i64 0] := ⟨by kernel_rfl⟩
instance : TSz Tryz.prog 27 17 := ⟨by kernel_rfl⟩
instance : TAgg Tryz.prog 27 17 := ⟨by kernel_rfl⟩
instance : TFldT Tryz.prog 27 0 0 25 := ⟨by kernel_rfl⟩
instance : TFld Tryz.prog 27 0 0 := ⟨by kernel_rfl⟩
instance : TFldT Tryz.prog 27 1 16 3 := ⟨by kernel_rfl⟩
instance : TFld Tryz.prog 27 1 16 := ⟨by kernel_rfl⟩
instance : TLay Tryz.prog 27 [(0, 16), (16, 1)] := ⟨by kernel_rfl⟩
instance : TEl Tryz.prog 27 17 24 := ⟨by kernel_rfl⟩
instance : TEq Tryz.prog 27 [.i .u8, .i .u8, .i .u8, .i .u8, .i .u8, .i .u8, .i .u8, .i .u8, .i .u8, .i .u8, .i .u8, .i .u8, .i .u8, .i .u8, .i .u8, .i .u8, .i .i64] := ⟨by kernel_rfl⟩
instance : TZero Tryz.prog 27 [.int .u8 0, .int .u8 0, .int .u8 0, .int .u8 0, .int .u8 0, .int .u8 0, .int .u8 0, .int .u8 0, .int .u8 0, .int .u8 0, .int .u8 0, .int .u8 0, .int .u8 0, .int .u8 0, .int .u8 0, .int .u8 0, .int .i64 0] := ⟨by kernel_rfl⟩
instance : TSz Tryz.prog 28 34 := ⟨by kernel_rfl⟩
instance : TAgg Tryz.prog 28 34 := ⟨by kernel_rfl⟩
instance : TFldT Tryz.prog 28 0 0 27 := ⟨by kernel_rfl⟩
instance : TFld Tryz.prog 28 0 0 := ⟨by kernel_rfl⟩
instance : TFldT Tryz.prog 28 1 17 27 := ⟨by kernel_rfl⟩
instance : TFld Tryz.prog 28 1 17 := ⟨by kernel_rfl⟩
instance : TLay Tryz.prog 28 [(0, 17), (17, 17)] := ⟨by kernel_rfl⟩
instance : TEl Tryz.prog 28 34 48 := ⟨by kernel_rfl⟩
instance : TEq Tryz.prog 28 [.i .u8, .i .u8, .i .u8, .i .u8, .i .u8, .i .u8, .i .u8, .i .u8, .i .u8, .i .u8, .i .u8, .i .u8, .i .u8, .i .u8, .i .u8, .i .u8, .i .i64, .i .u8, .i .u8, .i .u8, .i .u8, .i .u8, .i .u8, .i .u8, .i .u8, .i .u8, .i .u8, .i .u8, .i .u8, .i .u8, .i .u8, .i .u8, .i .u8, .i .i64] := ⟨by kernel_rfl⟩
instance : TZero Tryz.prog 28 [.int .u8 0, .int .u8 0, .int .u8 0, .int .u8 0, .int .u8 0, .int .u8 0, .int .u8 0, .int .u8 0, .int .u8 0, .int .u8 0, .int .u8 0, .int .u8 0, .int .u8 0, .int .u8 0, .int .u8 0, .int .u8 0, .int .i64 0, .int .u8 0, .int .u8 0, .int .u8 0, .int .u8 0, .int .u8 0, .int .u8 0, .int .u8 0, .int .u8 0, .int .u8 0, .int .u8 0, .int .u8 0, .int .u8 0, .int .u8 0, .int .u8 0, .int .u8 0, .int .u8 0, .int .i64 0] := ⟨by kernel_rfl⟩
instance : TSz Tryz.prog 29 34 := ⟨by kernel_rfl⟩
instance : TAgg Tryz.prog 29 34 := ⟨by kernel_rfl⟩
instance : TFldT Tryz.prog 29 0 0 27 := ⟨by kernel_rfl⟩
instance : TFld Tryz.prog 29 0 0 := ⟨by kernel_rfl⟩
instance : TFldT Tryz.prog 29 1 17 27 := ⟨by kernel_rfl⟩
instance : TFld Tryz.prog 29 1 17 := ⟨by kernel_rfl⟩
instance : TLay Tryz.prog 29 [(0, 17), (17, 17)] := ⟨by kernel_rfl⟩
instance : TEl Tryz.prog 29 34 48 := ⟨by kernel_rfl⟩
instance : TEq Tryz.prog 29 [.i .u8, .i .u8, .i .u8, .i .u8, .i .u8, .i .u8, .i .u8, .i .u8, .i .u8, .i .u8, .i .u8, .i .u8, .i .u8, .i .u8, .i .u8, .i .u8, .i .i64, .i .u8, .i .u8, .i .u8, .i .u8, .i .u8, .i .u8, .i .u8, .i .u8, .i .u8, .i .u8, .i .u8, .i .u8, .i .u8, .i .u8, .i .u8, .i .u8, .i .i64] := ⟨by kernel_rfl⟩
instance : TZero Tryz.prog 29 [.int .u8 0, .int .u8 0, .int .u8 0, .int .u8 0, .int .u8 0, .int .u8 0, .int .u8 0, .int .u8 0, .int .u8 0, .int .u8 0, .int .u8 0, .int .u8 0, .int .u8 0, .int .u8 0, .int .u8 0, .int .u8 0, .int .i64 0, .int .u8 0, .int .u8 0, .int .u8 0, .int .u8 0, .int .u8 0, .int .u8 0, .int .u8 0, .int .u8 0, .int .u8 0, .int .u8 0, .int .u8 0, .int .u8 0, .int .u8 0, .int .u8 0, .int .u8 0, .int .u8 0, .int .i64 0] := ⟨by kernel_rfl⟩
instance : TOne Tryz.prog 30 := ⟨by kernel_rfl⟩
instance : TSz Tryz.prog 30 1 := ⟨by kernel_rfl⟩
instance : TZero Tryz.prog 30 [.nilFunc] := ⟨by kernel_rfl⟩
instance : TU Tryz.prog 31 (TypeDesc.int IntKind.u64) := ⟨Tryz.underlying31⟩
instance : TSz Tryz.prog 31 1 := ⟨by kernel_rfl⟩
instance : TOne Tryz.prog 31 := ⟨by kernel_rfl⟩
instance : TEl Tryz.prog 31 1 8 := ⟨by kernel_rfl⟩
instance : TZero Tryz.prog 31 [.int .u64 0] := ⟨by kernel_rfl⟩
instance : TU Tryz.prog 32 (TypeDesc.int IntKind.u64) := ⟨Tryz.underlying32⟩
instance : TSz Tryz.prog 32 1 := ⟨by kernel_rfl⟩
instance : TOne Tryz.prog 32 := ⟨by kernel_rfl⟩
instance : TEl Tryz.prog 32 1 8 := ⟨by kernel_rfl⟩
instance : TZero Tryz.prog 32 [.int .u64 0] := ⟨by kernel_rfl⟩
instance : TSz Tryz.prog 33 35 := ⟨by kernel_rfl⟩
instance : TAgg Tryz.prog 33 35 := ⟨by kernel_rfl⟩
instance : TFldT Tryz.prog 33 0 0 27 := ⟨by kernel_rfl⟩
instance : TFld Tryz.prog 33 0 0 := ⟨by kernel_rfl⟩
instance : TFldT Tryz.prog 33 1 17 27 := ⟨by kernel_rfl⟩
instance : TFld Tryz.prog 33 1 17 := ⟨by kernel_rfl⟩
instance : TFldT Tryz.prog 33 2 34 32 := ⟨by kernel_rfl⟩
instance : TFld Tryz.prog 33 2 34 := ⟨by kernel_rfl⟩
instance : TLay Tryz.prog 33 [(0, 17), (17, 17), (34, 1)] := ⟨by kernel_rfl⟩
instance : TEl Tryz.prog 33 35 56 := ⟨by kernel_rfl⟩
instance : TEq Tryz.prog 33 [.i .u8, .i .u8, .i .u8, .i .u8, .i .u8, .i .u8, .i .u8, .i .u8, .i .u8, .i .u8, .i .u8, .i .u8, .i .u8, .i .u8, .i .u8, .i .u8, .i .i64, .i .u8, .i .u8, .i .u8, .i .u8, .i .u8, .i .u8, .i .u8, .i .u8, .i .u8, .i .u8, .i .u8, .i .u8, .i .u8, .i .u8, .i .u8, .i .u8, .i .i64, .i .u64] := ⟨by kernel_rfl⟩
instance : TZero Tryz.prog 33 [.int .u8 0, .int .u8 0, .int .u8 0, .int .u8 0, .int .u8 0, .int .u8 0, .int .u8 0, .int .u8 0, .int .u8 0, .int .u8 0, .int .u8 0, .int .u8 0, .int .u8 0, .int .u8 0, .int .u8 0, .int .u8 0, .int .i64 0, .int .u8 0, .int .u8 0, .int .u8 0, .int .u8 0, .int .u8 0, .int .u8 0, .int .u8 0, .int .u8 0, .int .u8 0, .int .u8 0, .int .u8 0, .int .u8 0, .int .u8 0, .int .u8 0, .int .u8 0, .int .u8 0, .int .i64 0, .int .u64 0] := ⟨by kernel_rfl⟩
instance : TSz Tryz.prog 34 35 := ⟨by kernel_rfl⟩
instance : TAgg Tryz.prog 34 35 := ⟨by kernel_rfl⟩
instance : TFldT Tryz.prog 34 0 0 27 := ⟨by kernel_rfl⟩
instance : TFld Tryz.prog 34 0 0 := ⟨by kernel_rfl⟩
instance : TFldT Tryz.prog 34 1 17 27 := ⟨by kernel_rfl⟩
instance : TFld Tryz.prog 34 1 17 := ⟨by kernel_rfl⟩
instance : TFldT Tryz.prog 34 2 34 32 := ⟨by kernel_rfl⟩
instance : TFld Tryz.prog 34 2 34 := ⟨by kernel_rfl⟩
instance : TLay Tryz.prog 34 [(0, 17), (17, 17), (34, 1)] := ⟨by kernel_rfl⟩
instance : TEl Tryz.prog 34 35 56 := ⟨by kernel_rfl⟩
instance : TEq Tryz.prog 34 [.i .u8, .i .u8, .i .u8, .i .u8, .i .u8, .i .u8, .i .u8, .i .u8, .i .u8, .i .u8, .i .u8, .i .u8, .i .u8, .i .u8, .i .u8, .i .u8, .i .i64, .i .u8, .i .u8, .i .u8, .i .u8, .i .u8, .i .u8, .i .u8, .i .u8, .i .u8, .i .u8, .i .u8, .i .u8, .i .u8, .i .u8, .i .u8, .i .u8, .i .i64, .i .u64] := ⟨by kernel_rfl⟩
instance : TZero Tryz.prog 34 [.int .u8 0, .int .u8 0, .int .u8 0, .int .u8 0, .int .u8 0, .int .u8 0, .int .u8 0, .int .u8 0, .int .u8 0, .int .u8 0, .int .u8 0, .int .u8 0, .int .u8 0, .int .u8 0, .int .u8 0, .int .u8 0, .int .i64 0, .int .u8 0, .int .u8 0, .int .u8 0, .int .u8 0, .int .u8 0, .int .u8 0, .int .u8 0, .int .u8 0, .int .u8 0, .int .u8 0, .int .u8 0, .int .u8 0, .int .u8 0, .int .u8 0, .int .u8 0, .int .u8 0, .int .i64 0, .int .u64 0] := ⟨by kernel_rfl⟩
instance : TU Tryz.prog 35 (TypeDesc.slice 29) := ⟨Tryz.underlying35⟩
instance : TSz Tryz.prog 35 1 := ⟨by kernel_rfl⟩
instance : TOne Tryz.prog 35 := ⟨by kernel_rfl⟩
instance : TEl Tryz.prog 35 1 24 := ⟨by kernel_rfl⟩
instance : TNI Tryz.prog 35 := ⟨by kernel_rfl⟩
instance : TZero Tryz.prog 35 [.slice none 0 0] := ⟨by kernel_rfl⟩
instance : TU Tryz.prog 36 (TypeDesc.slice 108) := ⟨Tryz.underlying36⟩
instance : TSz Tryz.prog 36 1 := ⟨by kernel_rfl⟩
instance : TOne Tryz.prog 36 := ⟨by kernel_rfl⟩
instance : TEl Tryz.prog 36 1 24 := ⟨by kernel_rfl⟩
instance : TNI Tryz.prog 36 := ⟨by kernel_rfl⟩
instance : TZero Tryz.prog 36 [.slice none 0 0] := ⟨by kernel_rfl⟩
instance : TSz Tryz.prog 37 2 := ⟨by kernel_rfl⟩
instance : TAgg Tryz.prog 37 2 := ⟨by kernel_rfl⟩
instance : TFldT Tryz.prog 37 0 0 36 := ⟨by kernel_rfl⟩
instance : TFld Tryz.prog 37 0 0 := ⟨by kernel_rfl⟩
instance : TFldT Tryz.prog 37 1 1 3 := ⟨by kernel_rfl⟩
instance : TFld Tryz.prog 37 1 1 := ⟨by kernel_rfl⟩
instance : TLay Tryz.prog 37 [(0, 1), (1, 1)] := ⟨by kernel_rfl⟩
instance : TEl Tryz.prog 37 2 32 := ⟨by kernel_rfl⟩
instance : TZero Tryz.prog 37 [.slice none 0 0, .int .i64 0] := ⟨by kernel_rfl⟩
instance : TSz Tryz.prog 38 2 := ⟨by kernel_rfl⟩
instance : TAgg Tryz.prog 38 2 := ⟨by kernel_rfl⟩
instance : TFldT Tryz.prog 38 0 0 36 := ⟨by kernel_rfl⟩
instance : TFld Tryz.prog 38 0 0 := ⟨by kernel_rfl⟩
instance : TFldT Tryz.prog 38 1 1 3 := ⟨by kernel_rfl⟩
instance : TFld Tryz.prog 38 1 1 := ⟨by kernel_rfl⟩
instance : TLay Tryz.prog 38 [(0, 1), (1, 1)] := ⟨by kernel_rfl⟩
instance : TEl Tryz.prog 38 2 32 := ⟨by kernel_rfl⟩
instance : TZero Tryz.prog 38 [.slice none 0 0, .int .i64 0] := ⟨by kernel_rfl⟩
instance : TU Tryz.prog 39 (TypeDesc.slice 75) := ⟨Tryz.underlying39⟩
instance : TSz Tryz.prog 39 1 := ⟨by kernel_rfl⟩
instance : TOne Tryz.prog 39 := ⟨by kernel_rfl⟩
instance : TEl Tryz.prog 39 1 24 := ⟨by kernel_rfl⟩
instance : TNI Tryz.prog 39 := ⟨by kernel_rfl⟩
instance : TZero Tryz.prog 39 [.slice none 0 0] := ⟨by kernel_rfl⟩
instance : TU Tryz.prog 40 (TypeDesc.slice 100) := ⟨Tryz.underlying40⟩
instance : TSz Tryz.prog 40 1 := ⟨by kernel_rfl⟩
instance : TOne Tryz.prog 40 := ⟨by kernel_rfl⟩
instance : TEl Tryz.prog 40 1 24 := ⟨by kernel_rfl⟩
instance : TNI Tryz.prog 40 := ⟨by kernel_rfl⟩
instance : TZero Tryz.prog 40 [.slice none 0 0] := ⟨by kernel_rfl⟩
instance : TU Tryz.prog 41 (TypeDesc.slice 89) := ⟨Tryz.underlying41⟩
instance : TSz Tryz.prog 41 1 := ⟨by kernel_rfl⟩
instance : TOne Tryz.prog 41 := ⟨by kernel_rfl⟩
instance : TEl Tryz.prog 41 1 24 := ⟨by kernel_rfl⟩
instance : TNI Tryz.prog 41 := ⟨by kernel_rfl⟩
instance : TZero Tryz.prog 41 [.slice none 0 0] := ⟨by kernel_rfl⟩
instance : TU Tryz.prog 42 (TypeDesc.slice 93) := ⟨Tryz.underlying42⟩
instance : TSz Tryz.prog 42 1 := ⟨by kernel_rfl⟩
instance : TOne Tryz.prog 42 := ⟨by kernel_rfl⟩
instance : TEl Tryz.prog 42 1 24 := ⟨by kernel_rfl⟩
instance : TNI Tryz.prog 42 := ⟨by kernel_rfl⟩
instance : TZero Tryz.prog 42 [.slice none 0 0] := ⟨by kernel_rfl⟩
instance : TU Tryz.prog 43 (TypeDesc.slice 105) := ⟨Tryz.underlying43⟩
instance : TSz Tryz.prog 43 1 := ⟨by kernel_rfl⟩
instance : TOne Tryz.prog 43 := ⟨by kernel_rfl⟩
instance : TEl Tryz.prog 43 1 24 := ⟨by kernel_rfl⟩
instance : TNI Tryz.prog 43 := ⟨by kernel_rfl⟩
instance : TZero Tryz.prog 43 [.slice none 0 0] := ⟨by kernel_rfl⟩
instance : TSz Tryz.prog 44 14 := ⟨by kernel_rfl⟩
instance : TAgg Tryz.prog 44 14 := ⟨by kernel_rfl⟩
instance : TFldT Tryz.prog 44 0 0 32 := ⟨by kernel_rfl⟩
instance : TFld Tryz.prog 44 0 0 := ⟨by kernel_rfl⟩
instance : TFldT Tryz.prog 44 1 1 22 := ⟨by kernel_rfl⟩
instance : TFld Tryz.prog 44 1 1 := ⟨by kernel_rfl⟩
instance : TFldT Tryz.prog 44 2 2 3 := ⟨by kernel_rfl⟩
instance : TFld Tryz.prog 44 2 2 := ⟨by kernel_rfl⟩
instance : TFldT Tryz.prog 44 3 3 3 := ⟨by kernel_rfl⟩
instance : TFld Tryz.prog 44 3 3 := ⟨by kernel_rfl⟩
instance : TFldT Tryz.prog 44 4 4 22 := ⟨by kernel_rfl⟩
instance : TFld Tryz.prog 44 4 4 := ⟨by kernel_rfl⟩
instance : TFldT Tryz.prog 44 5 5 3 := ⟨by kernel_rfl⟩
instance : TFld Tryz.prog 44 5 5 := ⟨by kernel_rfl⟩
instance : TFldT Tryz.prog 44 6 6 35 := ⟨by kernel_rfl⟩
instance : TFld Tryz.prog 44 6 6 := ⟨by kernel_rfl⟩
instance : TFldT Tryz.prog 44 7 7 39 := ⟨by kernel_rfl⟩
instance : TFld Tryz.prog 44 7 7 := ⟨by kernel_rfl⟩
instance : TFldT Tryz.prog 44 8 8 40 := ⟨by kernel_rfl⟩
instance : TFld Tryz.prog 44 8 8 := ⟨by kernel_rfl⟩
instance : TFldT Tryz.prog 44 9 9 41 := ⟨by kernel_rfl⟩
instance : TFld Tryz.prog 44 9 9 := ⟨by kernel_rfl⟩
instance : TFldT Tryz.prog 44 10 10 42 := ⟨by kernel_rfl⟩
instance : TFld Tryz.prog 44 10 10 := ⟨by kernel_rfl⟩
instance : TFldT Tryz.prog 44 11 11 43 := ⟨by kernel_rfl⟩
instance : TFld Tryz.prog 44 11 11 := ⟨by kernel_rfl⟩
instance : TFldT Tryz.prog 44 12 12 38 := ⟨by kernel_rfl⟩
instance : TFld Tryz.prog 44 12 12 := ⟨by kernel_rfl⟩
instance : TLay Tryz.prog 44 [(0, 1), (1, 1), (2, 1), (3, 1), (4, 1), (5, 1), (6, 1), (7, 1), (8, 1), (9, 1), (10, 1), (11, 1), (12, 2)] := ⟨by kernel_rfl⟩
instance : TEl Tryz.prog 44 14 224 := ⟨by kernel_rfl⟩
instance : TZero Tryz.prog 44 [.int .u64 0, .int .u16 0, .int .i64 0, .int .i64 0, .int .u16 0, .int .i64 0, .slice none 0 0, .slice none 0 0, .slice none 0 0, .slice none 0 0, .slice none 0 0, .slice none 0 0, .slice none 0 0, .int .i64 0] := ⟨by kernel_rfl⟩
instance : TSz Tryz.prog 45 14 := ⟨by kernel_rfl⟩
instance : TAgg Tryz.prog 45 14 := ⟨by kernel_rfl⟩
instance : TFldT Tryz.prog 45 0 0 32 := ⟨by kernel_rfl⟩
instance : TFld Tryz.prog 45 0 0 := ⟨by kernel_rfl⟩
instance : TFldT Tryz.prog 45 1 1 22 := ⟨by kernel_rfl⟩
instance : TFld Tryz.prog 45 1 1 := ⟨by kernel_rfl⟩
instance : TFldT Tryz.prog 45 2 2 3 := ⟨by kernel_rfl⟩
instance : TFld Tryz.prog 45 2 2 := ⟨by kernel_rfl⟩
instance : TFldT Tryz.prog 45 3 3 3 := ⟨by kernel_rfl⟩
instance : TFld Tryz.prog 45 3 3 := ⟨by kernel_rfl⟩
instance : TFldT Tryz.prog 45 4 4 22 := ⟨by kernel_rfl⟩
instance : TFld Tryz.prog 45 4 4 := ⟨by kernel_rfl⟩
instance : TFldT Tryz.prog 45 5 5 3 := ⟨by kernel_rfl⟩
instance : TFld Tryz.prog 45 5 5 := ⟨by kernel_rfl⟩
instance : TFldT Tryz.prog 45 6 6 35 := ⟨by kernel_rfl⟩
instance : TFld Tryz.prog 45 6 6 := ⟨by kernel_rfl⟩
instance : TFldT Tryz.prog 45 7 7 39 := ⟨by kernel_rfl⟩
instance : TFld Tryz.prog 45 7 7 := ⟨by kernel_rfl⟩
instance : TFldT Tryz.prog 45 8 8 40 := ⟨by kernel_rfl⟩
instance : TFld Tryz.prog 45 8 8 := ⟨by kernel_rfl⟩
instance : TFldT Tryz.prog 45 9 9 41 := ⟨by kernel_rfl⟩
instance : TFld Tryz.prog 45 9 9 := ⟨by kernel_rfl⟩
instance : TFldT Tryz.prog 45 10 10 42 := ⟨by kernel_rfl⟩
instance : TFld Tryz.prog 45 10 10 := ⟨by kernel_rfl⟩
instance : TFldT Tryz.prog 45 11 11 43 := ⟨by kernel_rfl⟩
instance : TFld Tryz.prog 45 11 11 := ⟨by kernel_rfl⟩
instance : TFldT Tryz.prog 45 12 12 38 := ⟨by kernel_rfl⟩
instance : TFld Tryz.prog 45 12 12 := ⟨by kernel_rfl⟩
instance : TLay Tryz.prog 45 [(0, 1), (1, 1), (2, 1), (3, 1), (4, 1), (5, 1), (6, 1), (7, 1), (8, 1), (9, 1), (10, 1), (11, 1), (12, 2)] := ⟨by kernel_rfl⟩
instance : TEl Tryz.prog 45 14 224 := ⟨by kernel_rfl⟩
instance : TZero Tryz.prog 45 [.int .u64 0, .int .u16 0, .int .i64 0, .int .i64 0, .int .u16 0, .int .i64 0, .slice none 0 0, .slice none 0 0, .slice none 0 0, .slice none 0 0, .slice none 0 0, .slice none 0 0, .slice none 0 0, .int .i64 0] := ⟨by kernel_rfl⟩
instance : TU Tryz.prog 46 (TypeDesc.slice 54) := ⟨Tryz.underlying46⟩
instance : TSz Tryz.prog 46 1 := ⟨by kernel_rfl⟩
instance : TOne Tryz.prog 46 := ⟨by kernel_rfl⟩
instance : TEl Tryz.prog 46 1 24 := ⟨by kernel_rfl⟩
instance : TNI Tryz.prog 46 := ⟨by kernel_rfl⟩
instance : TZero Tryz.prog 46 [.slice none 0 0] := ⟨by kernel_rfl⟩
instance : TU Tryz.prog 47 (TypeDesc.int IntKind.i64) := ⟨Tryz.underlying47⟩
instance : TSz Tryz.prog 47 1 := ⟨by kernel_rfl⟩
instance : TOne Tryz.prog 47 := ⟨by kernel_rfl⟩
instance : TEl Tryz.prog 47 1 8 := ⟨by kernel_rfl⟩
instance : TZero Tryz.prog 47 [.int .i64 0] := ⟨by kernel_rfl⟩
instance : TOne Tryz.prog 49 := ⟨by kernel_rfl⟩
instance : TSz Tryz.prog 49 1 := ⟨by kernel_rfl⟩
instance : TZero Tryz.prog 49 [.nilFunc] := ⟨by kernel_rfl⟩
instance : TSz Tryz.prog 50 40 := ⟨by kernel_rfl⟩
instance : TAgg Tryz.prog 50 40 := ⟨by kernel_rfl⟩
instance : TFldT Tryz.prog 50 0 0 3 := ⟨by kernel_rfl⟩
instance : TFld Tryz.prog 50 0 0 := ⟨by kernel_rfl⟩
instance : TFldT Tryz.prog 50 1 1 22 := ⟨by kernel_rfl⟩
instance : TFld Tryz.prog 50 1 1 := ⟨by kernel_rfl⟩
instance : TFldT Tryz.prog 50 2 2 3 := ⟨by kernel_rfl⟩
instance : TFld Tryz.prog 50 2 2 := ⟨by kernel_rfl⟩
instance : TFldT Tryz.prog 50 3 3 32 := ⟨by kernel_rfl⟩
instance : TFld Tryz.prog 50 3 3 := ⟨by kernel_rfl⟩
instance : TFldT Tryz.prog 50 4 4 34 := ⟨by kernel_rfl⟩
instance : TFld Tryz.prog 50 4 4 := ⟨by kernel_rfl⟩
instance : TFldT Tryz.prog 50 5 39 3 := ⟨by kernel_rfl⟩
instance : TFld Tryz.prog 50 5 39 := ⟨by kernel_rfl⟩
instance : TLay Tryz.prog 50 [(0, 1), (1, 1), (2, 1), (3, 1), (4, 35), (39, 1)] := ⟨by kernel_rfl⟩
instance : TEl Tryz.prog 50 40 96 := ⟨by kernel_rfl⟩
instance : TEq Tryz.prog 50 [.i .i64, .i .u16, .i .i64, .i .u64, .i .u8, .i .u8, .i .u8, .i .u8, .i .u8, .i .u8, .i .u8, .i .u8, .i .u8, .i .u8, .i .u8, .i .u8, .i .u8, .i .u8, .i .u8, .i .u8, .i .i64, .i .u8, .i .u8, .i .u8, .i .u8, .i .u8, .i .u8, .i .u8, .i .u8, .i .u8, .i .u8, .i .u8, .i .u8, .i .u8, .i .u8, .i .u8, .i .u8, .i .i64, .i .u64, .i .i64] := ⟨by kernel_rfl⟩
instance : TZero Tryz.prog 50 [.int .i64 0, .int .u16 0, .int .i64 0, .int .u64 0, .int .u8 0, .int .u8 0, .int .u8 0, .int .u8 0, .int .u8 0, .int .u8 0, .int .u8 0, .int .u8 0, .int .u8 0, .int .u8 0, .int .u8 0, .int .u8 0, .int .u8 0, .int .u8 0, .int .u8 0, .int .u8 0, .int .i64 0, .int .u8 0, .int .u8 0, .int .u8 0, .int .u8 0, .int .u8 0, .int .u8 0, .int .u8 0, .int .u8 0, .int .u8 0, .int .u8 0, .int .u8 0, .int .u8 0, .int .u8 0, .int .u8 0, .int .u8 0, .int .u8 0, .int .i64 0, .int .u64 0, .int .i64 0] := ⟨by kernel_rfl⟩
instance : TSz Tryz.prog 51 40 := ⟨by kernel_rfl⟩
instance : TAgg Tryz.prog 51 40 := ⟨by kernel_rfl⟩
instance : TFldT Tryz.prog 51 0 0 3 := ⟨by kernel_rfl⟩
instance : TFld Tryz.prog 51 0 0 := ⟨by kernel_rfl⟩
instance : TFldT Tryz.prog 51 1 1 22 := ⟨by kernel_rfl⟩
instance : TFld Tryz.prog 51 1 1 := ⟨by kernel_rfl⟩
instance : TFldT Tryz.prog 51 2 2 3 := ⟨by kernel_rfl⟩
instance : TFld Tryz.prog 51 2 2 := ⟨by kernel_rfl⟩
instance : TFldT Tryz.prog 51 3 3 32 := ⟨by kernel_rfl⟩
instance : TFld Tryz.prog 51 3 3 := ⟨by kernel_rfl⟩
instance : TFldT Tryz.prog 51 4 4 34 := ⟨by kernel_rfl⟩
instance : TFld Tryz.prog 51 4 4 := ⟨by kernel_rfl⟩
instance : TFldT Tryz.prog 51 5 39 3 := ⟨by kernel_rfl⟩
instance : TFld Tryz.prog 51 5 39 := ⟨by kernel_rfl⟩
instance : TLay Tryz.prog 51 [(0, 1), (1, 1), (2, 1), (3, 1), (4, 35), (39, 1)] := ⟨by kernel_rfl⟩
instance : TEl Tryz.prog 51 40 96 := ⟨by kernel_rfl⟩
instance : TEq Tryz.prog 51 [.i .i64, .i .u16, .i .i64, .i .u64, .i .u8, .i .u8, .i .u8, .i .u8, .i .u8, .i .u8, .i .u8, .i .u8, .i .u8, .i .u8, .i .u8, .i .u8, .i .u8, .i .u8, .i .u8, .i .u8, .i .i64, .i .u8, .i .u8, .i .u8, .i .u8, .i .u8, .i .u8, .i .u8, .i .u8, .i .u8, .i .u8, .i .u8, .i .u8, .i .u8, .i .u8, .i .u8, .i .u8, .i .i64, .i .u64, .i .i64] := ⟨by kernel_rfl⟩
instance : TZero Tryz.prog 51 [.int .i64 0, .int .u16 0, .int .i64 0, .int .u64 0, .int .u8 0, .int .u8 0, .int .u8 0, .int .u8 0, .int .u8 0, .int .u8 0, .int .u8 0, .int .u8 0, .int .u8 0, .int .u8 0, .int .u8 0, .int .u8 0, .int .u8 0, .int .u8 0, .int .u8 0, .int .u8 0, .int .i64 0, .int .u8 0, .int .u8 0, .int .u8 0, .int .u8 0, .int .u8 0, .int .u8 0, .int .u8 0, .int .u8 0, .int .u8 0, .int .u8 0, .int .u8 0, .int .u8 0, .int .u8 0, .int .u8 0, .int .u8 0, .int .u8 0, .int .i64 0, .int .u64 0, .int .i64 0] := ⟨by kernel_rfl⟩
instance : TU Tryz.prog 52 (TypeDesc.slice 51) := ⟨Tryz.underlying52⟩
instance : TSz Tryz.prog 52 1 := ⟨by kernel_rfl⟩
instance : TOne Tryz.prog 52 := ⟨by kernel_rfl⟩
instance : TEl Tryz.prog 52 1 24 := ⟨by kernel_rfl⟩
instance : TNI Tryz.prog 52 := ⟨by kernel_rfl⟩
instance : TZero Tryz.prog 52 [.slice none 0 0] := ⟨by kernel_rfl⟩
instance : TSz Tryz.prog 53 2 := ⟨by kernel_rfl⟩
instance : TAgg Tryz.prog 53 2 := ⟨by kernel_rfl⟩
instance : TFldT Tryz.prog 53 0 0 32 := ⟨by kernel_rfl⟩
instance : TFld Tryz.prog 53 0 0 := ⟨by kernel_rfl⟩
instance : TFldT Tryz.prog 53 1 1 52 := ⟨by kernel_rfl⟩
instance : TFld Tryz.prog 53 1 1 := ⟨by kernel_rfl⟩
instance : TLay Tryz.prog 53 [(0, 1), (1, 1)] := ⟨by kernel_rfl⟩
instance : TEl Tryz.prog 53 2 32 := ⟨by kernel_rfl⟩
instance : TZero Tryz.prog 53 [.int .u64 0, .slice none 0 0] := ⟨by kernel_rfl⟩
instance : TSz Tryz.prog 54 2 := ⟨by kernel_rfl⟩
instance : TAgg Tryz.prog 54 2 := ⟨by kernel_rfl⟩
instance : TFldT Tryz.prog 54 0 0 32 := ⟨by kernel_rfl⟩
instance : TFld Tryz.prog 54 0 0 := ⟨by kernel_rfl⟩
instance : TFldT Tryz.prog 54 1 1 52 := ⟨by kernel_rfl⟩
instance : TFld Tryz.prog 54 1 1 := ⟨by kernel_rfl⟩
instance : TLay Tryz.prog 54 [(0, 1), (1, 1)] := ⟨by kernel_rfl⟩
instance : TEl Tryz.prog 54 2 32 := ⟨by kernel_rfl⟩
instance : TZero Tryz.prog 54 [.int .u64 0, .slice none 0 0] := ⟨by kernel_rfl⟩
instance : TOne Tryz.prog 55 := ⟨by kernel_rfl⟩
instance : TSz Tryz.prog 55 1 := ⟨by kernel_rfl⟩
instance : TZero Tryz.prog 55 [.nilFunc] := ⟨by kernel_rfl⟩
instance : TOne Tryz.prog 56 := ⟨by kernel_rfl⟩
instance : TSz Tryz.prog 56 1 := ⟨by kernel_rfl⟩
instance : TZero Tryz.prog 56 [.nilFunc] := ⟨by kernel_rfl⟩
instance : TOne Tryz.prog 57 := ⟨by kernel_rfl⟩
instance : TSz Tryz.prog 57 1 := ⟨by kernel_rfl⟩
instance : TZero Tryz.prog 57 [.nilFunc] := ⟨by kernel_rfl⟩
instance : TOne Tryz.prog 58 := ⟨by kernel_rfl⟩
instance : TSz Tryz.prog 58 1 := ⟨by kernel_rfl⟩
instance : TZero Tryz.prog 58 [.nilFunc] := ⟨by kernel_rfl⟩
instance : TOne Tryz.prog 59 := ⟨by kernel_rfl⟩
instance : TSz Tryz.prog 59 1 := ⟨by kernel_rfl⟩
instance : TZero Tryz.prog 59 [.nilFunc] := ⟨by kernel_rfl⟩
instance : TOne Tryz.prog 60 := ⟨by kernel_rfl⟩
instance : TSz Tryz.prog 60 1 := ⟨by kernel_rfl⟩
instance : TZero Tryz.prog 60 [.nilFunc] := ⟨by kernel_rfl⟩
instance : TU Tryz.prog 61 (TypeDesc.pointer 67) := ⟨Tryz.underlying61⟩
instance : TSz Tryz.prog 61 1 := ⟨by kernel_rfl⟩
instance : TOne Tryz.prog 61 := ⟨by kernel_rfl⟩
instance : TEl Tryz.prog 61 1 8 := ⟨by kernel_rfl⟩
instance : TZero Tryz.prog 61 [.pointer none] := ⟨by kernel_rfl⟩
instance : TOne Tryz.prog 62 := ⟨by kernel_rfl⟩
instance : TSz Tryz.prog 62 1 := ⟨by kernel_rfl⟩
instance : TZero Tryz.prog 62 [.nilFunc] := ⟨by kernel_rfl⟩
instance : TOne Tryz.prog 63 := ⟨by kernel_rfl⟩
instance : TSz Tryz.prog 63 1 := ⟨by kernel_rfl⟩
instance : TZero Tryz.prog 63 [.nilFunc] := ⟨by kernel_rfl⟩
instance : TOne Tryz.prog 65 := ⟨by kernel_rfl⟩
instance : TSz Tryz.prog 65 1 := ⟨by kernel_rfl⟩
instance : TZero Tryz.prog 65 [.nilFunc] := ⟨by kernel_rfl⟩
instance : TSz Tryz.prog 66 18 := ⟨by kernel_rfl⟩
instance : TAgg Tryz.prog 66 18 := ⟨by kernel_rfl⟩
instance : TFldT Tryz.prog 66 0 0 45 := ⟨by kernel_rfl⟩
instance : TFld Tryz.prog 66 0 0 := ⟨by kernel_rfl⟩
instance : TFldT Tryz.prog 66 1 14 3 := ⟨by kernel_rfl⟩
instance : TFld Tryz.prog 66 1 14 := ⟨by kernel_rfl⟩
instance : TFldT Tryz.prog 66 2 15 32 := ⟨by kernel_rfl⟩
instance : TFld Tryz.prog 66 2 15 := ⟨by kernel_rfl⟩
instance : TFldT Tryz.prog 66 3 16 52 := ⟨by kernel_rfl⟩
instance : TFld Tryz.prog 66 3 16 := ⟨by kernel_rfl⟩
instance : TFldT Tryz.prog 66 4 17 46 := ⟨by kernel_rfl⟩
instance : TFld Tryz.prog 66 4 17 := ⟨by kernel_rfl⟩
instance : TLay Tryz.prog 66 [(0, 14), (14, 1), (15, 1), (16, 1), (17, 1)] := ⟨by kernel_rfl⟩
instance : TEl Tryz.prog 66 18 288 := ⟨by kernel_rfl⟩
instance : TZero Tryz.prog 66 [.int .u64 0, .int .u16 0, .int .i64 0, .int .i64 0, .int .u16 0, .int .i64 0, .slice none 0 0, .slice none 0 0, .slice none 0 0, .slice none 0 0, .slice none 0 0, .slice none 0 0, .slice none 0 0, .int .i64 0, .int .i64 0, .int .u64 0, .slice none 0 0, .slice none 0 0] := ⟨by kernel_rfl⟩
instance : TSz Tryz.prog 67 18 := ⟨by kernel_rfl⟩
instance : TAgg Tryz.prog 67 18 := ⟨by kernel_rfl⟩
instance : TFldT Tryz.prog 67 0 0 45 := ⟨by kernel_rfl⟩
instance : TFld Tryz.prog 67 0 0 := ⟨by kernel_rfl⟩
instance : TFldT Tryz.prog 67 1 14 3 := ⟨by kernel_rfl⟩
instance : TFld Tryz.prog 67 1 14 := ⟨by kernel_rfl⟩
instance : TFldT Tryz.prog 67 2 15 32 := ⟨by kernel_rfl⟩
instance : TFld Tryz.prog 67 2 15 := ⟨by kernel_rfl⟩
instance : TFldT Tryz.prog 67 3 16 52 := ⟨by kernel_rfl⟩
instance : TFld Tryz.prog 67 3 16 := ⟨by kernel_rfl⟩
instance : TFldT Tryz.prog 67 4 17 46 := ⟨by kernel_rfl⟩
instance : TFld Tryz.prog 67 4 17 := ⟨by kernel_rfl⟩
instance : TLay Tryz.prog 67 [(0, 14), (14, 1), (15, 1), (16, 1), (17, 1)] := ⟨by kernel_rfl⟩
instance : TEl Tryz.prog 67 18 288 := ⟨by kernel_rfl⟩
instance : TZero Tryz.prog 67 [.int .u64 0, .int .u16 0, .int .i64 0, .int .i64 0, .int .u16 0, .int .i64 0, .slice none 0 0, .slice none 0 0, .slice none 0 0, .slice none 0 0, .slice none 0 0, .slice none 0 0, .slice none 0 0, .int .i64 0, .int .i64 0, .int .u64 0, .slice none 0 0, .slice none 0 0] := ⟨by kernel_rfl⟩
instance : TOne Tryz.prog 68 := ⟨by kernel_rfl⟩
instance : TSz Tryz.prog 68 1 := ⟨by kernel_rfl⟩
instance : TZero Tryz.prog 68 [.nilFunc] := ⟨by kernel_rfl⟩
instance : TOne Tryz.prog 70 := ⟨by kernel_rfl⟩
instance : TSz Tryz.prog 70 1 := ⟨by kernel_rfl⟩
instance : TZero Tryz.prog 70 [.nilFunc] := ⟨by kernel_rfl⟩
instance : TOne Tryz.prog 71 := ⟨by kernel_rfl⟩
instance : TSz Tryz.prog 71 1 := ⟨by kernel_rfl⟩
instance : TZero Tryz.prog 71 [.nilFunc] := ⟨by kernel_rfl⟩
instance : TSz Tryz.prog 72 5 := ⟨by kernel_rfl⟩
instance : TAgg Tryz.prog 72 5 := ⟨by kernel_rfl⟩
instance : TFldT Tryz.prog 72 0 0 4 := ⟨by kernel_rfl⟩
instance : TFld Tryz.prog 72 0 0 := ⟨by kernel_rfl⟩
instance : TFldT Tryz.prog 72 1 1 5 := ⟨by kernel_rfl⟩
instance : TFld Tryz.prog 72 1 1 := ⟨by kernel_rfl⟩
instance : TFldT Tryz.prog 72 2 2 3 := ⟨by kernel_rfl⟩
instance : TFld Tryz.prog 72 2 2 := ⟨by kernel_rfl⟩
instance : TFldT Tryz.prog 72 3 3 22 := ⟨by kernel_rfl⟩
instance : TFld Tryz.prog 72 3 3 := ⟨by kernel_rfl⟩
instance : TFldT Tryz.prog 72 4 4 3 := ⟨by kernel_rfl⟩
instance : TFld Tryz.prog 72 4 4 := ⟨by kernel_rfl⟩
instance : TLay Tryz.prog 72 [(0, 1), (1, 1), (2, 1), (3, 1), (4, 1)] := ⟨by kernel_rfl⟩
instance : TEl Tryz.prog 72 5 32 := ⟨by kernel_rfl⟩
instance : TEq Tryz.prog 72 [.b, .i .u8, .i .i64, .i .u16, .i .i64] := ⟨by kernel_rfl⟩
instance : TZero Tryz.prog 72 [.bool false, .int .u8 0, .int .i64 0, .int .u16 0, .int .i64 0] := ⟨by kernel_rfl⟩
instance : TSz Tryz.prog 73 5 := ⟨by kernel_rfl⟩
instance : TAgg Tryz.prog 73 5 := ⟨by kernel_rfl⟩
instance : TFldT Tryz.prog 73 0 0 4 := ⟨by kernel_rfl⟩
instance : TFld Tryz.prog 73 0 0 := ⟨by kernel_rfl⟩
instance : TFldT Tryz.prog 73 1 1 5 := ⟨by kernel_rfl⟩
instance : TFld Tryz.prog 73 1 1 := ⟨by kernel_rfl⟩
instance : TFldT Tryz.prog 73 2 2 3 := ⟨by kernel_rfl⟩
instance : TFld Tryz.prog 73 2 2 := ⟨by kernel_rfl⟩
instance : TFldT Tryz.prog 73 3 3 22 := ⟨by kernel_rfl⟩
instance : TFld Tryz.prog 73 3 3 := ⟨by kernel_rfl⟩
instance : TFldT Tryz.prog 73 4 4 3 := ⟨by kernel_rfl⟩
instance : TFld Tryz.prog 73 4 4 := ⟨by kernel_rfl⟩
instance : TLay Tryz.prog 73 [(0, 1), (1, 1), (2, 1), (3, 1), (4, 1)] := ⟨by kernel_rfl⟩
instance : TEl Tryz.prog 73 5 32 := ⟨by kernel_rfl⟩
instance : TEq Tryz.prog 73 [.b, .i .u8, .i .i64, .i .u16, .i .i64] := ⟨by kernel_rfl⟩
instance : TZero Tryz.prog 73 [.bool false, .int .u8 0, .int .i64 0, .int .u16 0, .int .i64 0] := ⟨by kernel_rfl⟩
instance : TSz Tryz.prog 74 8 := ⟨by kernel_rfl⟩
instance : TAgg Tryz.prog 74 8 := ⟨by kernel_rfl⟩
instance : TFldT Tryz.prog 74 0 0 32 := ⟨by kernel_rfl⟩
instance : TFld Tryz.prog 74 0 0 := ⟨by kernel_rfl⟩
instance : TFldT Tryz.prog 74 1 1 73 := ⟨by kernel_rfl⟩
instance : TFld Tryz.prog 74 1 1 := ⟨by kernel_rfl⟩
instance : TFldT Tryz.prog 74 2 6 3 := ⟨by kernel_rfl⟩
instance : TFld Tryz.prog 74 2 6 := ⟨by kernel_rfl⟩
instance : TFldT Tryz.prog 74 3 7 3 := ⟨by kernel_rfl⟩
instance : TFld Tryz.prog 74 3 7 := ⟨by kernel_rfl⟩
instance : TLay Tryz.prog 74 [(0, 1), (1, 5), (6, 1), (7, 1)] := ⟨by kernel_rfl⟩
instance : TEl Tryz.prog 74 8 56 := ⟨by kernel_rfl⟩
instance : TEq Tryz.prog 74 [.i .u64, .b, .i .u8, .i .i64, .i .u16, .i .i64, .i .i64, .i .i64] := ⟨by kernel_rfl⟩
instance : TZero Tryz.prog 74 [.int .u64 0, .bool false, .int .u8 0, .int .i64 0, .int .u16 0, .int .i64 0, .int .i64 0, .int .i64 0] := ⟨by kernel_rfl⟩
instance : TSz Tryz.prog 75 8 := ⟨by kernel_rfl⟩
instance : TAgg Tryz.prog 75 8 := ⟨by kernel_rfl⟩
instance : TFldT Tryz.prog 75 0 0 32 := ⟨by kernel_rfl⟩
instance : TFld Tryz.prog 75 0 0 := ⟨by kernel_rfl⟩
instance : TFldT Tryz.prog 75 1 1 73 := ⟨by kernel_rfl⟩
instance : TFld Tryz.prog 75 1 1 := ⟨by kernel_rfl⟩
instance : TFldT Tryz.prog 75 2 6 3 := ⟨by kernel_rfl⟩
instance : TFld Tryz.prog 75 2 6 := ⟨by kernel_rfl⟩
instance : TFldT Tryz.prog 75 3 7 3 := ⟨by kernel_rfl⟩
instance : TFld Tryz.prog 75 3 7 := ⟨by kernel_rfl⟩
instance : TLay Tryz.prog 75 [(0, 1), (1, 5), (6, 1), (7, 1)] := ⟨by kernel_rfl⟩
instance : TEl Tryz.prog 75 8 56 := ⟨by kernel_rfl⟩
instance : TEq Tryz.prog 75 [.i .u64, .b, .i .u8, .i .i64, .i .u16, .i .i64, .i .i64, .i .i64] := ⟨by kernel_rfl⟩
instance : TZero Tryz.prog 75 [.int .u64 0, .bool false, .int .u8 0, .int .i64 0, .int .u16 0, .int .i64 0, .int .i64 0, .int .i64 0] := ⟨by kernel_rfl⟩
instance : TOne Tryz.prog 76 := ⟨by kernel_rfl⟩
instance : TSz Tryz.prog 76 1 := ⟨by kernel_rfl⟩
instance : TZero Tryz.prog 76 [.nilFunc] := ⟨by kernel_rfl⟩
instance : TOne Tryz.prog 77 := ⟨by kernel_rfl⟩
instance : TSz Tryz.prog 77 1 := ⟨by kernel_rfl⟩
instance : TZero Tryz.prog 77 [.nilFunc] := ⟨by kernel_rfl⟩
instance : TOne Tryz.prog 78 := ⟨by kernel_rfl⟩
instance : TSz Tryz.prog 78 1 := ⟨by kernel_rfl⟩
instance : TZero Tryz.prog 78 [.nilFunc] := ⟨by kernel_rfl⟩
instance : TOne Tryz.prog 79 := ⟨by kernel_rfl⟩
instance : TSz Tryz.prog 79 1 := ⟨by kernel_rfl⟩
instance : TZero Tryz.prog 79 [.nilFunc] := ⟨by kernel_rfl⟩
instance : TOne Tryz.prog 80 := ⟨by kernel_rfl⟩
instance : TSz Tryz.prog 80 1 := ⟨by kernel_rfl⟩
instance : TZero Tryz.prog 80 [.nilFunc] := ⟨by kernel_rfl⟩
instance : TOne Tryz.prog 81 := ⟨by kernel_rfl⟩
instance : TSz Tryz.prog 81 1 := ⟨by kernel_rfl⟩
instance : TZero Tryz.prog 81 [.nilFunc] := ⟨by kernel_rfl⟩
instance : TOne Tryz.prog 82 := ⟨by kernel_rfl⟩
instance : TSz Tryz.prog 82 1 := ⟨by kernel_rfl⟩
instance : TZero Tryz.prog 82 [.nilFunc] := ⟨by kernel_rfl⟩
instance : TOne Tryz.prog 83 := ⟨by kernel_rfl⟩
instance : TSz Tryz.prog 83 1 := ⟨by kernel_rfl⟩
instance : TZero Tryz.prog 83 [.nilFunc] := ⟨by kernel_rfl⟩
instance : TOne Tryz.prog 84 := ⟨by kernel_rfl⟩
instance : TSz Tryz.prog 84 1 := ⟨by kernel_rfl⟩
instance : TZero Tryz.prog 84 [.nilFunc] := ⟨by kernel_rfl⟩
instance : TOne Tryz.prog 85 := ⟨by kernel_rfl⟩
instance : TSz Tryz.prog 85 1 := ⟨by kernel_rfl⟩
instance : TZero Tryz.prog 85 [.nilFunc] := ⟨by kernel_rfl⟩
instance : TSz Tryz.prog 86 2 := ⟨by kernel_rfl⟩
instance : TAgg Tryz.prog 86 2 := ⟨by kernel_rfl⟩
instance : TFldT Tryz.prog 86 0 0 22 := ⟨by kernel_rfl⟩
instance : TFld Tryz.prog 86 0 0 := ⟨by kernel_rfl⟩
instance : TFldT Tryz.prog 86 1 1 3 := ⟨by kernel_rfl⟩
instance : TFld Tryz.prog 86 1 1 := ⟨by kernel_rfl⟩
instance : TLay Tryz.prog 86 [(0, 1), (1, 1)] := ⟨by kernel_rfl⟩
instance : TEl Tryz.prog 86 2 16 := ⟨by kernel_rfl⟩
instance : TEq Tryz.prog 86 [.i .u16, .i .i64] := ⟨by kernel_rfl⟩
instance : TZero Tryz.prog 86 [.int .u16 0, .int .i64 0] := ⟨by kernel_rfl⟩
instance : TSz Tryz.prog 87 2 := ⟨by kernel_rfl⟩
instance : TAgg Tryz.prog 87 2 := ⟨by kernel_rfl⟩
instance : TFldT Tryz.prog 87 0 0 22 := ⟨by kernel_rfl⟩
instance : TFld Tryz.prog 87 0 0 := ⟨by kernel_rfl⟩
instance : TFldT Tryz.prog 87 1 1 3 := ⟨by kernel_rfl⟩
instance : TFld Tryz.prog 87 1 1 := ⟨by kernel_rfl⟩
instance : TLay Tryz.prog 87 [(0, 1), (1, 1)] := ⟨by kernel_rfl⟩
instance : TEl Tryz.prog 87 2 16 := ⟨by kernel_rfl⟩
instance : TEq Tryz.prog 87 [.i .u16, .i .i64] := ⟨by kernel_rfl⟩
instance : TZero Tryz.prog 87 [.int .u16 0, .int .i64 0] := ⟨by kernel_rfl⟩
instance : TSz Tryz.prog 88 39 := ⟨by kernel_rfl⟩
instance : TAgg Tryz.prog 88 39 := ⟨by kernel_rfl⟩
instance : TFldT Tryz.prog 88 0 0 34 := ⟨by kernel_rfl⟩
instance : TFld Tryz.prog 88 0 0 := ⟨by kernel_rfl⟩
instance : TFldT Tryz.prog 88 1 35 32 := ⟨by kernel_rfl⟩
instance : TFld Tryz.prog 88 1 35 := ⟨by kernel_rfl⟩
instance : TFldT Tryz.prog 88 2 36 87 := ⟨by kernel_rfl⟩
instance : TFld Tryz.prog 88 2 36 := ⟨by kernel_rfl⟩
instance : TFldT Tryz.prog 88 3 38 3 := ⟨by kernel_rfl⟩
instance : TFld Tryz.prog 88 3 38 := ⟨by kernel_rfl⟩
instance : TLay Tryz.prog 88 [(0, 35), (35, 1), (36, 2), (38, 1)] := ⟨by kernel_rfl⟩
instance : TEl Tryz.prog 88 39 88 := ⟨by kernel_rfl⟩
instance : TEq Tryz.prog 88 [.i .u8, .i .u8, .i .u8, .i .u8, .i .u8, .i .u8, .i .u8, .i .u8, .i .u8, .i .u8, .i .u8, .i .u8, .i .u8, .i .u8, .i .u8, .i .u8, .i .i64, .i .u8, .i .u8, .i .u8, .i .u8, .i .u8, .i .u8, .i .u8, .i .u8, .i .u8, .i .u8, .i .u8, .i .u8, .i .u8, .i .u8, .i .u8, .i .u8, .i .i64, .i .u64, .i .u64, .i .u16, .i .i64, .i .i64] := ⟨by kernel_rfl⟩
instance : TZero Tryz.prog 88 [.int .u8 0, .int .u8 0, .int .u8 0, .int .u8 0, .int .u8 0, .int .u8 0, .int .u8 0, .int .u8 0, .int .u8 0, .int .u8 0, .int .u8 0, .int .u8 0, .int .u8 0, .int .u8 0, .int .u8 0, .int .u8 0, .int .i64 0, .int .u8 0, .int .u8 0, .int .u8 0, .int .u8 0, .int .u8 0, .int .u8 0, .int .u8 0, .int .u8 0, .int .u8 0, .int .u8 0, .int .u8 0, .int .u8 0, .int .u8 0, .int .u8 0, .int .u8 0, .int .u8 0, .int .i64 0, .int .u64 0, .int .u64 0, .int .u16 0, .int .i64 0, .int .i64 0] := ⟨by kernel_rfl⟩
instance : TSz Tryz.prog 89 39 := ⟨by kernel_rfl⟩
instance : TAgg Tryz.prog 89 39 := ⟨by kernel_rfl⟩
instance : TFldT Tryz.prog 89 0 0 34 := ⟨by kernel_rfl⟩
instance : TFld Tryz.prog 89 0 0 := ⟨by kernel_rfl⟩
instance : TFldT Tryz.prog 89 1 35 32 := ⟨by kernel_rfl⟩
instance : TFld Tryz.prog 89 1 35 := ⟨by kernel_rfl⟩
instance : TFldT Tryz.prog 89 2 36 87 := ⟨by kernel_rfl⟩
instance : TFld Tryz.prog 89 2 36 := ⟨by kernel_rfl⟩
instance : TFldT Tryz.prog 89 3 38 3 := ⟨by kernel_rfl⟩
instance : TFld Tryz.prog 89 3 38 := ⟨by kernel_rfl⟩
instance : TLay Tryz.prog 89 [(0, 35), (35, 1), (36, 2), (38, 1)] := ⟨by kernel_rfl⟩
instance : TEl Tryz.prog 89 39 88 := ⟨by kernel_rfl⟩
instance : TEq Tryz.prog 89 [.i .u8, .i .u8, .i .u8, .i .u8, .i .u8, .i .u8, .i .u8, .i .u8, .i .u8, .i .u8, .i .u8, .i .u8, .i .u8, .i .u8, .i .u8, .i .u8, .i .i64, .i .u8, .i .u8, .i .u8, .i .u8, .i .u8, .i .u8, .i .u8, .i .u8, .i .u8, .i .u8, .i .u8, .i .u8, .i .u8, .i .u8, .i .u8, .i .u8, .i .i64, .i .u64, .i .u64, .i .u16, .i .i64, .i .i64] := ⟨by kernel_rfl⟩
instance : TZero Tryz.prog 89 [.int .u8 0, .int .u8 0, .int .u8 0, .int .u8 0, .int .u8 0, .int .u8 0, .int .u8 0, .int .u8 0, .int .u8 0, .int .u8 0, .int .u8 0, .int .u8 0, .int .u8 0, .int .u8 0, .int .u8 0, .int .u8 0, .int .i64 0, .int .u8 0, .int .u8 0, .int .u8 0, .int .u8 0, .int .u8 0, .int .u8 0, .int .u8 0, .int .u8 0, .int .u8 0, .int .u8 0, .int .u8 0, .int .u8 0, .int .u8 0, .int .u8 0, .int .u8 0, .int .u8 0, .int .i64 0, .int .u64 0, .int .u64 0, .int .u16 0, .int .i64 0, .int .i64 0] := ⟨by kernel_rfl⟩
instance : TOne Tryz.prog 90 := ⟨by kernel_rfl⟩
instance : TSz Tryz.prog 90 1 := ⟨by kernel_rfl⟩
instance : TZero Tryz.prog 90 [.nilFunc] := ⟨by kernel_rfl⟩
instance : TOne Tryz.prog 91 := ⟨by kernel_rfl⟩
instance : TSz Tryz.prog 91 1 := ⟨by kernel_rfl⟩
instance : TZero Tryz.prog 91 [.nilFunc] := ⟨by kernel_rfl⟩
instance : TSz Tryz.prog 92 40 := ⟨by kernel_rfl⟩
instance : TAgg Tryz.prog 92 40 := ⟨by kernel_rfl⟩
instance : TFldT Tryz.prog 92 0 0 34 := ⟨by kernel_rfl⟩
instance : TFld Tryz.prog 92 0 0 := ⟨by kernel_rfl⟩
instance : TFldT Tryz.prog 92 1 35 32 := ⟨by kernel_rfl⟩
instance : TFld Tryz.prog 92 1 35 := ⟨by kernel_rfl⟩
instance : TFldT Tryz.prog 92 2 36 87 := ⟨by kernel_rfl⟩
instance : TFld Tryz.prog 92 2 36 := ⟨by kernel_rfl⟩
instance : TFldT Tryz.prog 92 3 38 3 := ⟨by kernel_rfl⟩
instance : TFld Tryz.prog 92 3 38 := ⟨by kernel_rfl⟩
instance : TFldT Tryz.prog 92 4 39 3 := ⟨by kernel_rfl⟩
instance : TFld Tryz.prog 92 4 39 := ⟨by kernel_rfl⟩
instance : TLay Tryz.prog 92 [(0, 35), (35, 1), (36, 2), (38, 1), (39, 1)] := ⟨by kernel_rfl⟩
instance : TEl Tryz.prog 92 40 96 := ⟨by kernel_rfl⟩
instance : TEq Tryz.prog 92 [.i .u8, .i .u8, .i .u8, .i .u8, .i .u8, .i .u8, .i .u8, .i .u8, .i .u8, .i .u8, .i .u8, .i .u8, .i .u8, .i .u8, .i .u8, .i .u8, .i .i64, .i .u8, .i .u8, .i .u8, .i .u8, .i .u8, .i .u8, .i .u8, .i .u8, .i .u8, .i .u8, .i .u8, .i .u8, .i .u8, .i .u8, .i .u8, .i .u8, .i .i64, .i .u64, .i .u64, .i .u16, .i .i64, .i .i64, .i .i64] := ⟨by kernel_rfl⟩
instance : TZero Tryz.prog 92 [.int .u8 0, .int .u8 0, .int .u8 0, .int .u8 0, .int .u8 0, .int .u8 0, .int .u8 0, .int .u8 0, .int .u8 0, .int .u8 0, .int .u8 0, .int .u8 0, .int .u8 0, .int .u8 0, .int .u8 0, .int .u8 0, .int .i64 0, .int .u8 0, .int .u8 0, .int .u8 0, .int .u8 0, .int .u8 0, .int .u8 0, .int .u8 0, .int .u8 0, .int .u8 0, .int .u8 0, .int .u8 0, .int .u8 0, .int .u8 0, .int .u8 0, .int .u8 0, .int .u8 0, .int .i64 0, .int .u64 0, .int .u64 0, .int .u16 0, .int .i64 0, .int .i64 0, .int .i64 0] := ⟨by kernel_rfl⟩
instance : TSz Tryz.prog 93 40 := ⟨by kernel_rfl⟩
instance : TAgg Tryz.prog 93 40 := ⟨by kernel_rfl⟩
instance : TFldT Tryz.prog 93 0 0 34 := ⟨by kernel_rfl⟩
instance : TFld Tryz.prog 93 0 0 := ⟨by kernel_rfl⟩
instance : TFldT Tryz.prog 93 1 35 32 := ⟨by kernel_rfl⟩
instance : TFld Tryz.prog 93 1 35 := ⟨by kernel_rfl⟩
instance : TFldT Tryz.prog 93 2 36 87 := ⟨by kernel_rfl⟩
instance : TFld Tryz.prog 93 2 36 := ⟨by kernel_rfl⟩
instance : TFldT Tryz.prog 93 3 38 3 := ⟨by kernel_rfl⟩
instance : TFld Tryz.prog 93 3 38 := ⟨by kernel_rfl⟩
instance : TFldT Tryz.prog 93 4 39 3 := ⟨by kernel_rfl⟩
instance : TFld Tryz.prog 93 4 39 := ⟨by kernel_rfl⟩
instance : TLay Tryz.prog 93 [(0, 35), (35, 1), (36, 2), (38, 1), (39, 1)] := ⟨by kernel_rfl⟩
instance : TEl Tryz.prog 93 40 96 := ⟨by kernel_rfl⟩
instance : TEq Tryz.prog 93 [.i .u8, .i .u8, .i .u8, .i .u8, .i .u8, .i .u8, .i .u8, .i .u8, .i .u8, .i .u8, .i .u8, .i .u8, .i .u8, .i .u8, .i .u8, .i .u8, .i .i64, .i .u8, .i .u8, .i .u8, .i .u8, .i .u8, .i .u8, .i .u8, .i .u8, .i .u8, .i .u8, .i .u8, .i .u8, .i .u8, .i .u8, .i .u8, .i .u8, .i .i64, .i .u64, .i .u64, .i .u16, .i .i64, .i .i64, .i .i64] := ⟨by kernel_rfl⟩
instance : TZero Tryz.prog 93 [.int .u8 0, .int .u8 0, .int .u8 0, .int .u8 0, .int .u8 0, .int .u8 0, .int .u8 0, .int .u8 0, .int .u8 0, .int .u8 0, .int .u8 0, .int .u8 0, .int .u8 0, .int .u8 0, .int .u8 0, .int .u8 0, .int .i64 0, .int .u8 0, .int .u8 0, .int .u8 0, .int .u8 0, .int .u8 0, .int .u8 0, .int .u8 0, .int .u8 0, .int .u8 0, .int .u8 0, .int .u8 0, .int .u8 0, .int .u8 0, .int .u8 0, .int .u8 0, .int .u8 0, .int .i64 0, .int .u64 0, .int .u64 0, .int .u16 0, .int .i64 0, .int .i64 0, .int .i64 0] := ⟨by kernel_rfl⟩
instance : TOne Tryz.prog 94 := ⟨by kernel_rfl⟩
instance : TSz Tryz.prog 94 1 := ⟨by kernel_rfl⟩
instance : TZero Tryz.prog 94 [.nilFunc] := ⟨by kernel_rfl⟩
instance : TOne Tryz.prog 95 := ⟨by kernel_rfl⟩
instance : TSz Tryz.prog 95 1 := ⟨by kernel_rfl⟩
instance : TZero Tryz.prog 95 [.nilFunc] := ⟨by kernel_rfl⟩
instance : TOne Tryz.prog 96 := ⟨by kernel_rfl⟩
instance : TSz Tryz.prog 96 1 := ⟨by kernel_rfl⟩
instance : TZero Tryz.prog 96 [.nilFunc] := ⟨by kernel_rfl⟩
instance : TOne Tryz.prog 97 := ⟨by kernel_rfl⟩
instance : TSz Tryz.prog 97 1 := ⟨by kernel_rfl⟩
instance : TZero Tryz.prog 97 [.nilFunc] := ⟨by kernel_rfl⟩
instance : TOne Tryz.prog 98 := ⟨by kernel_rfl⟩
instance : TSz Tryz.prog 98 1 := ⟨by kernel_rfl⟩
instance : TZero Tryz.prog 98 [.nilFunc] := ⟨by kernel_rfl⟩
instance : TSz Tryz.prog 99 38 := ⟨by kernel_rfl⟩
instance : TAgg Tryz.prog 99 38 := ⟨by kernel_rfl⟩
instance : TFldT Tryz.prog 99 0 0 34 := ⟨by kernel_rfl⟩
instance : TFld Tryz.prog 99 0 0 := ⟨by kernel_rfl⟩
instance : TFldT Tryz.prog 99 1 35 87 := ⟨by kernel_rfl⟩
instance : TFld Tryz.prog 99 1 35 := ⟨by kernel_rfl⟩
instance : TFldT Tryz.prog 99 2 37 3 := ⟨by kernel_rfl⟩
instance : TFld Tryz.prog 99 2 37 := ⟨by kernel_rfl⟩
instance : TLay Tryz.prog 99 [(0, 35), (35, 2), (37, 1)] := ⟨by kernel_rfl⟩
instance : TEl Tryz.prog 99 38 80 := ⟨by kernel_rfl⟩
instance : TEq Tryz.prog 99 [.i .u8, .i .u8, .i .u8, .i .u8, .i .u8, .i .u8, .i .u8, .i .u8, .i .u8, .i .u8, .i .u8, .i .u8, .i .u8, .i .u8, .i .u8, .i .u8, .i .i64, .i .u8, .i .u8, .i .u8, .i .u8, .i .u8, .i .u8, .i .u8, .i .u8, .i .u8, .i .u8, .i .u8, .i .u8, .i .u8, .i .u8, .i .u8, .i .u8, .i .i64, .i .u64, .i .u16, .i .i64, .i .i64] := ⟨by kernel_rfl⟩
instance : TZero Tryz.prog 99 [.int .u8 0, .int .u8 0, .int .u8 0, .int .u8 0, .int .u8 0, .int .u8 0, .int .u8 0, .int .u8 0, .int .u8 0, .int .u8 0, .int .u8 0, .int .u8 0, .int .u8 0, .int .u8 0, .int .u8 0, .int .u8 0, .int .i64 0, .int .u8 0, .int .u8 0, .int .u8 0, .int .u8 0, .int .u8 0, .int .u8 0, .int .u8 0, .int .u8 0, .int .u8 0, .int .u8 0, .int .u8 0, .int .u8 0, .int .u8 0, .int .u8 0, .int .u8 0, .int .u8 0, .int .i64 0, .int .u64 0, .int .u16 0, .int .i64 0, .int .i64 0] := ⟨by kernel_rfl⟩
instance : TSz Tryz.prog 100 38 := ⟨by kernel_rfl⟩
instance : TAgg Tryz.prog 100 38 := ⟨by kernel_rfl⟩
instance : TFldT Tryz.prog 100 0 0 34 := ⟨by kernel_rfl⟩
instance : TFld Tryz.prog 100 0 0 := ⟨by kernel_rfl⟩
instance : TFldT Tryz.prog 100 1 35 87 := ⟨by kernel_rfl⟩
instance : TFld Tryz.prog 100 1 35 := ⟨by kernel_rfl⟩
instance : TFldT Tryz.prog 100 2 37 3 := ⟨by kernel_rfl⟩
instance : TFld Tryz.prog 100 2 37 := ⟨by kernel_rfl⟩
instance : TLay Tryz.prog 100 [(0, 35), (35, 2), (37, 1)] := ⟨by kernel_rfl⟩
instance : TEl Tryz.prog 100 38 80 := ⟨by kernel_rfl⟩
instance : TEq Tryz.prog 100 [.i .u8, .i .u8, .i .u8, .i .u8, .i .u8, .i .u8, .i .u8, .i .u8, .i .u8, .i .u8, .i .u8, .i .u8, .i .u8, .i .u8, .i .u8, .i .u8, .i .i64, .i .u8, .i .u8, .i .u8, .i .u8, .i .u8, .i .u8, .i .u8, .i .u8, .i .u8, .i .u8, .i .u8, .i .u8, .i .u8, .i .u8, .i .u8, .i .u8, .i .i64, .i .u64, .i .u16, .i .i64, .i .i64] := ⟨by kernel_rfl⟩
instance : TZero Tryz.prog 100 [.int .u8 0, .int .u8 0, .int .u8 0, .int .u8 0, .int .u8 0, .int .u8 0, .int .u8 0, .int .u8 0, .int .u8 0, .int .u8 0, .int .u8 0, .int .u8 0, .int .u8 0, .int .u8 0, .int .u8 0, .int .u8 0, .int .i64 0, .int .u8 0, .int .u8 0, .int .u8 0, .int .u8 0, .int .u8 0, .int .u8 0, .int .u8 0, .int .u8 0, .int .u8 0, .int .u8 0, .int .u8 0, .int .u8 0, .int .u8 0, .int .u8 0, .int .u8 0, .int .u8 0, .int .i64 0, .int .u64 0, .int .u16 0, .int .i64 0, .int .i64 0] := ⟨by kernel_rfl⟩
instance : TOne Tryz.prog 101 := ⟨by kernel_rfl⟩
instance : TSz Tryz.prog 101 1 := ⟨by kernel_rfl⟩
instance : TZero Tryz.prog 101 [.nilFunc] := ⟨by kernel_rfl⟩
instance : TOne Tryz.prog 102 := ⟨by kernel_rfl⟩
instance : TSz Tryz.prog 102 1 := ⟨by kernel_rfl⟩
instance : TZero Tryz.prog 102 [.nilFunc] := ⟨by kernel_rfl⟩
instance : TOne Tryz.prog 103 := ⟨by kernel_rfl⟩
instance : TSz Tryz.prog 103 1 := ⟨by kernel_rfl⟩
instance : TZero Tryz.prog 103 [.nilFunc] := ⟨by kernel_rfl⟩
instance : TSz Tryz.prog 104 40 := ⟨by kernel_rfl⟩
instance : TAgg Tryz.prog 104 40 := ⟨by kernel_rfl⟩
instance : TFldT Tryz.prog 104 0 0 34 := ⟨by kernel_rfl⟩
instance : TFld Tryz.prog 104 0 0 := ⟨by kernel_rfl⟩
instance : TFldT Tryz.prog 104 1 35 22 := ⟨by kernel_rfl⟩
instance : TFld Tryz.prog 104 1 35 := ⟨by kernel_rfl⟩
instance : TFldT Tryz.prog 104 2 36 3 := ⟨by kernel_rfl⟩
instance : TFld Tryz.prog 104 2 36 := ⟨by kernel_rfl⟩
instance : TFldT Tryz.prog 104 3 37 32 := ⟨by kernel_rfl⟩
instance : TFld Tryz.prog 104 3 37 := ⟨by kernel_rfl⟩
instance : TFldT Tryz.prog 104 4 38 3 := ⟨by kernel_rfl⟩
instance : TFld Tryz.prog 104 4 38 := ⟨by kernel_rfl⟩
instance : TFldT Tryz.prog 104 5 39 3 := ⟨by kernel_rfl⟩
instance : TFld Tryz.prog 104 5 39 := ⟨by kernel_rfl⟩
instance : TLay Tryz.prog 104 [(0, 35), (35, 1), (36, 1), (37, 1), (38, 1), (39, 1)] := ⟨by kernel_rfl⟩
instance : TEl Tryz.prog 104 40 96 := ⟨by kernel_rfl⟩
instance : TEq Tryz.prog 104 [.i .u8, .i .u8, .i .u8, .i .u8, .i .u8, .i .u8, .i .u8, .i .u8, .i .u8, .i .u8, .i .u8, .i .u8, .i .u8, .i .u8, .i .u8, .i .u8, .i .i64, .i .u8, .i .u8, .i .u8, .i .u8, .i .u8, .i .u8, .i .u8, .i .u8, .i .u8, .i .u8, .i .u8, .i .u8, .i .u8, .i .u8, .i .u8, .i .u8, .i .i64, .i .u64, .i .u16, .i .i64, .i .u64, .i .i64, .i .i64] := ⟨by kernel_rfl⟩
instance : TZero Tryz.prog 104 [.int .u8 0, .int .u8 0, .int .u8 0, .int .u8 0, .int .u8 0, .int .u8 0, .int .u8 0, .int .u8 0, .int .u8 0, .int .u8 0, .int .u8 0, .int .u8 0, .int .u8 0, .int .u8 0, .int .u8 0, .int .u8 0, .int .i64 0, .int .u8 0, .int .u8 0, .int .u8 0, .int .u8 0, .int .u8 0, .int .u8 0, .int .u8 0, .int .u8 0, .int .u8 0, .int .u8 0, .int .u8 0, .int .u8 0, .int .u8 0, .int .u8 0, .int .u8 0, .int .u8 0, .int .i64 0, .int .u64 0, .int .u16 0, .int .i64 0, .int .u64 0, .int .i64 0, .int .i64 0] := ⟨by kernel_rfl⟩
instance : TSz Tryz.prog 105 40 := ⟨by kernel_rfl⟩
instance : TAgg Tryz.prog 105 40 := ⟨by kernel_rfl⟩
instance : TFldT Tryz.prog 105 0 0 34 := ⟨by kernel_rfl⟩
instance : TFld Tryz.prog 105 0 0 := ⟨by kernel_rfl⟩
instance : TFldT Tryz.prog 105 1 35 22 := ⟨by kernel_rfl⟩
instance : TFld Tryz.prog 105 1 35 := ⟨by kernel_rfl⟩
instance : TFldT Tryz.prog 105 2 36 3 := ⟨by kernel_rfl⟩
instance : TFld Tryz.prog 105 2 36 := ⟨by kernel_rfl⟩
instance : TFldT Tryz.prog 105 3 37 32 := ⟨by kernel_rfl⟩
instance : TFld Tryz.prog 105 3 37 := ⟨by kernel_rfl⟩
instance : TFldT Tryz.prog 105 4 38 3 := ⟨by kernel_rfl⟩
instance : TFld Tryz.prog 105 4 38 := ⟨by kernel_rfl⟩
instance : TFldT Tryz.prog 105 5 39 3 := ⟨by kernel_rfl⟩
instance : TFld Tryz.prog 105 5 39 := ⟨by kernel_rfl⟩
instance : TLay Tryz.prog 105 [(0, 35), (35, 1), (36, 1), (37, 1), (38, 1), (39, 1)] := ⟨by kernel_rfl⟩
instance : TEl Tryz.prog 105 40 96 := ⟨by kernel_rfl⟩
instance : TEq Tryz.prog 105 [.i .u8, .i .u8, .i .u8, .i .u8, .i .u8, .i .u8, .i .u8, .i .u8, .i .u8, .i .u8, .i .u8, .i .u8, .i .u8, .i .u8, .i .u8, .i .u8, .i .i64, .i .u8, .i .u8, .i .u8, .i .u8, .i .u8, .i .u8, .i .u8, .i .u8, .i .u8, .i .u8, .i .u8, .i .u8, .i .u8, .i .u8, .i .u8, .i .u8, .i .i64, .i .u64, .i .u16, .i .i64, .i .u64, .i .i64, .i .i64] := ⟨by kernel_rfl⟩
instance : TZero Tryz.prog 105 [.int .u8 0, .int .u8 0, .int .u8 0, .int .u8 0, .int .u8 0, .int .u8 0, .int .u8 0, .int .u8 0, .int .u8 0, .int .u8 0, .int .u8 0, .int .u8 0, .int .u8 0, .int .u8 0, .int .u8 0, .int .u8 0, .int .i64 0, .int .u8 0, .int .u8 0, .int .u8 0, .int .u8 0, .int .u8 0, .int .u8 0, .int .u8 0, .int .u8 0, .int .u8 0, .int .u8 0, .int .u8 0, .int .u8 0, .int .u8 0, .int .u8 0, .int .u8 0, .int .u8 0, .int .i64 0, .int .u64 0, .int .u16 0, .int .i64 0, .int .u64 0, .int .i64 0, .int .i64 0] := ⟨by kernel_rfl⟩
instance : TOne Tryz.prog 106 := ⟨by kernel_rfl⟩
instance : TSz Tryz.prog 106 1 := ⟨by kernel_rfl⟩
instance : TZero Tryz.prog 106 [.nilFunc] := ⟨by kernel_rfl⟩
instance : TSz Tryz.prog 107 37 := ⟨by kernel_rfl⟩
instance : TAgg Tryz.prog 107 37 := ⟨by kernel_rfl⟩
instance : TFldT Tryz.prog 107 0 0 34 := ⟨by kernel_rfl⟩
instance : TFld Tryz.prog 107 0 0 := ⟨by kernel_rfl⟩
instance : TFldT Tryz.prog 107 1 35 87 := ⟨by kernel_rfl⟩
instance : TFld Tryz.prog 107 1 35 := ⟨by kernel_rfl⟩
instance : TLay Tryz.prog 107 [(0, 35), (35, 2)] := ⟨by kernel_rfl⟩
instance : TEl Tryz.prog 107 37 72 := ⟨by kernel_rfl⟩
instance : TEq Tryz.prog 107 [.i .u8, .i .u8, .i .u8, .i .u8, .i .u8, .i .u8, .i .u8, .i .u8, .i .u8, .i .u8, .i .u8, .i .u8, .i .u8, .i .u8, .i .u8, .i .u8, .i .i64, .i .u8, .i .u8, .i .u8, .i .u8, .i .u8, .i .u8, .i .u8, .i .u8, .i .u8, .i .u8, .i .u8, .i .u8, .i .u8, .i .u8, .i .u8, .i .u8, .i .i64, .i .u64, .i .u16, .i .i64] := ⟨by kernel_rfl⟩
instance : TZero Tryz.prog 107 [.int .u8 0, .int .u8 0, .int .u8 0, .int .u8 0, .int .u8 0, .int .u8 0, .int .u8 0, .int .u8 0, .int .u8 0, .int .u8 0, .int .u8 0, .int .u8 0, .int .u8 0, .int .u8 0, .int .u8 0, .int .u8 0, .int .i64 0, .int .u8 0, .int .u8 0, .int .u8 0, .int .u8 0, .int .u8 0, .int .u8 0, .int .u8 0, .int .u8 0, .int .u8 0, .int .u8 0, .int .u8 0, .int .u8 0, .int .u8 0, .int .u8 0, .int .u8 0, .int .u8 0, .int .i64 0, .int .u64 0, .int .u16 0, .int .i64 0] := ⟨by kernel_rfl⟩
instance : TSz Tryz.prog 108 37 := ⟨by kernel_rfl⟩
instance : TAgg Tryz.prog 108 37 := ⟨by kernel_rfl⟩
instance : TFldT Tryz.prog 108 0 0 34 := ⟨by kernel_rfl⟩
instance : TFld Tryz.prog 108 0 0 := ⟨by kernel_rfl⟩
instance : TFldT Tryz.prog 108 1 35 87 := ⟨by kernel_rfl⟩
instance : TFld Tryz.prog 108 1 35 := ⟨by kernel_rfl⟩
instance : TLay Tryz.prog 108 [(0, 35), (35, 2)] := ⟨by kernel_rfl⟩
instance : TEl Tryz.prog 108 37 72 := ⟨by kernel_rfl⟩
instance : TEq Tryz.prog 108 [.i .u8, .i .u8, .i .u8, .i .u8, .i .u8, .i .u8, .i .u8, .i .u8, .i .u8, .i .u8, .i .u8, .i .u8, .i .u8, .i .u8, .i .u8, .i .u8, .i .i64, .i .u8, .i .u8, .i .u8, .i .u8, .i .u8, .i .u8, .i .u8, .i .u8, .i .u8, .i .u8, .i .u8, .i .u8, .i .u8, .i .u8, .i .u8, .i .u8, .i .i64, .i .u64, .i .u16, .i .i64] := ⟨by kernel_rfl⟩
instance : TZero Tryz.prog 108 [.int .u8 0, .int .u8 0, .int .u8 0, .int .u8 0, .int .u8 0, .int .u8 0, .int .u8 0, .int .u8 0, .int .u8 0, .int .u8 0, .int .u8 0, .int .u8 0, .int .u8 0, .int .u8 0, .int .u8 0, .int .u8 0, .int .i64 0, .int .u8 0, .int .u8 0, .int .u8 0, .int .u8 0, .int .u8 0, .int .u8 0, .int .u8 0, .int .u8 0, .int .u8 0, .int .u8 0, .int .u8 0, .int .u8 0, .int .u8 0, .int .u8 0, .int .u8 0, .int .u8 0, .int .i64 0, .int .u64 0, .int .u16 0, .int .i64 0] := ⟨by kernel_rfl⟩
instance : TOne Tryz.prog 109 := ⟨by kernel_rfl⟩
instance : TSz Tryz.prog 109 1 := ⟨by kernel_rfl⟩
instance : TZero Tryz.prog 109 [.nilFunc] := ⟨by kernel_rfl⟩
instance : TU Tryz.prog 110 (TypeDesc.pointer 45) := ⟨Tryz.underlying110⟩
instance : TSz Tryz.prog 110 1 := ⟨by kernel_rfl⟩
instance : TOne Tryz.prog 110 := ⟨by kernel_rfl⟩
instance : TEl Tryz.prog 110 1 8 := ⟨by kernel_rfl⟩
instance : TZero Tryz.prog 110 [.pointer none] := ⟨by kernel_rfl⟩
instance : TOne Tryz.prog 111 := ⟨by kernel_rfl⟩
instance : TSz Tryz.prog 111 1 := ⟨by kernel_rfl⟩
instance : TZero Tryz.prog 111 [.nilFunc] := ⟨by kernel_rfl⟩
instance : TOne Tryz.prog 112 := ⟨by kernel_rfl⟩
instance : TSz Tryz.prog 112 1 := ⟨by kernel_rfl⟩
instance : TZero Tryz.prog 112 [.nilFunc] := ⟨by kernel_rfl⟩
instance : TOne Tryz.prog 114 := ⟨by kernel_rfl⟩
instance : TSz Tryz.prog 114 1 := ⟨by kernel_rfl⟩
instance : TZero Tryz.prog 114 [.nilFunc] := ⟨by kernel_rfl⟩
instance : TU Tryz.prog 115 (TypeDesc.slice 161) := ⟨Tryz.underlying115⟩
instance : TSz Tryz.prog 115 1 := ⟨by kernel_rfl⟩
instance : TOne Tryz.prog 115 := ⟨by kernel_rfl⟩
instance : TEl Tryz.prog 115 1 24 := ⟨by kernel_rfl⟩
instance : TNI Tryz.prog 115 := ⟨by kernel_rfl⟩
instance : TZero Tryz.prog 115 [.slice none 0 0] := ⟨by kernel_rfl⟩
instance : TOne Tryz.prog 116 := ⟨by kernel_rfl⟩
instance : TSz Tryz.prog 116 1 := ⟨by kernel_rfl⟩
instance : TZero Tryz.prog 116 [.nilFunc] := ⟨by kernel_rfl⟩
instance : TOne Tryz.prog 117 := ⟨by kernel_rfl⟩
instance : TSz Tryz.prog 117 1 := ⟨by kernel_rfl⟩
instance : TZero Tryz.prog 117 [.nilFunc] := ⟨by kernel_rfl⟩
instance : TU Tryz.prog 118 (TypeDesc.slice 34) := ⟨Tryz.underlying118⟩
instance : TSz Tryz.prog 118 1 := ⟨by kernel_rfl⟩
instance : TOne Tryz.prog 118 := ⟨by kernel_rfl⟩
instance : TEl Tryz.prog 118 1 24 := ⟨by kernel_rfl⟩
instance : TNI Tryz.prog 118 := ⟨by kernel_rfl⟩
instance : TZero Tryz.prog 118 [.slice none 0 0] := ⟨by kernel_rfl⟩
instance : TOne Tryz.prog 119 := ⟨by kernel_rfl⟩
instance : TSz Tryz.prog 119 1 := ⟨by kernel_rfl⟩
instance : TZero Tryz.prog 119 [.nilFunc] := ⟨by kernel_rfl⟩
instance : TOne Tryz.prog 121 := ⟨by kernel_rfl⟩
instance : TSz Tryz.prog 121 1 := ⟨by kernel_rfl⟩
instance : TZero Tryz.prog 121 [.nilFunc] := ⟨by kernel_rfl⟩
instance : TOne Tryz.prog 123 := ⟨by kernel_rfl⟩
instance : TSz Tryz.prog 123 1 := ⟨by kernel_rfl⟩
instance : TZero Tryz.prog 123 [.nilFunc] := ⟨by kernel_rfl⟩
instance : TOne Tryz.prog 124 := ⟨by kernel_rfl⟩
instance : TSz Tryz.prog 124 1 := ⟨by kernel_rfl⟩
instance : TZero Tryz.prog 124 [.nilFunc] := ⟨by kernel_rfl⟩
instance : TOne Tryz.prog 125 := ⟨by kernel_rfl⟩
instance : TSz Tryz.prog 125 1 := ⟨by kernel_rfl⟩
instance : TZero Tryz.prog 125 [.nilFunc] := ⟨by kernel_rfl⟩
instance : TOne Tryz.prog 126 := ⟨by kernel_rfl⟩
instance : TSz Tryz.prog 126 1 := ⟨by kernel_rfl⟩
instance : TZero Tryz.prog 126 [.nilFunc] := ⟨by kernel_rfl⟩
instance : TOne Tryz.prog 127 := ⟨by kernel_rfl⟩
instance : TSz Tryz.prog 127 1 := ⟨by kernel_rfl⟩
instance : TZero Tryz.prog 127 [.nilFunc] := ⟨by kernel_rfl⟩
instance : TOne Tryz.prog 128 := ⟨by kernel_rfl⟩
instance : TSz Tryz.prog 128 1 := ⟨by kernel_rfl⟩
instance : TZero Tryz.prog 128 [.nilFunc] := ⟨by kernel_rfl⟩
instance : TOne Tryz.prog 129 := ⟨by kernel_rfl⟩
instance : TSz Tryz.prog 129 1 := ⟨by kernel_rfl⟩
instance : TZero Tryz.prog 129 [.nilFunc] := ⟨by kernel_rfl⟩
instance : TOne Tryz.prog 130 := ⟨by kernel_rfl⟩
instance : TSz Tryz.prog 130 1 := ⟨by kernel_rfl⟩
instance : TZero Tryz.prog 130 [.nilFunc] := ⟨by kernel_rfl⟩
instance : TOne Tryz.prog 131 := ⟨by kernel_rfl⟩
instance : TSz Tryz.prog 131 1 := ⟨by kernel_rfl⟩
instance : TZero Tryz.prog 131 [.nilFunc] := ⟨by kernel_rfl⟩
instance : TOne Tryz.prog 132 := ⟨by kernel_rfl⟩
instance : TSz Tryz.prog 132 1 := ⟨by kernel_rfl⟩
instance : TZero Tryz.prog 132 [.nilFunc] := ⟨by kernel_rfl⟩
instance : TOne Tryz.prog 133 := ⟨by kernel_rfl⟩
instance : TSz Tryz.prog 133 1 := ⟨by kernel_rfl⟩
instance : TZero Tryz.prog 133 [.nilFunc] := ⟨by kernel_rfl⟩
instance : TOne Tryz.prog 134 := ⟨by kernel_rfl⟩
instance : TSz Tryz.prog 134 1 := ⟨by kernel_rfl⟩
instance : TZero Tryz.prog 134 [.nilFunc] := ⟨by kernel_rfl⟩
instance : TOne Tryz.prog 135 := ⟨by kernel_rfl⟩
instance : TSz Tryz.prog 135 1 := ⟨by kernel_rfl⟩
instance : TZero Tryz.prog 135 [.nilFunc] := ⟨by kernel_rfl⟩
instance : TOne Tryz.prog 137 := ⟨by kernel_rfl⟩
instance : TSz Tryz.prog 137 1 := ⟨by kernel_rfl⟩
instance : TZero Tryz.prog 137 [.nilFunc] := ⟨by kernel_rfl⟩
instance : TOne Tryz.prog 138 := ⟨by kernel_rfl⟩
instance : TSz Tryz.prog 138 1 := ⟨by kernel_rfl⟩
instance : TZero Tryz.prog 138 [.nilFunc] := ⟨by kernel_rfl⟩
instance : TU Tryz.prog 139 (TypeDesc.pointer 75) := ⟨Tryz.underlying139⟩
instance : TSz Tryz.prog 139 1 := ⟨by kernel_rfl⟩
instance : TOne Tryz.prog 139 := ⟨by kernel_rfl⟩
instance : TEl Tryz.prog 139 1 8 := ⟨by kernel_rfl⟩
instance : TZero Tryz.prog 139 [.pointer none] := ⟨by kernel_rfl⟩
instance : TOne Tryz.prog 140 := ⟨by kernel_rfl⟩
instance : TSz Tryz.prog 140 1 := ⟨by kernel_rfl⟩
instance : TZero Tryz.prog 140 [.nilFunc] := ⟨by kernel_rfl⟩
instance : TOne Tryz.prog 141 := ⟨by kernel_rfl⟩
instance : TSz Tryz.prog 141 1 := ⟨by kernel_rfl⟩
instance : TZero Tryz.prog 141 [.nilFunc] := ⟨by kernel_rfl⟩
instance : TOne Tryz.prog 143 := ⟨by kernel_rfl⟩
instance : TSz Tryz.prog 143 1 := ⟨by kernel_rfl⟩
instance : TZero Tryz.prog 143 [.nilFunc] := ⟨by kernel_rfl⟩
instance : TOne Tryz.prog 144 := ⟨by kernel_rfl⟩
instance : TSz Tryz.prog 144 1 := ⟨by kernel_rfl⟩
instance : TZero Tryz.prog 144 [.nilFunc] := ⟨by kernel_rfl⟩
instance : TOne Tryz.prog 145 := ⟨by kernel_rfl⟩
instance : TSz Tryz.prog 145 1 := ⟨by kernel_rfl⟩
instance : TZero Tryz.prog 145 [.nilFunc] := ⟨by kernel_rfl⟩
instance : TOne Tryz.prog 146 := ⟨by kernel_rfl⟩
instance : TSz Tryz.prog 146 1 := ⟨by kernel_rfl⟩
instance : TZero Tryz.prog 146 [.nilFunc] := ⟨by kernel_rfl⟩
instance : TOne Tryz.prog 147 := ⟨by kernel_rfl⟩
instance : TSz Tryz.prog 147 1 := ⟨by kernel_rfl⟩
instance : TZero Tryz.prog 147 [.nilFunc] := ⟨by kernel_rfl⟩
instance : TOne Tryz.prog 148 := ⟨by kernel_rfl⟩
instance : TSz Tryz.prog 148 1 := ⟨by kernel_rfl⟩
instance : TZero Tryz.prog 148 [.nilFunc] := ⟨by kernel_rfl⟩
instance : TOne Tryz.prog 149 := ⟨by kernel_rfl⟩
instance : TSz Tryz.prog 149 1 := ⟨by kernel_rfl⟩
instance : TZero Tryz.prog 149 [.nilFunc] := ⟨by kernel_rfl⟩
instance : TOne Tryz.prog 150 := ⟨by kernel_rfl⟩
instance : TSz Tryz.prog 150 1 := ⟨by kernel_rfl⟩
instance : TZero Tryz.prog 150 [.nilFunc] := ⟨by kernel_rfl⟩
instance : TOne Tryz.prog 151 := ⟨by kernel_rfl⟩
instance : TSz Tryz.prog 151 1 := ⟨by kernel_rfl⟩
instance : TZero Tryz.prog 151 [.nilFunc] := ⟨by kernel_rfl⟩
instance : TOne Tryz.prog 152 := ⟨by kernel_rfl⟩
instance : TSz Tryz.prog 152 1 := ⟨by kernel_rfl⟩
instance : TZero Tryz.prog 152 [.nilFunc] := ⟨by kernel_rfl⟩
instance : TOne Tryz.prog 153 := ⟨by kernel_rfl⟩
instance : TSz Tryz.prog 153 1 := ⟨by kernel_rfl⟩
instance : TZero Tryz.prog 153 [.nilFunc] := ⟨by kernel_rfl⟩
instance : TOne Tryz.prog 154 := ⟨by kernel_rfl⟩
instance : TSz Tryz.prog 154 1 := ⟨by kernel_rfl⟩
instance : TZero Tryz.prog 154 [.nilFunc] := ⟨by kernel_rfl⟩
instance : TOne Tryz.prog 155 := ⟨by kernel_rfl⟩
instance : TSz Tryz.prog 155 1 := ⟨by kernel_rfl⟩
instance : TZero Tryz.prog 155 [.nilFunc] := ⟨by kernel_rfl⟩
instance : TOne Tryz.prog 156 := ⟨by kernel_rfl⟩
instance : TSz Tryz.prog 156 1 := ⟨by kernel_rfl⟩
instance : TZero Tryz.prog 156 [.nilFunc] := ⟨by kernel_rfl⟩
instance : TOne Tryz.prog 157 := ⟨by kernel_rfl⟩
instance : TSz Tryz.prog 157 1 := ⟨by kernel_rfl⟩
instance : TZero Tryz.prog 157 [.nilFunc] := ⟨by kernel_rfl⟩
instance : TOne Tryz.prog 158 := ⟨by kernel_rfl⟩
instance : TSz Tryz.prog 158 1 := ⟨by kernel_rfl⟩
instance : TZero Tryz.prog 158 [.nilFunc] := ⟨by kernel_rfl⟩
instance : TU Tryz.prog 159 (TypeDesc.map 32 3) := ⟨Tryz.underlying159⟩
instance : TSz Tryz.prog 159 1 := ⟨by kernel_rfl⟩
instance : TOne Tryz.prog 159 := ⟨by kernel_rfl⟩
instance : TEl Tryz.prog 159 1 8 := ⟨by kernel_rfl⟩
instance : TZero Tryz.prog 159 [.map none] := ⟨by kernel_rfl⟩
instance : TSz Tryz.prog 160 2 := ⟨by kernel_rfl⟩
instance : TAgg Tryz.prog 160 2 := ⟨by kernel_rfl⟩
instance : TFldT Tryz.prog 160 0 0 32 := ⟨by kernel_rfl⟩
instance : TFld Tryz.prog 160 0 0 := ⟨by kernel_rfl⟩
instance : TFldT Tryz.prog 160 1 1 3 := ⟨by kernel_rfl⟩
instance : TFld Tryz.prog 160 1 1 := ⟨by kernel_rfl⟩
instance : TLay Tryz.prog 160 [(0, 1), (1, 1)] := ⟨by kernel_rfl⟩
instance : TEl Tryz.prog 160 2 16 := ⟨by kernel_rfl⟩
instance : TEq Tryz.prog 160 [.i .u64, .i .i64] := ⟨by kernel_rfl⟩
instance : TZero Tryz.prog 160 [.int .u64 0, .int .i64 0] := ⟨by kernel_rfl⟩
instance : TSz Tryz.prog 161 2 := ⟨by kernel_rfl⟩
instance : TAgg Tryz.prog 161 2 := ⟨by kernel_rfl⟩
instance : TFldT Tryz.prog 161 0 0 32 := ⟨by kernel_rfl⟩
instance : TFld Tryz.prog 161 0 0 := ⟨by kernel_rfl⟩
instance : TFldT Tryz.prog 161 1 1 3 := ⟨by kernel_rfl⟩
instance : TFld Tryz.prog 161 1 1 := ⟨by kernel_rfl⟩
instance : TLay Tryz.prog 161 [(0, 1), (1, 1)] := ⟨by kernel_rfl⟩
instance : TEl Tryz.prog 161 2 16 := ⟨by kernel_rfl⟩
instance : TEq Tryz.prog 161 [.i .u64, .i .i64] := ⟨by kernel_rfl⟩
instance : TZero Tryz.prog 161 [.int .u64 0, .int .i64 0] := ⟨by kernel_rfl⟩
instance : TOne Tryz.prog 162 := ⟨by kernel_rfl⟩
instance : TSz Tryz.prog 162 1 := ⟨by kernel_rfl⟩
instance : TZero Tryz.prog 162 [.nilFunc] := ⟨by kernel_rfl⟩
instance : TU Tryz.prog 163 (TypeDesc.map 32 87) := ⟨Tryz.underlying163⟩
instance : TSz Tryz.prog 163 1 := ⟨by kernel_rfl⟩
instance : TOne Tryz.prog 163 := ⟨by kernel_rfl⟩
instance : TEl Tryz.prog 163 1 8 := ⟨by kernel_rfl⟩
instance : TZero Tryz.prog 163 [.map none] := ⟨by kernel_rfl⟩
instance : TOne Tryz.prog 164 := ⟨by kernel_rfl⟩
instance : TSz Tryz.prog 164 1 := ⟨by kernel_rfl⟩
instance : TZero Tryz.prog 164 [.nilFunc] := ⟨by kernel_rfl⟩
instance : TOne Tryz.prog 166 := ⟨by kernel_rfl⟩
instance : TSz Tryz.prog 166 1 := ⟨by kernel_rfl⟩
instance : TZero Tryz.prog 166 [.nilFunc] := ⟨by kernel_rfl⟩
instance : TOne Tryz.prog 167 := ⟨by kernel_rfl⟩
instance : TSz Tryz.prog 167 1 := ⟨by kernel_rfl⟩
instance : TZero Tryz.prog 167 [.nilFunc] := ⟨by kernel_rfl⟩
instance : TOne Tryz.prog 168 := ⟨by kernel_rfl⟩
instance : TSz Tryz.prog 168 1 := ⟨by kernel_rfl⟩
instance : TZero Tryz.prog 168 [.nilFunc] := ⟨by kernel_rfl⟩
instance : TOne Tryz.prog 169 := ⟨by kernel_rfl⟩
instance : TSz Tryz.prog 169 1 := ⟨by kernel_rfl⟩
instance : TZero Tryz.prog 169 [.nilFunc] := ⟨by kernel_rfl⟩
instance : TU Tryz.prog 170 (TypeDesc.map 34 4) := ⟨Tryz.underlying170⟩
instance : TSz Tryz.prog 170 1 := ⟨by kernel_rfl⟩
instance : TOne Tryz.prog 170 := ⟨by kernel_rfl⟩
instance : TEl Tryz.prog 170 1 8 := ⟨by kernel_rfl⟩
instance : TZero Tryz.prog 170 [.map none] := ⟨by kernel_rfl⟩
instance : TOne Tryz.prog 171 := ⟨by kernel_rfl⟩
instance : TSz Tryz.prog 171 1 := ⟨by kernel_rfl⟩
instance : TZero Tryz.prog 171 [.nilFunc] := ⟨by kernel_rfl⟩
instance : TOne Tryz.prog 172 := ⟨by kernel_rfl⟩
instance : TSz Tryz.prog 172 1 := ⟨by kernel_rfl⟩
instance : TZero Tryz.prog 172 [.nilFunc] := ⟨by kernel_rfl⟩
instance : TOne Tryz.prog 173 := ⟨by kernel_rfl⟩
instance : TSz Tryz.prog 173 1 := ⟨by kernel_rfl⟩
instance : TZero Tryz.prog 173 [.nilFunc] := ⟨by kernel_rfl⟩
instance : TU Tryz.prog 174 (TypeDesc.int IntKind.u64) := ⟨Tryz.underlying174⟩
instance : TSz Tryz.prog 174 1 := ⟨by kernel_rfl⟩
instance : TOne Tryz.prog 174 := ⟨by kernel_rfl⟩
instance : TEl Tryz.prog 174 1 8 := ⟨by kernel_rfl⟩
instance : TZero Tryz.prog 174 [.int .u64 0] := ⟨by kernel_rfl⟩
instance : TOne Tryz.prog 175 := ⟨by kernel_rfl⟩
instance : TSz Tryz.prog 175 1 := ⟨by kernel_rfl⟩
instance : TZero Tryz.prog 175 [.nilFunc] := ⟨by kernel_rfl⟩
instance : TOne Tryz.prog 176 := ⟨by kernel_rfl⟩
instance : TSz Tryz.prog 176 1 := ⟨by kernel_rfl⟩
instance : TZero Tryz.prog 176 [.nilFunc] := ⟨by kernel_rfl⟩
instance : TU Tryz.prog 177 (TypeDesc.slice 5) := ⟨Tryz.underlying177⟩
instance : TSz Tryz.prog 177 1 := ⟨by kernel_rfl⟩
instance : TOne Tryz.prog 177 := ⟨by kernel_rfl⟩
instance : TEl Tryz.prog 177 1 24 := ⟨by kernel_rfl⟩
instance : TNI Tryz.prog 177 := ⟨by kernel_rfl⟩
instance : TZero Tryz.prog 177 [.slice none 0 0] := ⟨by kernel_rfl⟩
instance : TOne Tryz.prog 178 := ⟨by kernel_rfl⟩
instance : TSz Tryz.prog 178 1 := ⟨by kernel_rfl⟩
instance : TZero Tryz.prog 178 [.nilFunc] := ⟨by kernel_rfl⟩
instance : TOne Tryz.prog 180 := ⟨by kernel_rfl⟩
instance : TSz Tryz.prog 180 1 := ⟨by kernel_rfl⟩
instance : TZero Tryz.prog 180 [.nilFunc] := ⟨by kernel_rfl⟩
instance : TOne Tryz.prog 182 := ⟨by kernel_rfl⟩
instance : TSz Tryz.prog 182 1 := ⟨by kernel_rfl⟩
instance : TZero Tryz.prog 182 [.nilFunc] := ⟨by kernel_rfl⟩
instance : TOne Tryz.prog 183 := ⟨by kernel_rfl⟩
instance : TSz Tryz.prog 183 1 := ⟨by kernel_rfl⟩
instance : TZero Tryz.prog 183 [.nilFunc] := ⟨by kernel_rfl⟩
instance : TOne Tryz.prog 184 := ⟨by kernel_rfl⟩
instance : TSz Tryz.prog 184 1 := ⟨by kernel_rfl⟩
instance : TZero Tryz.prog 184 [.nilFunc] := ⟨by kernel_rfl⟩
instance : TOne Tryz.prog 185 := ⟨by kernel_rfl⟩
instance : TSz Tryz.prog 185 1 := ⟨by kernel_rfl⟩
instance : TZero Tryz.prog 185 [.nilFunc] := ⟨by kernel_rfl⟩
instance : TOne Tryz.prog 186 := ⟨by kernel_rfl⟩
instance : TSz Tryz.prog 186 1 := ⟨by kernel_rfl⟩
instance : TZero Tryz.prog 186 [.nilFunc] := ⟨by kernel_rfl⟩
instance : TOne Tryz.prog 187 := ⟨by kernel_rfl⟩
instance : TSz Tryz.prog 187 1 := ⟨by kernel_rfl⟩
instance : TZero Tryz.prog 187 [.nilFunc] := ⟨by kernel_rfl⟩
instance : TU Tryz.prog 188 (TypeDesc.int IntKind.i16) := ⟨Tryz.underlying188⟩
instance : TSz Tryz.prog 188 1 := ⟨by kernel_rfl⟩
instance : TOne Tryz.prog 188 := ⟨by kernel_rfl⟩
instance : TEl Tryz.prog 188 1 2 := ⟨by kernel_rfl⟩
instance : TZero Tryz.prog 188 [.int .i16 0] := ⟨by kernel_rfl⟩
instance : TOne Tryz.prog 189 := ⟨by kernel_rfl⟩
instance : TSz Tryz.prog 189 1 := ⟨by kernel_rfl⟩
instance : TZero Tryz.prog 189 [.nilFunc] := ⟨by kernel_rfl⟩
instance : TOne Tryz.prog 190 := ⟨by kernel_rfl⟩
instance : TSz Tryz.prog 190 1 := ⟨by kernel_rfl⟩
instance : TZero Tryz.prog 190 [.nilFunc] := ⟨by kernel_rfl⟩
instance : TOne Tryz.prog 191 := ⟨by kernel_rfl⟩
instance : TSz Tryz.prog 191 1 := ⟨by kernel_rfl⟩
instance : TZero Tryz.prog 191 [.nilFunc] := ⟨by kernel_rfl⟩
instance : TOne Tryz.prog 192 := ⟨by kernel_rfl⟩
instance : TSz Tryz.prog 192 1 := ⟨by kernel_rfl⟩
instance : TZero Tryz.prog 192 [.nilFunc] := ⟨by kernel_rfl⟩
instance : TOne Tryz.prog 193 := ⟨by kernel_rfl⟩
instance : TSz Tryz.prog 193 1 := ⟨by kernel_rfl⟩
instance : TZero Tryz.prog 193 [.nilFunc] := ⟨by kernel_rfl⟩
instance : TOne Tryz.prog 194 := ⟨by kernel_rfl⟩
instance : TSz Tryz.prog 194 1 := ⟨by kernel_rfl⟩
instance : TZero Tryz.prog 194 [.nilFunc] := ⟨by kernel_rfl⟩
instance : TOne Tryz.prog 195 := ⟨by kernel_rfl⟩
instance : TSz Tryz.prog 195 1 := ⟨by kernel_rfl⟩
instance : TZero Tryz.prog 195 [.nilFunc] := ⟨by kernel_rfl⟩
instance : TOne Tryz.prog 196 := ⟨by kernel_rfl⟩
instance : TSz Tryz.prog 196 1 := ⟨by kernel_rfl⟩
instance : TZero Tryz.prog 196 [.nilFunc] := ⟨by kernel_rfl⟩
instance : TOne Tryz.prog 197 := ⟨by kernel_rfl⟩
instance : TSz Tryz.prog 197 1 := ⟨by kernel_rfl⟩
instance : TZero Tryz.prog 197 [.nilFunc] := ⟨by kernel_rfl⟩
instance : TOne Tryz.prog 198 := ⟨by kernel_rfl⟩
instance : TSz Tryz.prog 198 1 := ⟨by kernel_rfl⟩
instance : TZero Tryz.prog 198 [.nilFunc] := ⟨by kernel_rfl⟩
instance : TOne Tryz.prog 199 := ⟨by kernel_rfl⟩
instance : TSz Tryz.prog 199 1 := ⟨by kernel_rfl⟩
instance : TZero Tryz.prog 199 [.nilFunc] := ⟨by kernel_rfl⟩
instance : TOne Tryz.prog 200 := ⟨by kernel_rfl⟩
instance : TSz Tryz.prog 200 1 := ⟨by kernel_rfl⟩
instance : TZero Tryz.prog 200 [.nilFunc] := ⟨by kernel_rfl⟩
instance : TSz Tryz.prog 201 3 := ⟨by kernel_rfl⟩
instance : TAgg Tryz.prog 201 3 := ⟨by kernel_rfl⟩
instance : TFldT Tryz.prog 201 0 0 32 := ⟨by kernel_rfl⟩
instance : TFld Tryz.prog 201 0 0 := ⟨by kernel_rfl⟩
instance : TFldT Tryz.prog 201 1 1 3 := ⟨by kernel_rfl⟩
instance : TFld Tryz.prog 201 1 1 := ⟨by kernel_rfl⟩
instance : TFldT Tryz.prog 201 2 2 3 := ⟨by kernel_rfl⟩
instance : TFld Tryz.prog 201 2 2 := ⟨by kernel_rfl⟩
instance : TLay Tryz.prog 201 [(0, 1), (1, 1), (2, 1)] := ⟨by kernel_rfl⟩
instance : TEl Tryz.prog 201 3 24 := ⟨by kernel_rfl⟩
instance : TEq Tryz.prog 201 [.i .u64, .i .i64, .i .i64] := ⟨by kernel_rfl⟩
instance : TZero Tryz.prog 201 [.int .u64 0, .int .i64 0, .int .i64 0] := ⟨by kernel_rfl⟩
instance : TSz Tryz.prog 202 3 := ⟨by kernel_rfl⟩
instance : TAgg Tryz.prog 202 3 := ⟨by kernel_rfl⟩
instance : TFldT Tryz.prog 202 0 0 32 := ⟨by kernel_rfl⟩
instance : TFld Tryz.prog 202 0 0 := ⟨by kernel_rfl⟩
instance : TFldT Tryz.prog 202 1 1 3 := ⟨by kernel_rfl⟩
instance : TFld Tryz.prog 202 1 1 := ⟨by kernel_rfl⟩
instance : TFldT Tryz.prog 202 2 2 3 := ⟨by kernel_rfl⟩
instance : TFld Tryz.prog 202 2 2 := ⟨by kernel_rfl⟩
instance : TLay Tryz.prog 202 [(0, 1), (1, 1), (2, 1)] := ⟨by kernel_rfl⟩
instance : TEl Tryz.prog 202 3 24 := ⟨by kernel_rfl⟩
instance : TEq Tryz.prog 202 [.i .u64, .i .i64, .i .i64] := ⟨by kernel_rfl⟩
instance : TZero Tryz.prog 202 [.int .u64 0, .int .i64 0, .int .i64 0] := ⟨by kernel_rfl⟩
instance : TOne Tryz.prog 204 := ⟨by kernel_rfl⟩
instance : TSz Tryz.prog 204 1 := ⟨by kernel_rfl⟩
instance : TZero Tryz.prog 204 [.nilFunc] := ⟨by kernel_rfl⟩
instance : TOne Tryz.prog 205 := ⟨by kernel_rfl⟩
instance : TSz Tryz.prog 205 1 := ⟨by kernel_rfl⟩
instance : TZero Tryz.prog 205 [.nilFunc] := ⟨by kernel_rfl⟩
instance : TOne Tryz.prog 206 := ⟨by kernel_rfl⟩
instance : TSz Tryz.prog 206 1 := ⟨by kernel_rfl⟩
instance : TZero Tryz.prog 206 [.nilFunc] := ⟨by kernel_rfl⟩
instance : TOne Tryz.prog 207 := ⟨by kernel_rfl⟩
instance : TSz Tryz.prog 207 1 := ⟨by kernel_rfl⟩
instance : TZero Tryz.prog 207 [.nilFunc] := ⟨by kernel_rfl⟩
instance : TOne Tryz.prog 208 := ⟨by kernel_rfl⟩
instance : TSz Tryz.prog 208 1 := ⟨by kernel_rfl⟩
instance : TZero Tryz.prog 208 [.nilFunc] := ⟨by kernel_rfl⟩
instance : TOne Tryz.prog 209 := ⟨by kernel_rfl⟩
instance : TSz Tryz.prog 209 1 := ⟨by kernel_rfl⟩
instance : TZero Tryz.prog 209 [.nilFunc] := ⟨by kernel_rfl⟩
instance : TU Tryz.prog 210 (TypeDesc.int IntKind.i64) := ⟨Tryz.underlying210⟩
instance : TSz Tryz.prog 210 1 := ⟨by kernel_rfl⟩
instance : TOne Tryz.prog 210 := ⟨by kernel_rfl⟩
instance : TEl Tryz.prog 210 1 8 := ⟨by kernel_rfl⟩
instance : TZero Tryz.prog 210 [.int .i64 0] := ⟨by kernel_rfl⟩
instance : TOne Tryz.prog 212 := ⟨by kernel_rfl⟩
instance : TSz Tryz.prog 212 1 := ⟨by kernel_rfl⟩
instance : TZero Tryz.prog 212 [.nilFunc] := ⟨by kernel_rfl⟩
instance : TOne Tryz.prog 213 := ⟨by kernel_rfl⟩
instance : TSz Tryz.prog 213 1 := ⟨by kernel_rfl⟩
instance : TZero Tryz.prog 213 [.nilFunc] := ⟨by kernel_rfl⟩
instance : TOne Tryz.prog 214 := ⟨by kernel_rfl⟩
instance : TSz Tryz.prog 214 1 := ⟨by kernel_rfl⟩
instance : TZero Tryz.prog 214 [.nilFunc] := ⟨by kernel_rfl⟩
instance : TOne Tryz.prog 215 := ⟨by kernel_rfl⟩
instance : TSz Tryz.prog 215 1 := ⟨by kernel_rfl⟩
instance : TZero Tryz.prog 215 [.nilFunc] := ⟨by kernel_rfl⟩
instance : TOne Tryz.prog 216 := ⟨by kernel_rfl⟩
instance : TSz Tryz.prog 216 1 := ⟨by kernel_rfl⟩
instance : TZero Tryz.prog 216 [.nilFunc] := ⟨by kernel_rfl⟩
instance : TU Tryz.prog 217 (TypeDesc.int IntKind.u32) := ⟨Tryz.underlying217⟩
instance : TSz Tryz.prog 217 1 := ⟨by kernel_rfl⟩
instance : TOne Tryz.prog 217 := ⟨by kernel_rfl⟩
instance : TEl Tryz.prog 217 1 4 := ⟨by kernel_rfl⟩
instance : TZero Tryz.prog 217 [.int .u32 0] := ⟨by kernel_rfl⟩
instance : TOne Tryz.prog 218 := ⟨by kernel_rfl⟩
instance : TSz Tryz.prog 218 1 := ⟨by kernel_rfl⟩
instance : TZero Tryz.prog 218 [.nilFunc] := ⟨by kernel_rfl⟩
instance : TU Tryz.prog 219 (TypeDesc.slice 3) := ⟨Tryz.underlying219⟩
instance : TSz Tryz.prog 219 1 := ⟨by kernel_rfl⟩
instance : TOne Tryz.prog 219 := ⟨by kernel_rfl⟩
instance : TEl Tryz.prog 219 1 24 := ⟨by kernel_rfl⟩
instance : TNI Tryz.prog 219 := ⟨by kernel_rfl⟩
instance : TZero Tryz.prog 219 [.slice none 0 0] := ⟨by kernel_rfl⟩
instance : TOne Tryz.prog 220 := ⟨by kernel_rfl⟩
instance : TSz Tryz.prog 220 1 := ⟨by kernel_rfl⟩
instance : TZero Tryz.prog 220 [.nilFunc] := ⟨by kernel_rfl⟩
instance : TOne Tryz.prog 221 := ⟨by kernel_rfl⟩
instance : TSz Tryz.prog 221 1 := ⟨by kernel_rfl⟩
instance : TZero Tryz.prog 221 [.nilFunc] := ⟨by kernel_rfl⟩
instance : TU Tryz.prog 222 (TypeDesc.map 34 87) := ⟨Tryz.underlying222⟩
instance : TSz Tryz.prog 222 1 := ⟨by kernel_rfl⟩
instance : TOne Tryz.prog 222 := ⟨by kernel_rfl⟩
instance : TEl Tryz.prog 222 1 8 := ⟨by kernel_rfl⟩
instance : TZero Tryz.prog 222 [.map none] := ⟨by kernel_rfl⟩
instance : TOne Tryz.prog 223 := ⟨by kernel_rfl⟩
instance : TSz Tryz.prog 223 1 := ⟨by kernel_rfl⟩
instance : TZero Tryz.prog 223 [.nilFunc] := ⟨by kernel_rfl⟩
instance : TOne Tryz.prog 224 := ⟨by kernel_rfl⟩
instance : TSz Tryz.prog 224 1 := ⟨by kernel_rfl⟩
instance : TZero Tryz.prog 224 [.nilFunc] := ⟨by kernel_rfl⟩
instance : TOne Tryz.prog 226 := ⟨by kernel_rfl⟩
instance : TSz Tryz.prog 226 1 := ⟨by kernel_rfl⟩
instance : TZero Tryz.prog 226 [.nilFunc] := ⟨by kernel_rfl⟩
instance : TOne Tryz.prog 227 := ⟨by kernel_rfl⟩
instance : TSz Tryz.prog 227 1 := ⟨by kernel_rfl⟩
instance : TZero Tryz.prog 227 [.nilFunc] := ⟨by kernel_rfl⟩
instance : TOne Tryz.prog 228 := ⟨by kernel_rfl⟩
instance : TSz Tryz.prog 228 1 := ⟨by kernel_rfl⟩
instance : TZero Tryz.prog 228 [.nilFunc] := ⟨by kernel_rfl⟩
instance : TOne Tryz.prog 229 := ⟨by kernel_rfl⟩
instance : TSz Tryz.prog 229 1 := ⟨by kernel_rfl⟩
instance : TZero Tryz.prog 229 [.nilFunc] := ⟨by kernel_rfl⟩
instance : TOne Tryz.prog 230 := ⟨by kernel_rfl⟩
instance : TSz Tryz.prog 230 1 := ⟨by kernel_rfl⟩
instance : TZero Tryz.prog 230 [.nilFunc] := ⟨by kernel_rfl⟩
instance : TOne Tryz.prog 231 := ⟨by kernel_rfl⟩
instance : TSz Tryz.prog 231 1 := ⟨by kernel_rfl⟩
instance : TZero Tryz.prog 231 [.nilFunc] := ⟨by kernel_rfl⟩
instance : TOne Tryz.prog 232 := ⟨by kernel_rfl⟩
instance : TSz Tryz.prog 232 1 := ⟨by kernel_rfl⟩
instance : TZero Tryz.prog 232 [.nilFunc] := ⟨by kernel_rfl⟩
instance : TOne Tryz.prog 233 := ⟨by kernel_rfl⟩
instance : TSz Tryz.prog 233 1 := ⟨by kernel_rfl⟩
instance : TZero Tryz.prog 233 [.nilFunc] := ⟨by kernel_rfl⟩
instance : TU Tryz.prog 234 (TypeDesc.int IntKind.u64) := ⟨Tryz.underlying234⟩
instance : TSz Tryz.prog 234 1 := ⟨by kernel_rfl⟩
instance : TOne Tryz.prog 234 := ⟨by kernel_rfl⟩
instance : TEl Tryz.prog 234 1 8 := ⟨by kernel_rfl⟩
instance : TZero Tryz.prog 234 [.int .u64 0] := ⟨by kernel_rfl⟩
instance : TOne Tryz.prog 235 := ⟨by kernel_rfl⟩
instance : TSz Tryz.prog 235 1 := ⟨by kernel_rfl⟩
instance : TZero Tryz.prog 235 [.nilFunc] := ⟨by kernel_rfl⟩
instance : TOne Tryz.prog 236 := ⟨by kernel_rfl⟩
instance : TSz Tryz.prog 236 1 := ⟨by kernel_rfl⟩
instance : TZero Tryz.prog 236 [.nilFunc] := ⟨by kernel_rfl⟩
instance : TOne Tryz.prog 237 := ⟨by kernel_rfl⟩
instance : TSz Tryz.prog 237 1 := ⟨by kernel_rfl⟩
instance : TZero Tryz.prog 237 [.nilFunc] := ⟨by kernel_rfl⟩
instance : TU Tryz.prog 238 (TypeDesc.pointer 3) := ⟨Tryz.underlying238⟩
instance : TSz Tryz.prog 238 1 := ⟨by kernel_rfl⟩
instance : TOne Tryz.prog 238 := ⟨by kernel_rfl⟩
instance : TEl Tryz.prog 238 1 8 := ⟨by kernel_rfl⟩
instance : TZero Tryz.prog 238 [.pointer none] := ⟨by kernel_rfl⟩
instance : TOne Tryz.prog 239 := ⟨by kernel_rfl⟩
instance : TSz Tryz.prog 239 1 := ⟨by kernel_rfl⟩
instance : TZero Tryz.prog 239 [.nilFunc] := ⟨by kernel_rfl⟩
instance : TOne Tryz.prog 240 := ⟨by kernel_rfl⟩
instance : TSz Tryz.prog 240 1 := ⟨by kernel_rfl⟩
instance : TZero Tryz.prog 240 [.nilFunc] := ⟨by kernel_rfl⟩
instance : TOne Tryz.prog 241 := ⟨by kernel_rfl⟩
instance : TSz Tryz.prog 241 1 := ⟨by kernel_rfl⟩
instance : TZero Tryz.prog 241 [.nilFunc] := ⟨by kernel_rfl⟩
instance : TOne Tryz.prog 242 := ⟨by kernel_rfl⟩
instance : TSz Tryz.prog 242 1 := ⟨by kernel_rfl⟩
instance : TZero Tryz.prog 242 [.nilFunc] := ⟨by kernel_rfl⟩
instance : TOne Tryz.prog 243 := ⟨by kernel_rfl⟩
instance : TSz Tryz.prog 243 1 := ⟨by kernel_rfl⟩
instance : TZero Tryz.prog 243 [.nilFunc] := ⟨by kernel_rfl⟩
instance : TOne Tryz.prog 244 := ⟨by kernel_rfl⟩
instance : TSz Tryz.prog 244 1 := ⟨by kernel_rfl⟩
instance : TZero Tryz.prog 244 [.nilFunc] := ⟨by kernel_rfl⟩
instance : TOne Tryz.prog 245 := ⟨by kernel_rfl⟩
instance : TSz Tryz.prog 245 1 := ⟨by kernel_rfl⟩
instance : TZero Tryz.prog 245 [.nilFunc] := ⟨by kernel_rfl⟩
instance : TOne Tryz.prog 246 := ⟨by kernel_rfl⟩
instance : TSz Tryz.prog 246 1 := ⟨by kernel_rfl⟩
instance : TZero Tryz.prog 246 [.nilFunc] := ⟨by kernel_rfl⟩
instance : TOne Tryz.prog 247 := ⟨by kernel_rfl⟩
instance : TSz Tryz.prog 247 1 := ⟨by kernel_rfl⟩
instance : TZero Tryz.prog 247 [.nilFunc] := ⟨by kernel_rfl⟩
instance : TOne Tryz.prog 248 := ⟨by kernel_rfl⟩
instance : TSz Tryz.prog 248 1 := ⟨by kernel_rfl⟩
instance : TZero Tryz.prog 248 [.nilFunc] := ⟨by kernel_rfl⟩
instance : TOne Tryz.prog 249 := ⟨by kernel_rfl⟩
instance : TSz Tryz.prog 249 1 := ⟨by kernel_rfl⟩
instance : TZero Tryz.prog 249 [.nilFunc] := ⟨by kernel_rfl⟩
instance : TOne Tryz.prog 250 := ⟨by kernel_rfl⟩
instance : TSz Tryz.prog 250 1 := ⟨by kernel_rfl⟩
instance : TZero Tryz.prog 250 [.nilFunc] := ⟨by kernel_rfl⟩
instance : TOne Tryz.prog 251 := ⟨by kernel_rfl⟩
instance : TSz Tryz.prog 251 1 := ⟨by kernel_rfl⟩
instance : TZero Tryz.prog 251 [.nilFunc] := ⟨by kernel_rfl⟩
instance : TOne Tryz.prog 252 := ⟨by kernel_rfl⟩
instance : TSz Tryz.prog 252 1 := ⟨by kernel_rfl⟩
instance : TZero Tryz.prog 252 [.nilFunc] := ⟨by kernel_rfl⟩
instance : TOne Tryz.prog 253 := ⟨by kernel_rfl⟩
instance : TSz Tryz.prog 253 1 := ⟨by kernel_rfl⟩
instance : TZero Tryz.prog 253 [.nilFunc] := ⟨by kernel_rfl⟩
instance : TOne Tryz.prog 254 := ⟨by kernel_rfl⟩
instance : TSz Tryz.prog 254 1 := ⟨by kernel_rfl⟩
instance : TZero Tryz.prog 254 [.nilFunc] := ⟨by kernel_rfl⟩
instance : TU Tryz.prog 255 (TypeDesc.pointer 234) := ⟨Tryz.underlying255⟩
instance : TSz Tryz.prog 255 1 := ⟨by kernel_rfl⟩
instance : TOne Tryz.prog 255 := ⟨by kernel_rfl⟩
instance : TEl Tryz.prog 255 1 8 := ⟨by kernel_rfl⟩
instance : TZero Tryz.prog 255 [.pointer none] := ⟨by kernel_rfl⟩
instance : TOne Tryz.prog 257 := ⟨by kernel_rfl⟩
instance : TSz Tryz.prog 257 1 := ⟨by kernel_rfl⟩
instance : TZero Tryz.prog 257 [.nilFunc] := ⟨by kernel_rfl⟩
instance : TOne Tryz.prog 258 := ⟨by kernel_rfl⟩
instance : TSz Tryz.prog 258 1 := ⟨by kernel_rfl⟩
instance : TZero Tryz.prog 258 [.nilFunc] := ⟨by kernel_rfl⟩
instance : TOne Tryz.prog 259 := ⟨by kernel_rfl⟩
instance : TSz Tryz.prog 259 1 := ⟨by kernel_rfl⟩
instance : TZero Tryz.prog 259 [.nilFunc] := ⟨by kernel_rfl⟩
instance : TOne Tryz.prog 260 := ⟨by kernel_rfl⟩
instance : TSz Tryz.prog 260 1 := ⟨by kernel_rfl⟩
instance : TZero Tryz.prog 260 [.nilFunc] := ⟨by kernel_rfl⟩
instance : TOne Tryz.prog 261 := ⟨by kernel_rfl⟩
instance : TSz Tryz.prog 261 1 := ⟨by kernel_rfl⟩
instance : TZero Tryz.prog 261 [.nilFunc] := ⟨by kernel_rfl⟩
instance : TOne Tryz.prog 262 := ⟨by kernel_rfl⟩
instance : TSz Tryz.prog 262 1 := ⟨by kernel_rfl⟩
instance : TZero Tryz.prog 262 [.nilFunc] := ⟨by kernel_rfl⟩
instance : TOne Tryz.prog 263 := ⟨by kernel_rfl⟩
instance : TSz Tryz.prog 263 1 := ⟨by kernel_rfl⟩
instance : TZero Tryz.prog 263 [.nilFunc] := ⟨by kernel_rfl⟩
instance : TOne Tryz.prog 264 := ⟨by kernel_rfl⟩
instance : TSz Tryz.prog 264 1 := ⟨by kernel_rfl⟩
instance : TZero Tryz.prog 264 [.nilFunc] := ⟨by kernel_rfl⟩
instance : TOne Tryz.prog 265 := ⟨by kernel_rfl⟩
instance : TSz Tryz.prog 265 1 := ⟨by kernel_rfl⟩
instance : TZero Tryz.prog 265 [.nilFunc] := ⟨by kernel_rfl⟩
instance : TOne Tryz.prog 266 := ⟨by kernel_rfl⟩
instance : TSz Tryz.prog 266 1 := ⟨by kernel_rfl⟩
instance : TZero Tryz.prog 266 [.nilFunc] := ⟨by kernel_rfl⟩
instance : TOne Tryz.prog 267 := ⟨by kernel_rfl⟩
instance : TSz Tryz.prog 267 1 := ⟨by kernel_rfl⟩
instance : TZero Tryz.prog 267 [.nilFunc] := ⟨by kernel_rfl⟩
instance : TOne Tryz.prog 268 := ⟨by kernel_rfl⟩
instance : TSz Tryz.prog 268 1 := ⟨by kernel_rfl⟩
instance : TZero Tryz.prog 268 [.nilFunc] := ⟨by kernel_rfl⟩
instance : TOne Tryz.prog 269 := ⟨by kernel_rfl⟩
instance : TSz Tryz.prog 269 1 := ⟨by kernel_rfl⟩
instance : TZero Tryz.prog 269 [.nilFunc] := ⟨by kernel_rfl⟩
instance : TOne Tryz.prog 270 := ⟨by kernel_rfl⟩
instance : TSz Tryz.prog 270 1 := ⟨by kernel_rfl⟩
instance : TZero Tryz.prog 270 [.nilFunc] := ⟨by kernel_rfl⟩
instance : TSz Tryz.prog 271 4 := ⟨by kernel_rfl⟩
instance : TAgg Tryz.prog 271 4 := ⟨by kernel_rfl⟩
instance : TFldT Tryz.prog 271 0 0 17 := ⟨by kernel_rfl⟩
instance : TFld Tryz.prog 271 0 0 := ⟨by kernel_rfl⟩
instance : TFldT Tryz.prog 271 1 1 17 := ⟨by kernel_rfl⟩
instance : TFld Tryz.prog 271 1 1 := ⟨by kernel_rfl⟩
instance : TFldT Tryz.prog 271 2 2 17 := ⟨by kernel_rfl⟩
instance : TFld Tryz.prog 271 2 2 := ⟨by kernel_rfl⟩
instance : TFldT Tryz.prog 271 3 3 9 := ⟨by kernel_rfl⟩
instance : TFld Tryz.prog 271 3 3 := ⟨by kernel_rfl⟩
instance : TLay Tryz.prog 271 [(0, 1), (1, 1), (2, 1), (3, 1)] := ⟨by kernel_rfl⟩
instance : TEl Tryz.prog 271 4 40 := ⟨by kernel_rfl⟩
instance : TZero Tryz.prog 271 [.pointer none, .pointer none, .pointer none, .string .empty] := ⟨by kernel_rfl⟩
instance : TSz Tryz.prog 272 4 := ⟨by kernel_rfl⟩
instance : TAgg Tryz.prog 272 4 := ⟨by kernel_rfl⟩
instance : TFldT Tryz.prog 272 0 0 17 := ⟨by kernel_rfl⟩
instance : TFld Tryz.prog 272 0 0 := ⟨by kernel_rfl⟩
instance : TFldT Tryz.prog 272 1 1 17 := ⟨by kernel_rfl⟩
instance : TFld Tryz.prog 272 1 1 := ⟨by kernel_rfl⟩
instance : TFldT Tryz.prog 272 2 2 17 := ⟨by kernel_rfl⟩
instance : TFld Tryz.prog 272 2 2 := ⟨by kernel_rfl⟩
instance : TFldT Tryz.prog 272 3 3 9 := ⟨by kernel_rfl⟩
instance : TFld Tryz.prog 272 3 3 := ⟨by kernel_rfl⟩
instance : TLay Tryz.prog 272 [(0, 1), (1, 1), (2, 1), (3, 1)] := ⟨by kernel_rfl⟩
instance : TEl Tryz.prog 272 4 40 := ⟨by kernel_rfl⟩
instance : TZero Tryz.prog 272 [.pointer none, .pointer none, .pointer none, .string .empty] := ⟨by kernel_rfl⟩
instance : TU Tryz.prog 273 (TypeDesc.array 0 16) := ⟨Tryz.underlying273⟩
instance : TSz Tryz.prog 273 0 := ⟨by kernel_rfl⟩
instance : TAgg Tryz.prog 273 0 := ⟨by kernel_rfl⟩
instance : TLay Tryz.prog 273 [] := ⟨by kernel_rfl⟩
instance : TEl Tryz.prog 273 0 0 := ⟨by kernel_rfl⟩
instance : TSz Tryz.prog 274 0 := ⟨by kernel_rfl⟩
instance : TAgg Tryz.prog 274 0 := ⟨by kernel_rfl⟩
instance : TFldT Tryz.prog 274 0 0 273 := ⟨by kernel_rfl⟩
instance : TLay Tryz.prog 274 [(0, 0)] := ⟨by kernel_rfl⟩
instance : TEl Tryz.prog 274 0 0 := ⟨by kernel_rfl⟩
instance : TSz Tryz.prog 275 0 := ⟨by kernel_rfl⟩
instance : TAgg Tryz.prog 275 0 := ⟨by kernel_rfl⟩
instance : TFldT Tryz.prog 275 0 0 273 := ⟨by kernel_rfl⟩
instance : TLay Tryz.prog 275 [(0, 0)] := ⟨by kernel_rfl⟩
instance : TEl Tryz.prog 275 0 0 := ⟨by kernel_rfl⟩
instance : TOne Tryz.prog 276 := ⟨by kernel_rfl⟩
instance : TSz Tryz.prog 276 1 := ⟨by kernel_rfl⟩
instance : TZero Tryz.prog 276 [.nilFunc] := ⟨by kernel_rfl⟩
instance : TU Tryz.prog 277 (TypeDesc.int IntKind.u8) := ⟨Tryz.underlying277⟩
instance : TSz Tryz.prog 277 1 := ⟨by kernel_rfl⟩
instance : TOne Tryz.prog 277 := ⟨by kernel_rfl⟩
instance : TEl Tryz.prog 277 1 1 := ⟨by kernel_rfl⟩
instance : TZero Tryz.prog 277 [.int .u8 0] := ⟨by kernel_rfl⟩
instance : TU Tryz.prog 278 (TypeDesc.int IntKind.u8) := ⟨Tryz.underlying278⟩
instance : TSz Tryz.prog 278 1 := ⟨by kernel_rfl⟩
instance : TOne Tryz.prog 278 := ⟨by kernel_rfl⟩
instance : TEl Tryz.prog 278 1 1 := ⟨by kernel_rfl⟩
instance : TZero Tryz.prog 278 [.int .u8 0] := ⟨by kernel_rfl⟩
instance : TOne Tryz.prog 279 := ⟨by kernel_rfl⟩
instance : TSz Tryz.prog 279 1 := ⟨by kernel_rfl⟩
instance : TZero Tryz.prog 279 [.nilFunc] := ⟨by kernel_rfl⟩
instance : TU Tryz.prog 280 (TypeDesc.pointer 5) := ⟨Tryz.underlying280⟩
instance : TSz Tryz.prog 280 1 := ⟨by kernel_rfl⟩
instance : TOne Tryz.prog 280 := ⟨by kernel_rfl⟩
instance : TEl Tryz.prog 280 1 8 := ⟨by kernel_rfl⟩
instance : TZero Tryz.prog 280 [.pointer none] := ⟨by kernel_rfl⟩
instance : TU Tryz.prog 281 (TypeDesc.int IntKind.i32) := ⟨Tryz.underlying281⟩
instance : TSz Tryz.prog 281 1 := ⟨by kernel_rfl⟩
instance : TOne Tryz.prog 281 := ⟨by kernel_rfl⟩
instance : TEl Tryz.prog 281 1 4 := ⟨by kernel_rfl⟩
instance : TZero Tryz.prog 281 [.int .i32 0] := ⟨by kernel_rfl⟩
instance : TU Tryz.prog 282 (TypeDesc.int IntKind.i32) := ⟨Tryz.underlying282⟩
instance : TSz Tryz.prog 282 1 := ⟨by kernel_rfl⟩
instance : TOne Tryz.prog 282 := ⟨by kernel_rfl⟩
instance : TEl Tryz.prog 282 1 4 := ⟨by kernel_rfl⟩
instance : TZero Tryz.prog 282 [.int .i32 0] := ⟨by kernel_rfl⟩
instance : TSz Tryz.prog 283 11 := ⟨by kernel_rfl⟩
instance : TAgg Tryz.prog 283 11 := ⟨by kernel_rfl⟩
instance : TFldT Tryz.prog 283 0 0 12 := ⟨by kernel_rfl⟩
instance : TFld Tryz.prog 283 0 0 := ⟨by kernel_rfl⟩
instance : TFldT Tryz.prog 283 1 1 12 := ⟨by kernel_rfl⟩
instance : TFld Tryz.prog 283 1 1 := ⟨by kernel_rfl⟩
instance : TFldT Tryz.prog 283 2 2 217 := ⟨by kernel_rfl⟩
instance : TFld Tryz.prog 283 2 2 := ⟨by kernel_rfl⟩
instance : TFldT Tryz.prog 283 3 3 277 := ⟨by kernel_rfl⟩
instance : TFld Tryz.prog 283 3 3 := ⟨by kernel_rfl⟩
instance : TFldT Tryz.prog 283 4 4 5 := ⟨by kernel_rfl⟩
instance : TFld Tryz.prog 283 4 4 := ⟨by kernel_rfl⟩
instance : TFldT Tryz.prog 283 5 5 5 := ⟨by kernel_rfl⟩
instance : TFld Tryz.prog 283 5 5 := ⟨by kernel_rfl⟩
instance : TFldT Tryz.prog 283 6 6 278 := ⟨by kernel_rfl⟩
instance : TFld Tryz.prog 283 6 6 := ⟨by kernel_rfl⟩
instance : TFldT Tryz.prog 283 7 7 279 := ⟨by kernel_rfl⟩
instance : TFld Tryz.prog 283 7 7 := ⟨by kernel_rfl⟩
instance : TFldT Tryz.prog 283 8 8 280 := ⟨by kernel_rfl⟩
instance : TFld Tryz.prog 283 8 8 := ⟨by kernel_rfl⟩
instance : TFldT Tryz.prog 283 9 9 281 := ⟨by kernel_rfl⟩
instance : TFld Tryz.prog 283 9 9 := ⟨by kernel_rfl⟩
instance : TFldT Tryz.prog 283 10 10 282 := ⟨by kernel_rfl⟩
instance : TFld Tryz.prog 283 10 10 := ⟨by kernel_rfl⟩
instance : TLay Tryz.prog 283 [(0, 1), (1, 1), (2, 1), (3, 1), (4, 1), (5, 1), (6, 1), (7, 1), (8, 1), (9, 1), (10, 1)] := ⟨by kernel_rfl⟩
instance : TEl Tryz.prog 283 11 48 := ⟨by kernel_rfl⟩
instance : TZero Tryz.prog 283 [.int .u64 0, .int .u64 0, .int .u32 0, .int .u8 0, .int .u8 0, .int .u8 0, .int .u8 0, .nilFunc, .pointer none, .int .i32 0, .int .i32 0] := ⟨by kernel_rfl⟩
instance : TSz Tryz.prog 284 11 := ⟨by kernel_rfl⟩
instance : TAgg Tryz.prog 284 11 := ⟨by kernel_rfl⟩
instance : TFldT Tryz.prog 284 0 0 12 := ⟨by kernel_rfl⟩
instance : TFld Tryz.prog 284 0 0 := ⟨by kernel_rfl⟩
instance : TFldT Tryz.prog 284 1 1 12 := ⟨by kernel_rfl⟩
instance : TFld Tryz.prog 284 1 1 := ⟨by kernel_rfl⟩
instance : TFldT Tryz.prog 284 2 2 217 := ⟨by kernel_rfl⟩
instance : TFld Tryz.prog 284 2 2 := ⟨by kernel_rfl⟩
instance : TFldT Tryz.prog 284 3 3 277 := ⟨by kernel_rfl⟩
instance : TFld Tryz.prog 284 3 3 := ⟨by kernel_rfl⟩
instance : TFldT Tryz.prog 284 4 4 5 := ⟨by kernel_rfl⟩
instance : TFld Tryz.prog 284 4 4 := ⟨by kernel_rfl⟩
instance : TFldT Tryz.prog 284 5 5 5 := ⟨by kernel_rfl⟩
instance : TFld Tryz.prog 284 5 5 := ⟨by kernel_rfl⟩
instance : TFldT Tryz.prog 284 6 6 278 := ⟨by kernel_rfl⟩
instance : TFld Tryz.prog 284 6 6 := ⟨by kernel_rfl⟩
instance : TFldT Tryz.prog 284 7 7 279 := ⟨by kernel_rfl⟩
instance : TFld Tryz.prog 284 7 7 := ⟨by kernel_rfl⟩
instance : TFldT Tryz.prog 284 8 8 280 := ⟨by kernel_rfl⟩
instance : TFld Tryz.prog 284 8 8 := ⟨by kernel_rfl⟩
instance : TFldT Tryz.prog 284 9 9 281 := ⟨by kernel_rfl⟩
instance : TFld Tryz.prog 284 9 9 := ⟨by kernel_rfl⟩
instance : TFldT Tryz.prog 284 10 10 282 := ⟨by kernel_rfl⟩
instance : TFld Tryz.prog 284 10 10 := ⟨by kernel_rfl⟩
instance : TLay Tryz.prog 284 [(0, 1), (1, 1), (2, 1), (3, 1), (4, 1), (5, 1), (6, 1), (7, 1), (8, 1), (9, 1), (10, 1)] := ⟨by kernel_rfl⟩
instance : TEl Tryz.prog 284 11 48 := ⟨by kernel_rfl⟩
instance : TZero Tryz.prog 284 [.int .u64 0, .int .u64 0, .int .u32 0, .int .u8 0, .int .u8 0, .int .u8 0, .int .u8 0, .nilFunc, .pointer none, .int .i32 0, .int .i32 0] := ⟨by kernel_rfl⟩
instance : TU Tryz.prog 285 (TypeDesc.unsafePointer) := ⟨Tryz.underlying285⟩
instance : TSz Tryz.prog 285 1 := ⟨by kernel_rfl⟩
instance : TOne Tryz.prog 285 := ⟨by kernel_rfl⟩
instance : TBody Tryz.prog 3 := ⟨by kernel_rfl⟩
instance : TBody Tryz.prog 4 := ⟨by kernel_rfl⟩
instance : TBody Tryz.prog 5 := ⟨by kernel_rfl⟩
instance : TBody Tryz.prog 6 := ⟨by kernel_rfl⟩
instance : TBody Tryz.prog 7 := ⟨by kernel_rfl⟩
instance : TBody Tryz.prog 8 := ⟨by kernel_rfl⟩
instance : TBody Tryz.prog 9 := ⟨by kernel_rfl⟩
instance : TBody Tryz.prog 10 := ⟨by kernel_rfl⟩
instance : TBody Tryz.prog 11 := ⟨by kernel_rfl⟩
instance : TBody Tryz.prog 12 := ⟨by kernel_rfl⟩
instance : TBody Tryz.prog 13 := ⟨by kernel_rfl⟩
instance : TBody Tryz.prog 14 := ⟨by kernel_rfl⟩
instance : TBody Tryz.prog 15 := ⟨by kernel_rfl⟩
instance : TBody Tryz.prog 16 := ⟨by kernel_rfl⟩
instance : TBody Tryz.prog 17 := ⟨by kernel_rfl⟩
instance : TBody Tryz.prog 18 := ⟨by kernel_rfl⟩
instance : TBody Tryz.prog 19 := ⟨by kernel_rfl⟩
instance : TBody Tryz.prog 20 := ⟨by kernel_rfl⟩
instance : TBody Tryz.prog 21 := ⟨by kernel_rfl⟩
instance : TBody Tryz.prog 22 := ⟨by kernel_rfl⟩
instance : TBody Tryz.prog 23 := ⟨by kernel_rfl⟩
instance : TBody Tryz.prog 24 := ⟨by kernel_rfl⟩
instance : TBody Tryz.prog 25 := ⟨by kernel_rfl⟩
instance : TBody Tryz.prog 26 := ⟨by kernel_rfl⟩
instance : TBody Tryz.prog 27 := ⟨by kernel_rfl⟩
instance : TBody Tryz.prog 28 := ⟨by kernel_rfl⟩
instance : TBody Tryz.prog 29 := ⟨by kernel_rfl⟩
instance : TBody Tryz.prog 30 := ⟨by kernel_rfl⟩
instance : TBody Tryz.prog 31 := ⟨by kernel_rfl⟩
instance : TBody Tryz.prog 32 := ⟨by kernel_rfl⟩
instance : TBody Tryz.prog 33 := ⟨by kernel_rfl⟩
instance : TBody Tryz.prog 34 := ⟨by kernel_rfl⟩
instance : TBody Tryz.prog 35 := ⟨by kernel_rfl⟩
instance : TBody Tryz.prog 36 := ⟨by kernel_rfl⟩
instance : TBody Tryz.prog 37 := ⟨by kernel_rfl⟩
instance : TBody Tryz.prog 38 := ⟨by kernel_rfl⟩
instance : TBody Tryz.prog 39 := ⟨by kernel_rfl⟩
instance : TBody Tryz.prog 40 := ⟨by kernel_rfl⟩
instance : TBody Tryz.prog 41 := ⟨by kernel_rfl⟩
instance : TBody Tryz.prog 42 := ⟨by kernel_rfl⟩
instance : TBody Tryz.prog 43 := ⟨by kernel_rfl⟩
instance : TBody Tryz.prog 44 := ⟨by kernel_rfl⟩
instance : TBody Tryz.prog 45 := ⟨by kernel_rfl⟩
instance : TBody Tryz.prog 46 := ⟨by kernel_rfl⟩
instance : TBody Tryz.prog 47 := ⟨by kernel_rfl⟩
instance : TBody Tryz.prog 48 := ⟨by kernel_rfl⟩
instance : TBody Tryz.prog 49 := ⟨by kernel_rfl⟩
instance : TBody Tryz.prog 50 := ⟨by kernel_rfl⟩
instance : TBody Tryz.prog 51 := ⟨by kernel_rfl⟩
instance : TBody Tryz.prog 52 := ⟨by kernel_rfl⟩
instance : TBody Tryz.prog 53 := ⟨by kernel_rfl⟩
instance : TBody Tryz.prog 54 := ⟨by kernel_rfl⟩
instance : TBody Tryz.prog 55 := ⟨by kernel_rfl⟩
instance : TBody Tryz.prog 56 := ⟨by kernel_rfl⟩
instance : TBody Tryz.prog 57 := ⟨by kernel_rfl⟩
instance : TBody Tryz.prog 58 := ⟨by kernel_rfl⟩
instance : TBody Tryz.prog 59 := ⟨by kernel_rfl⟩
instance : TBody Tryz.prog 60 := ⟨by kernel_rfl⟩
instance : TBody Tryz.prog 61 := ⟨by kernel_rfl⟩
instance : TBody Tryz.prog 62 := ⟨by kernel_rfl⟩
instance : TBody Tryz.prog 63 := ⟨by kernel_rfl⟩
instance : TBody Tryz.prog 64 := ⟨by kernel_rfl⟩
instance : TBody Tryz.prog 65 := ⟨by kernel_rfl⟩
instance : TBody Tryz.prog 66 := ⟨by kernel_rfl⟩
instance : TBody Tryz.prog 67 := ⟨by kernel_rfl⟩
instance : TBody Tryz.prog 68 := ⟨by kernel_rfl⟩
instance : TBody Tryz.prog 69 := ⟨by kernel_rfl⟩
instance : TBody Tryz.prog 70 := ⟨by kernel_rfl⟩
instance : TBody Tryz.prog 71 := ⟨by kernel_rfl⟩
instance : TBody Tryz.prog 72 := ⟨by kernel_rfl⟩
instance : TBody Tryz.prog 73 := ⟨by kernel_rfl⟩
instance : TBody Tryz.prog 74 := ⟨by kernel_rfl⟩
instance : TBody Tryz.prog 75 := ⟨by kernel_rfl⟩
instance : TBody Tryz.prog 76 := ⟨by kernel_rfl⟩
instance : TBody Tryz.prog 77 := ⟨by kernel_rfl⟩
instance : TBody Tryz.prog 78 := ⟨by kernel_rfl⟩
instance : TBody Tryz.prog 79 := ⟨by kernel_rfl⟩
instance : TBody Tryz.prog 80 := ⟨by kernel_rfl⟩
instance : TBody Tryz.prog 81 := ⟨by kernel_rfl⟩
instance : TBody Tryz.prog 82 := ⟨by kernel_rfl⟩
instance : TBody Tryz.prog 83 := ⟨by kernel_rfl⟩
instance : TBody Tryz.prog 84 := ⟨by kernel_rfl⟩
instance : TBody Tryz.prog 85 := ⟨by kernel_rfl⟩
instance : TBody Tryz.prog 86 := ⟨by kernel_rfl⟩
instance : TBody Tryz.prog 87 := ⟨by kernel_rfl⟩
instance : TBody Tryz.prog 88 := ⟨by kernel_rfl⟩
instance : TBody Tryz.prog 89 := ⟨by kernel_rfl⟩
instance : TBody Tryz.prog 90 := ⟨by kernel_rfl⟩
instance : TBody Tryz.prog 91 := ⟨by kernel_rfl⟩
instance : TBody Tryz.prog 92 := ⟨by kernel_rfl⟩
instance : TBody Tryz.prog 93 := ⟨by kernel_rfl⟩
instance : TBody Tryz.prog 94 := ⟨by kernel_rfl⟩
instance : TBody Tryz.prog 95 := ⟨by kernel_rfl⟩
instance : TBody Tryz.prog 96 := ⟨by kernel_rfl⟩
instance : TBody Tryz.prog 97 := ⟨by kernel_rfl⟩
instance : TBody Tryz.prog 98 := ⟨by kernel_rfl⟩
instance : TBody Tryz.prog 99 := ⟨by kernel_rfl⟩
instance : TBody Tryz.prog 100 := ⟨by kernel_rfl⟩
instance : TBody Tryz.prog 101 := ⟨by kernel_rfl⟩
instance : TBody Tryz.prog 102 := ⟨by kernel_rfl⟩
instance : TBody Tryz.prog 103 := ⟨by kernel_rfl⟩
instance : TBody Tryz.prog 104 := ⟨by kernel_rfl⟩
instance : TBody Tryz.prog 105 := ⟨by kernel_rfl⟩
instance : TBody Tryz.prog 106 := ⟨by kernel_rfl⟩
instance : TBody Tryz.prog 107 := ⟨by kernel_rfl⟩
instance : TBody Tryz.prog 108 := ⟨by kernel_rfl⟩
instance : TBody Tryz.prog 109 := ⟨by kernel_rfl⟩
instance : TBody Tryz.prog 110 := ⟨by kernel_rfl⟩
instance : TBody Tryz.prog 111 := ⟨by kernel_rfl⟩
instance : TBody Tryz.prog 112 := ⟨by kernel_rfl⟩
instance : TBody Tryz.prog 113 := ⟨by kernel_rfl⟩
instance : TBody Tryz.prog 114 := ⟨by kernel_rfl⟩
instance : TBody Tryz.prog 115 := ⟨by kernel_rfl⟩
instance : TBody Tryz.prog 116 := ⟨by kernel_rfl⟩
instance : TBody Tryz.prog 117 := ⟨by kernel_rfl⟩
instance : TBody Tryz.prog 118 := ⟨by kernel_rfl⟩
instance : TBody Tryz.prog 119 := ⟨by kernel_rfl⟩
instance : TBody Tryz.prog 120 := ⟨by kernel_rfl⟩
instance : TBody Tryz.prog 121 := ⟨by kernel_rfl⟩
instance : TBody Tryz.prog 123 := ⟨by kernel_rfl⟩
instance : TBody Tryz.prog 124 := ⟨by kernel_rfl⟩
instance : TBody Tryz.prog 125 := ⟨by kernel_rfl⟩
instance : TBody Tryz.prog 126 := ⟨by kernel_rfl⟩
instance : TBody Tryz.prog 127 := ⟨by kernel_rfl⟩
instance : TBody Tryz.prog 128 := ⟨by kernel_rfl⟩
instance : TBody Tryz.prog 129 := ⟨by kernel_rfl⟩
instance : TBody Tryz.prog 130 := ⟨by kernel_rfl⟩
instance : TBody Tryz.prog 131 := ⟨by kernel_rfl⟩
instance : TBody Tryz.prog 132 := ⟨by kernel_rfl⟩
instance : TBody Tryz.prog 133 := ⟨by kernel_rfl⟩
instance : TBody Tryz.prog 134 := ⟨by kernel_rfl⟩
instance : TBody Tryz.prog 135 := ⟨by kernel_rfl⟩
instance : TBody Tryz.prog 136 := ⟨by kernel_rfl⟩
instance : TBody Tryz.prog 137 := ⟨by kernel_rfl⟩
instance : TBody Tryz.prog 138 := ⟨by kernel_rfl⟩
instance : TBody Tryz.prog 139 := ⟨by kernel_rfl⟩
instance : TBody Tryz.prog 140 := ⟨by kernel_rfl⟩
instance : TBody Tryz.prog 141 := ⟨by kernel_rfl⟩
instance : TBody Tryz.prog 142 := ⟨by kernel_rfl⟩
instance : TBody Tryz.prog 143 := ⟨by kernel_rfl⟩
instance : TBody Tryz.prog 145 := ⟨by kernel_rfl⟩
instance : TBody Tryz.prog 146 := ⟨by kernel_rfl⟩
instance : TBody Tryz.prog 147 := ⟨by kernel_rfl⟩
instance : TBody Tryz.prog 148 := ⟨by kernel_rfl⟩
instance : TBody Tryz.prog 149 := ⟨by kernel_rfl⟩
instance : TBody Tryz.prog 150 := ⟨by kernel_rfl⟩
instance : TBody Tryz.prog 151 := ⟨by kernel_rfl⟩
instance : TBody Tryz.prog 152 := ⟨by kernel_rfl⟩
instance : TBody Tryz.prog 153 := ⟨by kernel_rfl⟩
instance : TBody Tryz.prog 154 := ⟨by kernel_rfl⟩
instance : TBody Tryz.prog 155 := ⟨by kernel_rfl⟩
instance : TBody Tryz.prog 157 := ⟨by kernel_rfl⟩
instance : TBody Tryz.prog 158 := ⟨by kernel_rfl⟩
instance : TBody Tryz.prog 159 := ⟨by kernel_rfl⟩
instance : TBody Tryz.prog 160 := ⟨by kernel_rfl⟩
instance : TBody Tryz.prog 161 := ⟨by kernel_rfl⟩
instance : TBody Tryz.prog 162 := ⟨by kernel_rfl⟩
instance : TBody Tryz.prog 163 := ⟨by kernel_rfl⟩
instance : TBody Tryz.prog 164 := ⟨by kernel_rfl⟩
instance : TBody Tryz.prog 165 := ⟨by kernel_rfl⟩
instance : TBody Tryz.prog 167 := ⟨by kernel_rfl⟩
instance : TBody Tryz.prog 168 := ⟨by kernel_rfl⟩
instance : TBody Tryz.prog 169 := ⟨by kernel_rfl⟩
instance : TBody Tryz.prog 170 := ⟨by kernel_rfl⟩
instance : TBody Tryz.prog 171 := ⟨by kernel_rfl⟩
instance : TBody Tryz.prog 172 := ⟨by kernel_rfl⟩
instance : TBody Tryz.prog 173 := ⟨by kernel_rfl⟩
instance : TBody Tryz.prog 174 := ⟨by kernel_rfl⟩
instance : TBody Tryz.prog 175 := ⟨by kernel_rfl⟩
instance : TBody Tryz.prog 176 := ⟨by kernel_rfl⟩
instance : TBody Tryz.prog 177 := ⟨by kernel_rfl⟩
instance : TBody Tryz.prog 178 := ⟨by kernel_rfl⟩
instance : TBody Tryz.prog 179 := ⟨by kernel_rfl⟩
instance : TBody Tryz.prog 180 := ⟨by kernel_rfl⟩
instance : TBody Tryz.prog 181 := ⟨by kernel_rfl⟩
instance : TBody Tryz.prog 182 := ⟨by kernel_rfl⟩
instance : TBody Tryz.prog 183 := ⟨by kernel_rfl⟩
instance : TBody Tryz.prog 184 := ⟨by kernel_rfl⟩
instance : TBody Tryz.prog 185 := ⟨by kernel_rfl⟩
instance : TBody Tryz.prog 186 := ⟨by kernel_rfl⟩
instance : TBody Tryz.prog 187 := ⟨by kernel_rfl⟩
instance : TBody Tryz.prog 188 := ⟨by kernel_rfl⟩
instance : TBody Tryz.prog 189 := ⟨by kernel_rfl⟩
instance : TBody Tryz.prog 190 := ⟨by kernel_rfl⟩
instance : TBody Tryz.prog 191 := ⟨by kernel_rfl⟩
instance : TBody Tryz.prog 192 := ⟨by kernel_rfl⟩
instance : TBody Tryz.prog 193 := ⟨by kernel_rfl⟩
instance : TBody Tryz.prog 194 := ⟨by kernel_rfl⟩
instance : TBody Tryz.prog 195 := ⟨by kernel_rfl⟩
instance : TBody Tryz.prog 196 := ⟨by kernel_rfl⟩
instance : TBody Tryz.prog 197 := ⟨by kernel_rfl⟩
instance : TBody Tryz.prog 198 := ⟨by kernel_rfl⟩
instance : TBody Tryz.prog 199 := ⟨by kernel_rfl⟩
instance : TBody Tryz.prog 200 := ⟨by kernel_rfl⟩
instance : TBody Tryz.prog 201 := ⟨by kernel_rfl⟩
instance : TBody Tryz.prog 202 := ⟨by kernel_rfl⟩
instance : TBody Tryz.prog 203 := ⟨by kernel_rfl⟩
instance : TBody Tryz.prog 204 := ⟨by kernel_rfl⟩
instance : TBody Tryz.prog 206 := ⟨by kernel_rfl⟩
instance : TBody Tryz.prog 207 := ⟨by kernel_rfl⟩
instance : TBody Tryz.prog 208 := ⟨by kernel_rfl⟩
instance : TBody Tryz.prog 209 := ⟨by kernel_rfl⟩
instance : TBody Tryz.prog 210 := ⟨by kernel_rfl⟩
instance : TBody Tryz.prog 211 := ⟨by kernel_rfl⟩
instance : TBody Tryz.prog 212 := ⟨by kernel_rfl⟩
instance : TBody Tryz.prog 213 := ⟨by kernel_rfl⟩
instance : TBody Tryz.prog 214 := ⟨by kernel_rfl⟩
instance : TBody Tryz.prog 215 := ⟨by kernel_rfl⟩
instance : TBody Tryz.prog 216 := ⟨by kernel_rfl⟩
instance : TBody Tryz.prog 217 := ⟨by kernel_rfl⟩
end Go.Proofs.YtfedlkeiafcdmaaGreat
/-! RMod -/
namespace Go.Proofs.YtfedlkeiafcdmaaGreat
set_option linter.unusedVariables false
set_option linter.unusedSimpArgs false
open Go.RowKit
attribute [local irreducible] OpTo wpListIn Code.wpIn MW Cal
/-- the remainder that is not negative -/
def modI (a n : Int) : Int := if a.tmod n < 0 then a.tmod n + n else a.tmod n
theorem mod_c (x n : Int) (hn : 0 < n) (hn2 : n ≤ 9223372036854775807) (W : World) : Cal Tryz.prog 4 [.int .i64 x, .int .i64 n].toArray W fun v w' => v = .int .i64 (modI x n) ∧ Ext [] W w' := by
  have hr := Int.tmod_lt_of_pos x hn
  have hr2 : -n < x.tmod n := by have := Int.tmod_lt_of_pos (-x) hn; rw [Int.neg_tmod] at this; omega
  unfold modI
  refine fn_ofM (n := 14) [] Tryz.func4 rfl rfl rfl ?_
  intro a w F M hwW
  refine c_seq (c_region ?_)
  refine sD F (o_assign (F.ev rfl) ?_); clear F a; intro a F
  with_reducible refine l_nil (q_then (c_seq (c_region ?_)))
  refine sD F (o_move (F.ev rfl) ?_); clear F a; intro a F
  refine sD F (o_move (F.ev rfl) ?_); clear F a; intro a F
  refine sD F (o_rem (F.ev rfl) (F.ev rfl) (by omega) rfl ?_); clear F a; intro a F
  refine sD F (o_assign (F.ev rfl) ?_); clear F a; intro a F
  with_reducible refine l_nil (q_then (c_seq (c_seq (c_region ?_))))
  refine sD F (o_move (F.ev rfl) ?_); clear F a; intro a F
  refine sD F (o_lss (F.ev rfl) (F.ev rfl) ?_); clear F a; intro a F
  with_reducible refine l_nil (q_then ?_)
  generalize x.tmod n = r at *
  refine c_if F rfl (fun hc => ?_) (fun hc => ?_)
  · replace hc := of_decide_eq_true hc
    rw [if_pos hc]
    refine c_region ?_
    refine sD F (o_move (F.ev rfl) ?_); clear F a; intro a F
    refine sD F (o_move (F.ev rfl) ?_); clear F a; intro a F
    refine sD F (o_add (F.ev rfl) (F.ev rfl) (w_i64 (by omega) (by omega)) ?_); clear F a; intro a F
    refine sD F (o_assign (F.ev rfl) ?_); clear F a; intro a F
    with_reducible refine l_nil (q_then (c_seq (c_region ?_)))
    refine sD F (o_move (F.ev rfl) ?_); clear F a; intro a F
    refine sD F (o_assign (F.ev rfl) ?_); clear F a; intro a F
    with_reducible refine l_nil (q_then (c_ret ?_))
    refine p_ret F rfl (.cons (.tmp (F.ev rfl)) .nil) ?_
    exact ⟨rfl, M.ext⟩
  · replace hc := of_decide_eq_false hc
    rw [if_neg hc]
    with_reducible refine c_skip (q_then (c_seq (c_region ?_)))
    refine sD F (o_move (F.ev rfl) ?_); clear F a; intro a F
    refine sD F (o_assign (F.ev rfl) ?_); clear F a; intro a F
    with_reducible refine l_nil (q_then (c_ret ?_))
    refine p_ret F rfl (.cons (.tmp (F.ev rfl)) .nil) ?_
    exact ⟨rfl, M.ext⟩
end Go.Proofs.YtfedlkeiafcdmaaGreat
/-! RAsk -/
namespace Go.Proofs.YtfedlkeiafcdmaaGreat
set_option linter.unusedVariables false
set_option linter.unusedSimpArgs false
open Go.RowKit
theorem th_1 (a b c d : Int) : thOf a b c d 1267650600228229401496703205376 = a := by
  unfold thOf
  rw [show cstP 1267650600228229401496703205376 = 0 by decide +kernel, show rstP 1267650600228229401496703205376 = 1 by decide +kernel, show cstP 1 = 1 by decide +kernel, show rstP 1 = 0 by decide +kernel, show cstP 0 = 0 by decide +kernel, show rstP 0 = 0 by decide +kernel]
  simp only [show cstP 0 = 0 by decide +kernel, show rstP 0 = 0 by decide +kernel]
  omega
theorem th_2 (a b c d : Int) : thOf a b c d 1606938044258990275541962092341162602522202993782792835301376 = b := by
  unfold thOf
  rw [show cstP 1606938044258990275541962092341162602522202993782792835301376 = 0 by decide +kernel, show rstP 1606938044258990275541962092341162602522202993782792835301376 = 1267650600228229401496703205376 by decide +kernel, show cstP 1267650600228229401496703205376 = 0 by decide +kernel, show rstP 1267650600228229401496703205376 = 1 by decide +kernel, show cstP 1 = 1 by decide +kernel, show rstP 1 = 0 by decide +kernel, show cstP 0 = 0 by decide +kernel, show rstP 0 = 0 by decide +kernel]
  omega
theorem th_3 (a b c d : Int) : thOf a b c d 2037035976334486086268445688409378161051468393665936250636140449354381299763336706183397376 = c := by
  unfold thOf
  rw [show cstP 2037035976334486086268445688409378161051468393665936250636140449354381299763336706183397376 = 0 by decide +kernel, show rstP 2037035976334486086268445688409378161051468393665936250636140449354381299763336706183397376 = 1606938044258990275541962092341162602522202993782792835301376 by decide +kernel, show cstP 1606938044258990275541962092341162602522202993782792835301376 = 0 by decide +kernel, show rstP 1606938044258990275541962092341162602522202993782792835301376 = 1267650600228229401496703205376 by decide +kernel, show cstP 1267650600228229401496703205376 = 0 by decide +kernel, show rstP 1267650600228229401496703205376 = 1 by decide +kernel, show cstP 1 = 1 by decide +kernel, show rstP 1 = 0 by decide +kernel]
  omega
theorem th_4 (a b c d : Int) : thOf a b c d 2582249878086908589655919172003011874329705792829223512830659356540647622016841194629645353280137831435903171972747493376 = d := by
  unfold thOf
  rw [show cstP 2582249878086908589655919172003011874329705792829223512830659356540647622016841194629645353280137831435903171972747493376 = 0 by decide +kernel, show rstP 2582249878086908589655919172003011874329705792829223512830659356540647622016841194629645353280137831435903171972747493376 = 2037035976334486086268445688409378161051468393665936250636140449354381299763336706183397376 by decide +kernel, show cstP 2037035976334486086268445688409378161051468393665936250636140449354381299763336706183397376 = 0 by decide +kernel, show rstP 2037035976334486086268445688409378161051468393665936250636140449354381299763336706183397376 = 1606938044258990275541962092341162602522202993782792835301376 by decide +kernel, show cstP 1606938044258990275541962092341162602522202993782792835301376 = 0 by decide +kernel, show rstP 1606938044258990275541962092341162602522202993782792835301376 = 1267650600228229401496703205376 by decide +kernel, show cstP 1267650600228229401496703205376 = 0 by decide +kernel, show rstP 1267650600228229401496703205376 = 1 by decide +kernel]
  omega
section
variable [Y : Sy]
theorem VR.of {ρ : Rl} {k : IntKind} {n x : Int} (h : Y.th n = x) : VR ρ (.int k n) (.int k x) := h ▸ .int k n
end
theorem knownAsk_c (W : World) : Cal Tryz.prog 7 [].toArray W fun r w' => r = .bool true ∧ Ext [] W w' := true0_ok (fuel := 60) (by kernel_rfl) W
def askTb : List (FuncId × List Value × Value) := [(4, [.int .i64 2582249878086908589655919172003011874329705792829223512830659356540647622016841194629645353280137831435903171972747493376, .int .i64 1048576], .int .i64 2037035976334486086268445688409378161051468393665936250636140449354381299763336706183397376), (7, [], .bool true)]
theorem askTb_ok [Y : Sy] {x : Int} (h1 : Y.th 2582249878086908589655919172003011874329705792829223512830659356540647622016841194629645353280137831435903171972747493376 = x) (h2 : Y.th 2037035976334486086268445688409378161051468393665936250636140449354381299763336706183397376 = modI x 1048576) : ∀ q ∈ askTb, OrOk Tryz.prog q.1 q.2.1 q.2.2 := by
  intro q hq
  simp only [askTb, List.mem_cons, List.not_mem_nil, or_false] at hq
  rcases hq with rfl | rfl
  · intro ρ w us hv
    cases hv with
    | cons h t => cases t with
      | cons h' t' =>
        cases t'
        cases h
        cases h'
        rw [h1, Y.lit 1048576 (by decide +kernel)]
        exact (mod_c x 1048576 (by omega) (by omega) w).mono fun u w' hu => ⟨by rw [hu.1]; exact VR.of h2, hu.2⟩
  · intro ρ w us hv
    cases hv
    exact (knownAsk_c w).mono fun u w' hu => ⟨by rw [hu.1]; exact .bool true, hu.2⟩
theorem modI_bd (x n : Int) (hn : 0 < n) : 0 ≤ modI x n ∧ modI x n < n := by
  have hr := Int.tmod_lt_of_pos x hn
  have hr2 : -n < x.tmod n := by have := Int.tmod_lt_of_pos (-x) hn; rw [Int.neg_tmod] at this; omega
  unfold modI
  split <;> omega
theorem ask_n1 : cstP 1267650600228229401496703205376 = 0 := by decide +kernel
theorem ask_n2 : rstP 1267650600228229401496703205376 = 1 := by decide +kernel
theorem ask_n3 : cstP 1267650600228229401496703205377 = 1 := by decide +kernel
theorem ask_n4 : rstP 1267650600228229401496703205377 = 1 := by decide +kernel
theorem ask_n5 : cstP (-1267650600228229401496703205375) = 1 := by decide +kernel
theorem ask_n6 : rstP (-1267650600228229401496703205375) = -1 := by decide +kernel
theorem ask_n7 : cstP (-1267650600228229401496703205376) = 0 := by decide +kernel
theorem ask_n8 : rstP (-1267650600228229401496703205376) = -1 := by decide +kernel
theorem ask_n9 : cstP (-1) = -1 ∧ rstP (-1) = 0 := by decide +kernel
theorem ask_m1 : cstP 1606938044258990275541962092341162602522202993782792835301376 = 0 := by decide +kernel
theorem ask_m2 : rstP 1606938044258990275541962092341162602522202993782792835301376 = 1267650600228229401496703205376 := by decide +kernel
theorem ask_k1 : cstP (-1606938044258990275541962092341162602522202993782792835301376) = 0 := by decide +kernel
theorem ask_k2 : rstP (-1606938044258990275541962092341162602522202993782792835301376) = -1267650600228229401496703205376 := by decide +kernel
theorem ask_k3 : cstP (-1267650600228229401496703205377) = -1 := by decide +kernel
theorem ask_k4 : rstP (-1267650600228229401496703205377) = -1 := by decide +kernel
theorem ask_k5 : cstP (1267650600228229401496703205375) = -1 := by decide +kernel
theorem ask_k6 : rstP (1267650600228229401496703205375) = 1 := by decide +kernel
theorem ask_m3 : cstP (-1) = -1 := by decide +kernel
theorem ask_m4 : rstP (-1) = 0 := by decide +kernel
theorem ask0_a (s d x : Int)  (W : World) : Cal Tryz.prog 3 [.int .u16 (65535), .int .u16 (0), .int .i64 x].toArray W fun r w' => r = .bool true ∧ Ext [] W w' := by
  have hm := modI_bd x 1048576 (by omega)
  letI : Sy := syOf s d (modI x 1048576) x [(1606938044258990275541962092341162602522202993782792835301376, 0, 1048575), (-1606938044258990275541962092341162602522202993782792835301376, -1048575, 0)] (by
    intro q hq
    simp only [List.mem_cons, List.not_mem_nil, or_false] at hq
    rcases hq with rfl | rfl <;> (simp only [show cstP 0 = 0 by decide +kernel, show rstP 0 = 0 by decide +kernel, show cstP 1 = 1 by decide +kernel, show rstP 1 = 0 by decide +kernel, ask_n1, ask_n2, ask_n3, ask_n4, ask_n5, ask_n6, ask_n7, ask_n8, ask_n9, ask_m1, ask_m2, ask_m3, ask_m4, ask_k1, ask_k2, ask_k3, ask_k4, ask_k5, ask_k6] ; omega))
  have t1 : thOf s d (modI x 1048576) x 1267650600228229401496703205376 = s := th_1 ..
  have t2 : thOf s d (modI x 1048576) x 1606938044258990275541962092341162602522202993782792835301376 = d := th_2 ..
  refine trueK_ok (tb := askTb) (fuel := 60) (vs := [.int .u16 65535, .int .u16 0, .int .i64 2582249878086908589655919172003011874329705792829223512830659356540647622016841194629645353280137831435903171972747493376]) (askTb_ok (th_4 ..) (th_3 ..)) (by kernel_rfl) ?_ W
  exact .cons (VR.of (thOf_lit (by decide +kernel))) (.cons (VR.of (thOf_lit (by decide +kernel))) (.cons (VR.of (th_4 ..)) .nil))
theorem ask0_b (s d x : Int) (h0 : 0 ≤ s) (h1 : s < 65535) (W : World) : Cal Tryz.prog 3 [.int .u16 (s), .int .u16 (0), .int .i64 x].toArray W fun r w' => r = .bool true ∧ Ext [] W w' := by
  have hm := modI_bd x 1048576 (by omega)
  letI : Sy := syOf s d (modI x 1048576) x [(1, 0, 65534), (-1, -65534, 0), (1606938044258990275541962092341162602522202993782792835301376, 0, 1048575), (-1606938044258990275541962092341162602522202993782792835301376, -1048575, 0)] (by
    intro q hq
    simp only [List.mem_cons, List.not_mem_nil, or_false] at hq
    rcases hq with rfl | rfl | rfl | rfl <;> (simp only [show cstP 0 = 0 by decide +kernel, show rstP 0 = 0 by decide +kernel, show cstP 1 = 1 by decide +kernel, show rstP 1 = 0 by decide +kernel, ask_n1, ask_n2, ask_n3, ask_n4, ask_n5, ask_n6, ask_n7, ask_n8, ask_n9, ask_m1, ask_m2, ask_m3, ask_m4, ask_k1, ask_k2, ask_k3, ask_k4, ask_k5, ask_k6] ; omega))
  have t1 : thOf s d (modI x 1048576) x 1267650600228229401496703205376 = s := th_1 ..
  have t2 : thOf s d (modI x 1048576) x 1606938044258990275541962092341162602522202993782792835301376 = d := th_2 ..
  refine trueK_ok (tb := askTb) (fuel := 60) (vs := [.int .u16 1267650600228229401496703205376, .int .u16 0, .int .i64 2582249878086908589655919172003011874329705792829223512830659356540647622016841194629645353280137831435903171972747493376]) (askTb_ok (th_4 ..) (th_3 ..)) (by kernel_rfl) ?_ W
  exact .cons (VR.of t1) (.cons (VR.of (thOf_lit (by decide +kernel))) (.cons (VR.of (th_4 ..)) .nil))
theorem ask0_c (s d x : Int) (h2 : 1 ≤ d) (h3 : d ≤ 29999) (W : World) : Cal Tryz.prog 3 [.int .u16 (65535), .int .u16 (0 + d), .int .i64 x].toArray W fun r w' => r = .bool true ∧ Ext [] W w' := by
  have hm := modI_bd x 1048576 (by omega)
  letI : Sy := syOf s d (modI x 1048576) x [(1267650600228229401496703205376, 1, 29999), (-1267650600228229401496703205376, -29999, -1), (1606938044258990275541962092341162602522202993782792835301376, 0, 1048575), (-1606938044258990275541962092341162602522202993782792835301376, -1048575, 0)] (by
    intro q hq
    simp only [List.mem_cons, List.not_mem_nil, or_false] at hq
    rcases hq with rfl | rfl | rfl | rfl <;> (simp only [show cstP 0 = 0 by decide +kernel, show rstP 0 = 0 by decide +kernel, show cstP 1 = 1 by decide +kernel, show rstP 1 = 0 by decide +kernel, ask_n1, ask_n2, ask_n3, ask_n4, ask_n5, ask_n6, ask_n7, ask_n8, ask_n9, ask_m1, ask_m2, ask_m3, ask_m4, ask_k1, ask_k2, ask_k3, ask_k4, ask_k5, ask_k6] ; omega))
  have t1 : thOf s d (modI x 1048576) x 1267650600228229401496703205376 = s := th_1 ..
  have t2 : thOf s d (modI x 1048576) x 1606938044258990275541962092341162602522202993782792835301376 = d := th_2 ..
  refine trueK_ok (tb := askTb) (fuel := 60) (vs := [.int .u16 65535, .int .u16 1606938044258990275541962092341162602522202993782792835301376, .int .i64 2582249878086908589655919172003011874329705792829223512830659356540647622016841194629645353280137831435903171972747493376]) (askTb_ok (th_4 ..) (th_3 ..)) (by kernel_rfl) ?_ W
  exact .cons (VR.of (thOf_lit (by decide +kernel))) (.cons (VR.of (by show thOf _ _ _ _ _ = _; rw [t2]; omega)) (.cons (VR.of (th_4 ..)) .nil))
theorem ask0_d (s d x : Int) (h0 : 0 ≤ s) (h1 : s < 65535) (h2 : 1 ≤ d) (h3 : d ≤ 29999) (h4 : s + d < 65535) (h5 : d ≤ s) (W : World) : Cal Tryz.prog 3 [.int .u16 (s), .int .u16 (0 + d), .int .i64 x].toArray W fun r w' => r = .bool true ∧ Ext [] W w' := by
  have hm := modI_bd x 1048576 (by omega)
  letI : Sy := syOf s d (modI x 1048576) x [(1, 0, 65534), (-1, -65534, 0), (1267650600228229401496703205376, 1, 29999), (-1267650600228229401496703205376, -29999, -1), (1267650600228229401496703205377, 1, 65534), (-1267650600228229401496703205377, -65534, -1), (-1267650600228229401496703205375, 0, 65534), (1267650600228229401496703205375, -65534, 0), (1606938044258990275541962092341162602522202993782792835301376, 0, 1048575), (-1606938044258990275541962092341162602522202993782792835301376, -1048575, 0)] (by
    intro q hq
    simp only [List.mem_cons, List.not_mem_nil, or_false] at hq
    rcases hq with rfl | rfl | rfl | rfl | rfl | rfl | rfl | rfl | rfl | rfl <;> (simp only [show cstP 0 = 0 by decide +kernel, show rstP 0 = 0 by decide +kernel, show cstP 1 = 1 by decide +kernel, show rstP 1 = 0 by decide +kernel, ask_n1, ask_n2, ask_n3, ask_n4, ask_n5, ask_n6, ask_n7, ask_n8, ask_n9, ask_m1, ask_m2, ask_m3, ask_m4, ask_k1, ask_k2, ask_k3, ask_k4, ask_k5, ask_k6] ; omega))
  have t1 : thOf s d (modI x 1048576) x 1267650600228229401496703205376 = s := th_1 ..
  have t2 : thOf s d (modI x 1048576) x 1606938044258990275541962092341162602522202993782792835301376 = d := th_2 ..
  refine trueK_ok (tb := askTb) (fuel := 60) (vs := [.int .u16 1267650600228229401496703205376, .int .u16 1606938044258990275541962092341162602522202993782792835301376, .int .i64 2582249878086908589655919172003011874329705792829223512830659356540647622016841194629645353280137831435903171972747493376]) (askTb_ok (th_4 ..) (th_3 ..)) (by kernel_rfl) ?_ W
  exact .cons (VR.of t1) (.cons (VR.of (by show thOf _ _ _ _ _ = _; rw [t2]; omega)) (.cons (VR.of (th_4 ..)) .nil))
theorem ask0_e (s d x : Int) (h0 : 0 ≤ s) (h1 : s < 65535) (h2 : 1 ≤ d) (h3 : d ≤ 29999) (h4 : s + d < 65535) (h5 : s < d) (W : World) : Cal Tryz.prog 3 [.int .u16 (s), .int .u16 (0 + d), .int .i64 x].toArray W fun r w' => r = .bool true ∧ Ext [] W w' := by
  have hm := modI_bd x 1048576 (by omega)
  letI : Sy := syOf s d (modI x 1048576) x [(1, 0, 65534), (-1, -65534, 0), (1267650600228229401496703205376, 1, 29999), (-1267650600228229401496703205376, -29999, -1), (1267650600228229401496703205377, 1, 65534), (-1267650600228229401496703205377, -65534, -1), (-1267650600228229401496703205375, -29999, -1), (1267650600228229401496703205375, 1, 29999), (1606938044258990275541962092341162602522202993782792835301376, 0, 1048575), (-1606938044258990275541962092341162602522202993782792835301376, -1048575, 0)] (by
    intro q hq
    simp only [List.mem_cons, List.not_mem_nil, or_false] at hq
    rcases hq with rfl | rfl | rfl | rfl | rfl | rfl | rfl | rfl | rfl | rfl <;> (simp only [show cstP 0 = 0 by decide +kernel, show rstP 0 = 0 by decide +kernel, show cstP 1 = 1 by decide +kernel, show rstP 1 = 0 by decide +kernel, ask_n1, ask_n2, ask_n3, ask_n4, ask_n5, ask_n6, ask_n7, ask_n8, ask_n9, ask_m1, ask_m2, ask_m3, ask_m4, ask_k1, ask_k2, ask_k3, ask_k4, ask_k5, ask_k6] ; omega))
  have t1 : thOf s d (modI x 1048576) x 1267650600228229401496703205376 = s := th_1 ..
  have t2 : thOf s d (modI x 1048576) x 1606938044258990275541962092341162602522202993782792835301376 = d := th_2 ..
  refine trueK_ok (tb := askTb) (fuel := 60) (vs := [.int .u16 1267650600228229401496703205376, .int .u16 1606938044258990275541962092341162602522202993782792835301376, .int .i64 2582249878086908589655919172003011874329705792829223512830659356540647622016841194629645353280137831435903171972747493376]) (askTb_ok (th_4 ..) (th_3 ..)) (by kernel_rfl) ?_ W
  exact .cons (VR.of t1) (.cons (VR.of (by show thOf _ _ _ _ _ = _; rw [t2]; omega)) (.cons (VR.of (th_4 ..)) .nil))
theorem ask0_f (s d x : Int) (h0 : 0 ≤ s) (h1 : s < 65535) (h2 : 1 ≤ d) (h3 : d ≤ 29999) (h4 : 65535 ≤ s + d) (h5 : d ≤ s) (W : World) : Cal Tryz.prog 3 [.int .u16 (s), .int .u16 (0 + d), .int .i64 x].toArray W fun r w' => r = .bool true ∧ Ext [] W w' := by
  have hm := modI_bd x 1048576 (by omega)
  letI : Sy := syOf s d (modI x 1048576) x [(1, 0, 65534), (-1, -65534, 0), (1267650600228229401496703205376, 1, 29999), (-1267650600228229401496703205376, -29999, -1), (1267650600228229401496703205377, 65535, 95533), (-1267650600228229401496703205377, -95533, -65535), (-1267650600228229401496703205375, 0, 65534), (1267650600228229401496703205375, -65534, 0), (1606938044258990275541962092341162602522202993782792835301376, 0, 1048575), (-1606938044258990275541962092341162602522202993782792835301376, -1048575, 0)] (by
    intro q hq
    simp only [List.mem_cons, List.not_mem_nil, or_false] at hq
    rcases hq with rfl | rfl | rfl | rfl | rfl | rfl | rfl | rfl | rfl | rfl <;> (simp only [show cstP 0 = 0 by decide +kernel, show rstP 0 = 0 by decide +kernel, show cstP 1 = 1 by decide +kernel, show rstP 1 = 0 by decide +kernel, ask_n1, ask_n2, ask_n3, ask_n4, ask_n5, ask_n6, ask_n7, ask_n8, ask_n9, ask_m1, ask_m2, ask_m3, ask_m4, ask_k1, ask_k2, ask_k3, ask_k4, ask_k5, ask_k6] ; omega))
  have t1 : thOf s d (modI x 1048576) x 1267650600228229401496703205376 = s := th_1 ..
  have t2 : thOf s d (modI x 1048576) x 1606938044258990275541962092341162602522202993782792835301376 = d := th_2 ..
  refine trueK_ok (tb := askTb) (fuel := 60) (vs := [.int .u16 1267650600228229401496703205376, .int .u16 1606938044258990275541962092341162602522202993782792835301376, .int .i64 2582249878086908589655919172003011874329705792829223512830659356540647622016841194629645353280137831435903171972747493376]) (askTb_ok (th_4 ..) (th_3 ..)) (by kernel_rfl) ?_ W
  exact .cons (VR.of t1) (.cons (VR.of (by show thOf _ _ _ _ _ = _; rw [t2]; omega)) (.cons (VR.of (th_4 ..)) .nil))
theorem ask1_a (s d x : Int)  (W : World) : Cal Tryz.prog 3 [.int .u16 (65535), .int .u16 (30000), .int .i64 x].toArray W fun r w' => r = .bool true ∧ Ext [] W w' := by
  have hm := modI_bd x 1048576 (by omega)
  letI : Sy := syOf s d (modI x 1048576) x [(1606938044258990275541962092341162602522202993782792835301376, 0, 1048575), (-1606938044258990275541962092341162602522202993782792835301376, -1048575, 0)] (by
    intro q hq
    simp only [List.mem_cons, List.not_mem_nil, or_false] at hq
    rcases hq with rfl | rfl <;> (simp only [show cstP 0 = 0 by decide +kernel, show rstP 0 = 0 by decide +kernel, show cstP 1 = 1 by decide +kernel, show rstP 1 = 0 by decide +kernel, ask_n1, ask_n2, ask_n3, ask_n4, ask_n5, ask_n6, ask_n7, ask_n8, ask_n9, ask_m1, ask_m2, ask_m3, ask_m4, ask_k1, ask_k2, ask_k3, ask_k4, ask_k5, ask_k6] ; omega))
  have t1 : thOf s d (modI x 1048576) x 1267650600228229401496703205376 = s := th_1 ..
  have t2 : thOf s d (modI x 1048576) x 1606938044258990275541962092341162602522202993782792835301376 = d := th_2 ..
  refine trueK_ok (tb := askTb) (fuel := 60) (vs := [.int .u16 65535, .int .u16 30000, .int .i64 2582249878086908589655919172003011874329705792829223512830659356540647622016841194629645353280137831435903171972747493376]) (askTb_ok (th_4 ..) (th_3 ..)) (by kernel_rfl) ?_ W
  exact .cons (VR.of (thOf_lit (by decide +kernel))) (.cons (VR.of (thOf_lit (by decide +kernel))) (.cons (VR.of (th_4 ..)) .nil))
theorem ask1_b (s d x : Int) (h0 : 0 ≤ s) (h1 : s < 65535) (W : World) : Cal Tryz.prog 3 [.int .u16 (s), .int .u16 (30000), .int .i64 x].toArray W fun r w' => r = .bool true ∧ Ext [] W w' := by
  have hm := modI_bd x 1048576 (by omega)
  letI : Sy := syOf s d (modI x 1048576) x [(1, 0, 65534), (-1, -65534, 0), (1606938044258990275541962092341162602522202993782792835301376, 0, 1048575), (-1606938044258990275541962092341162602522202993782792835301376, -1048575, 0)] (by
    intro q hq
    simp only [List.mem_cons, List.not_mem_nil, or_false] at hq
    rcases hq with rfl | rfl | rfl | rfl <;> (simp only [show cstP 0 = 0 by decide +kernel, show rstP 0 = 0 by decide +kernel, show cstP 1 = 1 by decide +kernel, show rstP 1 = 0 by decide +kernel, ask_n1, ask_n2, ask_n3, ask_n4, ask_n5, ask_n6, ask_n7, ask_n8, ask_n9, ask_m1, ask_m2, ask_m3, ask_m4, ask_k1, ask_k2, ask_k3, ask_k4, ask_k5, ask_k6] ; omega))
  have t1 : thOf s d (modI x 1048576) x 1267650600228229401496703205376 = s := th_1 ..
  have t2 : thOf s d (modI x 1048576) x 1606938044258990275541962092341162602522202993782792835301376 = d := th_2 ..
  refine trueK_ok (tb := askTb) (fuel := 60) (vs := [.int .u16 1267650600228229401496703205376, .int .u16 30000, .int .i64 2582249878086908589655919172003011874329705792829223512830659356540647622016841194629645353280137831435903171972747493376]) (askTb_ok (th_4 ..) (th_3 ..)) (by kernel_rfl) ?_ W
  exact .cons (VR.of t1) (.cons (VR.of (thOf_lit (by decide +kernel))) (.cons (VR.of (th_4 ..)) .nil))
theorem ask1_c (s d x : Int) (h2 : 1 ≤ d) (h3 : d ≤ 29999) (W : World) : Cal Tryz.prog 3 [.int .u16 (65535), .int .u16 (30000 + d), .int .i64 x].toArray W fun r w' => r = .bool true ∧ Ext [] W w' := by
  have hm := modI_bd x 1048576 (by omega)
  letI : Sy := syOf s d (modI x 1048576) x [(1267650600228229401496703205376, 1, 29999), (-1267650600228229401496703205376, -29999, -1), (1606938044258990275541962092341162602522202993782792835301376, 0, 1048575), (-1606938044258990275541962092341162602522202993782792835301376, -1048575, 0)] (by
    intro q hq
    simp only [List.mem_cons, List.not_mem_nil, or_false] at hq
    rcases hq with rfl | rfl | rfl | rfl <;> (simp only [show cstP 0 = 0 by decide +kernel, show rstP 0 = 0 by decide +kernel, show cstP 1 = 1 by decide +kernel, show rstP 1 = 0 by decide +kernel, ask_n1, ask_n2, ask_n3, ask_n4, ask_n5, ask_n6, ask_n7, ask_n8, ask_n9, ask_m1, ask_m2, ask_m3, ask_m4, ask_k1, ask_k2, ask_k3, ask_k4, ask_k5, ask_k6] ; omega))
  have t1 : thOf s d (modI x 1048576) x 1267650600228229401496703205376 = s := th_1 ..
  have t2 : thOf s d (modI x 1048576) x 1606938044258990275541962092341162602522202993782792835301376 = d := th_2 ..
  refine trueK_ok (tb := askTb) (fuel := 60) (vs := [.int .u16 65535, .int .u16 1606938044258990275541962092341162602522202993782792835331376, .int .i64 2582249878086908589655919172003011874329705792829223512830659356540647622016841194629645353280137831435903171972747493376]) (askTb_ok (th_4 ..) (th_3 ..)) (by kernel_rfl) ?_ W
  exact .cons (VR.of (thOf_lit (by decide +kernel))) (.cons (VR.of (by show thOf _ _ _ _ _ = _; rw [show (1606938044258990275541962092341162602522202993782792835331376 : Int) = 30000 + 1606938044258990275541962092341162602522202993782792835301376 by decide +kernel, thOf_add (by decide +kernel) (by decide +kernel), t2, thOf_lit (by decide +kernel)])) (.cons (VR.of (th_4 ..)) .nil))
theorem ask1_d (s d x : Int) (h0 : 0 ≤ s) (h1 : s < 65535) (h2 : 1 ≤ d) (h3 : d ≤ 29999) (h4 : s + d < 65535) (h5 : d ≤ s) (W : World) : Cal Tryz.prog 3 [.int .u16 (s), .int .u16 (30000 + d), .int .i64 x].toArray W fun r w' => r = .bool true ∧ Ext [] W w' := by
  have hm := modI_bd x 1048576 (by omega)
  letI : Sy := syOf s d (modI x 1048576) x [(1, 0, 65534), (-1, -65534, 0), (1267650600228229401496703205376, 1, 29999), (-1267650600228229401496703205376, -29999, -1), (1267650600228229401496703205377, 1, 65534), (-1267650600228229401496703205377, -65534, -1), (-1267650600228229401496703205375, 0, 65534), (1267650600228229401496703205375, -65534, 0), (1606938044258990275541962092341162602522202993782792835301376, 0, 1048575), (-1606938044258990275541962092341162602522202993782792835301376, -1048575, 0)] (by
    intro q hq
    simp only [List.mem_cons, List.not_mem_nil, or_false] at hq
    rcases hq with rfl | rfl | rfl | rfl | rfl | rfl | rfl | rfl | rfl | rfl <;> (simp only [show cstP 0 = 0 by decide +kernel, show rstP 0 = 0 by decide +kernel, show cstP 1 = 1 by decide +kernel, show rstP 1 = 0 by decide +kernel, ask_n1, ask_n2, ask_n3, ask_n4, ask_n5, ask_n6, ask_n7, ask_n8, ask_n9, ask_m1, ask_m2, ask_m3, ask_m4, ask_k1, ask_k2, ask_k3, ask_k4, ask_k5, ask_k6] ; omega))
  have t1 : thOf s d (modI x 1048576) x 1267650600228229401496703205376 = s := th_1 ..
  have t2 : thOf s d (modI x 1048576) x 1606938044258990275541962092341162602522202993782792835301376 = d := th_2 ..
  refine trueK_ok (tb := askTb) (fuel := 60) (vs := [.int .u16 1267650600228229401496703205376, .int .u16 1606938044258990275541962092341162602522202993782792835331376, .int .i64 2582249878086908589655919172003011874329705792829223512830659356540647622016841194629645353280137831435903171972747493376]) (askTb_ok (th_4 ..) (th_3 ..)) (by kernel_rfl) ?_ W
  exact .cons (VR.of t1) (.cons (VR.of (by show thOf _ _ _ _ _ = _; rw [show (1606938044258990275541962092341162602522202993782792835331376 : Int) = 30000 + 1606938044258990275541962092341162602522202993782792835301376 by decide +kernel, thOf_add (by decide +kernel) (by decide +kernel), t2, thOf_lit (by decide +kernel)])) (.cons (VR.of (th_4 ..)) .nil))
theorem ask1_e (s d x : Int) (h0 : 0 ≤ s) (h1 : s < 65535) (h2 : 1 ≤ d) (h3 : d ≤ 29999) (h4 : s + d < 65535) (h5 : s < d) (W : World) : Cal Tryz.prog 3 [.int .u16 (s), .int .u16 (30000 + d), .int .i64 x].toArray W fun r w' => r = .bool true ∧ Ext [] W w' := by
  have hm := modI_bd x 1048576 (by omega)
  letI : Sy := syOf s d (modI x 1048576) x [(1, 0, 65534), (-1, -65534, 0), (1267650600228229401496703205376, 1, 29999), (-1267650600228229401496703205376, -29999, -1), (1267650600228229401496703205377, 1, 65534), (-1267650600228229401496703205377, -65534, -1), (-1267650600228229401496703205375, -29999, -1), (1267650600228229401496703205375, 1, 29999), (1606938044258990275541962092341162602522202993782792835301376, 0, 1048575), (-1606938044258990275541962092341162602522202993782792835301376, -1048575, 0)] (by
    intro q hq
    simp only [List.mem_cons, List.not_mem_nil, or_false] at hq
    rcases hq with rfl | rfl | rfl | rfl | rfl | rfl | rfl | rfl | rfl | rfl <;> (simp only [show cstP 0 = 0 by decide +kernel, show rstP 0 = 0 by decide +kernel, show cstP 1 = 1 by decide +kernel, show rstP 1 = 0 by decide +kernel, ask_n1, ask_n2, ask_n3, ask_n4, ask_n5, ask_n6, ask_n7, ask_n8, ask_n9, ask_m1, ask_m2, ask_m3, ask_m4, ask_k1, ask_k2, ask_k3, ask_k4, ask_k5, ask_k6] ; omega))
  have t1 : thOf s d (modI x 1048576) x 1267650600228229401496703205376 = s := th_1 ..
  have t2 : thOf s d (modI x 1048576) x 1606938044258990275541962092341162602522202993782792835301376 = d := th_2 ..
  refine trueK_ok (tb := askTb) (fuel := 60) (vs := [.int .u16 1267650600228229401496703205376, .int .u16 1606938044258990275541962092341162602522202993782792835331376, .int .i64 2582249878086908589655919172003011874329705792829223512830659356540647622016841194629645353280137831435903171972747493376]) (askTb_ok (th_4 ..) (th_3 ..)) (by kernel_rfl) ?_ W
  exact .cons (VR.of t1) (.cons (VR.of (by show thOf _ _ _ _ _ = _; rw [show (1606938044258990275541962092341162602522202993782792835331376 : Int) = 30000 + 1606938044258990275541962092341162602522202993782792835301376 by decide +kernel, thOf_add (by decide +kernel) (by decide +kernel), t2, thOf_lit (by decide +kernel)])) (.cons (VR.of (th_4 ..)) .nil))
theorem ask1_f (s d x : Int) (h0 : 0 ≤ s) (h1 : s < 65535) (h2 : 1 ≤ d) (h3 : d ≤ 29999) (h4 : 65535 ≤ s + d) (h5 : d ≤ s) (W : World) : Cal Tryz.prog 3 [.int .u16 (s), .int .u16 (30000 + d), .int .i64 x].toArray W fun r w' => r = .bool true ∧ Ext [] W w' := by
  have hm := modI_bd x 1048576 (by omega)
  letI : Sy := syOf s d (modI x 1048576) x [(1, 0, 65534), (-1, -65534, 0), (1267650600228229401496703205376, 1, 29999), (-1267650600228229401496703205376, -29999, -1), (1267650600228229401496703205377, 65535, 95533), (-1267650600228229401496703205377, -95533, -65535), (-1267650600228229401496703205375, 0, 65534), (1267650600228229401496703205375, -65534, 0), (1606938044258990275541962092341162602522202993782792835301376, 0, 1048575), (-1606938044258990275541962092341162602522202993782792835301376, -1048575, 0)] (by
    intro q hq
    simp only [List.mem_cons, List.not_mem_nil, or_false] at hq
    rcases hq with rfl | rfl | rfl | rfl | rfl | rfl | rfl | rfl | rfl | rfl <;> (simp only [show cstP 0 = 0 by decide +kernel, show rstP 0 = 0 by decide +kernel, show cstP 1 = 1 by decide +kernel, show rstP 1 = 0 by decide +kernel, ask_n1, ask_n2, ask_n3, ask_n4, ask_n5, ask_n6, ask_n7, ask_n8, ask_n9, ask_m1, ask_m2, ask_m3, ask_m4, ask_k1, ask_k2, ask_k3, ask_k4, ask_k5, ask_k6] ; omega))
  have t1 : thOf s d (modI x 1048576) x 1267650600228229401496703205376 = s := th_1 ..
  have t2 : thOf s d (modI x 1048576) x 1606938044258990275541962092341162602522202993782792835301376 = d := th_2 ..
  refine trueK_ok (tb := askTb) (fuel := 60) (vs := [.int .u16 1267650600228229401496703205376, .int .u16 1606938044258990275541962092341162602522202993782792835331376, .int .i64 2582249878086908589655919172003011874329705792829223512830659356540647622016841194629645353280137831435903171972747493376]) (askTb_ok (th_4 ..) (th_3 ..)) (by kernel_rfl) ?_ W
  exact .cons (VR.of t1) (.cons (VR.of (by show thOf _ _ _ _ _ = _; rw [show (1606938044258990275541962092341162602522202993782792835331376 : Int) = 30000 + 1606938044258990275541962092341162602522202993782792835301376 by decide +kernel, thOf_add (by decide +kernel) (by decide +kernel), t2, thOf_lit (by decide +kernel)])) (.cons (VR.of (th_4 ..)) .nil))
theorem ask2_a (s d x : Int)  (W : World) : Cal Tryz.prog 3 [.int .u16 (65535), .int .u16 (60000), .int .i64 x].toArray W fun r w' => r = .bool true ∧ Ext [] W w' := by
  have hm := modI_bd x 1048576 (by omega)
  letI : Sy := syOf s d (modI x 1048576) x [(1606938044258990275541962092341162602522202993782792835301376, 0, 1048575), (-1606938044258990275541962092341162602522202993782792835301376, -1048575, 0)] (by
    intro q hq
    simp only [List.mem_cons, List.not_mem_nil, or_false] at hq
    rcases hq with rfl | rfl <;> (simp only [show cstP 0 = 0 by decide +kernel, show rstP 0 = 0 by decide +kernel, show cstP 1 = 1 by decide +kernel, show rstP 1 = 0 by decide +kernel, ask_n1, ask_n2, ask_n3, ask_n4, ask_n5, ask_n6, ask_n7, ask_n8, ask_n9, ask_m1, ask_m2, ask_m3, ask_m4, ask_k1, ask_k2, ask_k3, ask_k4, ask_k5, ask_k6] ; omega))
  have t1 : thOf s d (modI x 1048576) x 1267650600228229401496703205376 = s := th_1 ..
  have t2 : thOf s d (modI x 1048576) x 1606938044258990275541962092341162602522202993782792835301376 = d := th_2 ..
  refine trueK_ok (tb := askTb) (fuel := 60) (vs := [.int .u16 65535, .int .u16 60000, .int .i64 2582249878086908589655919172003011874329705792829223512830659356540647622016841194629645353280137831435903171972747493376]) (askTb_ok (th_4 ..) (th_3 ..)) (by kernel_rfl) ?_ W
  exact .cons (VR.of (thOf_lit (by decide +kernel))) (.cons (VR.of (thOf_lit (by decide +kernel))) (.cons (VR.of (th_4 ..)) .nil))
theorem ask2_b (s d x : Int) (h0 : 0 ≤ s) (h1 : s < 65535) (W : World) : Cal Tryz.prog 3 [.int .u16 (s), .int .u16 (60000), .int .i64 x].toArray W fun r w' => r = .bool true ∧ Ext [] W w' := by
  have hm := modI_bd x 1048576 (by omega)
  letI : Sy := syOf s d (modI x 1048576) x [(1, 0, 65534), (-1, -65534, 0), (1606938044258990275541962092341162602522202993782792835301376, 0, 1048575), (-1606938044258990275541962092341162602522202993782792835301376, -1048575, 0)] (by
    intro q hq
    simp only [List.mem_cons, List.not_mem_nil, or_false] at hq
    rcases hq with rfl | rfl | rfl | rfl <;> (simp only [show cstP 0 = 0 by decide +kernel, show rstP 0 = 0 by decide +kernel, show cstP 1 = 1 by decide +kernel, show rstP 1 = 0 by decide +kernel, ask_n1, ask_n2, ask_n3, ask_n4, ask_n5, ask_n6, ask_n7, ask_n8, ask_n9, ask_m1, ask_m2, ask_m3, ask_m4, ask_k1, ask_k2, ask_k3, ask_k4, ask_k5, ask_k6] ; omega))
  have t1 : thOf s d (modI x 1048576) x 1267650600228229401496703205376 = s := th_1 ..
  have t2 : thOf s d (modI x 1048576) x 1606938044258990275541962092341162602522202993782792835301376 = d := th_2 ..
  refine trueK_ok (tb := askTb) (fuel := 60) (vs := [.int .u16 1267650600228229401496703205376, .int .u16 60000, .int .i64 2582249878086908589655919172003011874329705792829223512830659356540647622016841194629645353280137831435903171972747493376]) (askTb_ok (th_4 ..) (th_3 ..)) (by kernel_rfl) ?_ W
  exact .cons (VR.of t1) (.cons (VR.of (thOf_lit (by decide +kernel))) (.cons (VR.of (th_4 ..)) .nil))
theorem ask2_c (s d x : Int) (h2 : 1 ≤ d) (h3 : d ≤ 5535) (W : World) : Cal Tryz.prog 3 [.int .u16 (65535), .int .u16 (60000 + d), .int .i64 x].toArray W fun r w' => r = .bool true ∧ Ext [] W w' := by
  have hm := modI_bd x 1048576 (by omega)
  letI : Sy := syOf s d (modI x 1048576) x [(1267650600228229401496703205376, 1, 5535), (-1267650600228229401496703205376, -5535, -1), (1606938044258990275541962092341162602522202993782792835301376, 0, 1048575), (-1606938044258990275541962092341162602522202993782792835301376, -1048575, 0)] (by
    intro q hq
    simp only [List.mem_cons, List.not_mem_nil, or_false] at hq
    rcases hq with rfl | rfl | rfl | rfl <;> (simp only [show cstP 0 = 0 by decide +kernel, show rstP 0 = 0 by decide +kernel, show cstP 1 = 1 by decide +kernel, show rstP 1 = 0 by decide +kernel, ask_n1, ask_n2, ask_n3, ask_n4, ask_n5, ask_n6, ask_n7, ask_n8, ask_n9, ask_m1, ask_m2, ask_m3, ask_m4, ask_k1, ask_k2, ask_k3, ask_k4, ask_k5, ask_k6] ; omega))
  have t1 : thOf s d (modI x 1048576) x 1267650600228229401496703205376 = s := th_1 ..
  have t2 : thOf s d (modI x 1048576) x 1606938044258990275541962092341162602522202993782792835301376 = d := th_2 ..
  refine trueK_ok (tb := askTb) (fuel := 60) (vs := [.int .u16 65535, .int .u16 1606938044258990275541962092341162602522202993782792835361376, .int .i64 2582249878086908589655919172003011874329705792829223512830659356540647622016841194629645353280137831435903171972747493376]) (askTb_ok (th_4 ..) (th_3 ..)) (by kernel_rfl) ?_ W
  exact .cons (VR.of (thOf_lit (by decide +kernel))) (.cons (VR.of (by show thOf _ _ _ _ _ = _; rw [show (1606938044258990275541962092341162602522202993782792835361376 : Int) = 60000 + 1606938044258990275541962092341162602522202993782792835301376 by decide +kernel, thOf_add (by decide +kernel) (by decide +kernel), t2, thOf_lit (by decide +kernel)])) (.cons (VR.of (th_4 ..)) .nil))
theorem ask2_d (s d x : Int) (h0 : 0 ≤ s) (h1 : s < 65535) (h2 : 1 ≤ d) (h3 : d ≤ 5535) (h4 : s + d < 65535) (h5 : d ≤ s) (W : World) : Cal Tryz.prog 3 [.int .u16 (s), .int .u16 (60000 + d), .int .i64 x].toArray W fun r w' => r = .bool true ∧ Ext [] W w' := by
  have hm := modI_bd x 1048576 (by omega)
  letI : Sy := syOf s d (modI x 1048576) x [(1, 0, 65534), (-1, -65534, 0), (1267650600228229401496703205376, 1, 5535), (-1267650600228229401496703205376, -5535, -1), (1267650600228229401496703205377, 1, 65534), (-1267650600228229401496703205377, -65534, -1), (-1267650600228229401496703205375, 0, 65534), (1267650600228229401496703205375, -65534, 0), (1606938044258990275541962092341162602522202993782792835301376, 0, 1048575), (-1606938044258990275541962092341162602522202993782792835301376, -1048575, 0)] (by
    intro q hq
    simp only [List.mem_cons, List.not_mem_nil, or_false] at hq
    rcases hq with rfl | rfl | rfl | rfl | rfl | rfl | rfl | rfl | rfl | rfl <;> (simp only [show cstP 0 = 0 by decide +kernel, show rstP 0 = 0 by decide +kernel, show cstP 1 = 1 by decide +kernel, show rstP 1 = 0 by decide +kernel, ask_n1, ask_n2, ask_n3, ask_n4, ask_n5, ask_n6, ask_n7, ask_n8, ask_n9, ask_m1, ask_m2, ask_m3, ask_m4, ask_k1, ask_k2, ask_k3, ask_k4, ask_k5, ask_k6] ; omega))
  have t1 : thOf s d (modI x 1048576) x 1267650600228229401496703205376 = s := th_1 ..
  have t2 : thOf s d (modI x 1048576) x 1606938044258990275541962092341162602522202993782792835301376 = d := th_2 ..
  refine trueK_ok (tb := askTb) (fuel := 60) (vs := [.int .u16 1267650600228229401496703205376, .int .u16 1606938044258990275541962092341162602522202993782792835361376, .int .i64 2582249878086908589655919172003011874329705792829223512830659356540647622016841194629645353280137831435903171972747493376]) (askTb_ok (th_4 ..) (th_3 ..)) (by kernel_rfl) ?_ W
  exact .cons (VR.of t1) (.cons (VR.of (by show thOf _ _ _ _ _ = _; rw [show (1606938044258990275541962092341162602522202993782792835361376 : Int) = 60000 + 1606938044258990275541962092341162602522202993782792835301376 by decide +kernel, thOf_add (by decide +kernel) (by decide +kernel), t2, thOf_lit (by decide +kernel)])) (.cons (VR.of (th_4 ..)) .nil))
theorem ask2_e (s d x : Int) (h0 : 0 ≤ s) (h1 : s < 65535) (h2 : 1 ≤ d) (h3 : d ≤ 5535) (h4 : s + d < 65535) (h5 : s < d) (W : World) : Cal Tryz.prog 3 [.int .u16 (s), .int .u16 (60000 + d), .int .i64 x].toArray W fun r w' => r = .bool true ∧ Ext [] W w' := by
  have hm := modI_bd x 1048576 (by omega)
  letI : Sy := syOf s d (modI x 1048576) x [(1, 0, 65534), (-1, -65534, 0), (1267650600228229401496703205376, 1, 5535), (-1267650600228229401496703205376, -5535, -1), (1267650600228229401496703205377, 1, 65534), (-1267650600228229401496703205377, -65534, -1), (-1267650600228229401496703205375, -5535, -1), (1267650600228229401496703205375, 1, 5535), (1606938044258990275541962092341162602522202993782792835301376, 0, 1048575), (-1606938044258990275541962092341162602522202993782792835301376, -1048575, 0)] (by
    intro q hq
    simp only [List.mem_cons, List.not_mem_nil, or_false] at hq
    rcases hq with rfl | rfl | rfl | rfl | rfl | rfl | rfl | rfl | rfl | rfl <;> (simp only [show cstP 0 = 0 by decide +kernel, show rstP 0 = 0 by decide +kernel, show cstP 1 = 1 by decide +kernel, show rstP 1 = 0 by decide +kernel, ask_n1, ask_n2, ask_n3, ask_n4, ask_n5, ask_n6, ask_n7, ask_n8, ask_n9, ask_m1, ask_m2, ask_m3, ask_m4, ask_k1, ask_k2, ask_k3, ask_k4, ask_k5, ask_k6] ; omega))
  have t1 : thOf s d (modI x 1048576) x 1267650600228229401496703205376 = s := th_1 ..
  have t2 : thOf s d (modI x 1048576) x 1606938044258990275541962092341162602522202993782792835301376 = d := th_2 ..
  refine trueK_ok (tb := askTb) (fuel := 60) (vs := [.int .u16 1267650600228229401496703205376, .int .u16 1606938044258990275541962092341162602522202993782792835361376, .int .i64 2582249878086908589655919172003011874329705792829223512830659356540647622016841194629645353280137831435903171972747493376]) (askTb_ok (th_4 ..) (th_3 ..)) (by kernel_rfl) ?_ W
  exact .cons (VR.of t1) (.cons (VR.of (by show thOf _ _ _ _ _ = _; rw [show (1606938044258990275541962092341162602522202993782792835361376 : Int) = 60000 + 1606938044258990275541962092341162602522202993782792835301376 by decide +kernel, thOf_add (by decide +kernel) (by decide +kernel), t2, thOf_lit (by decide +kernel)])) (.cons (VR.of (th_4 ..)) .nil))
theorem ask2_f (s d x : Int) (h0 : 0 ≤ s) (h1 : s < 65535) (h2 : 1 ≤ d) (h3 : d ≤ 5535) (h4 : 65535 ≤ s + d) (h5 : d ≤ s) (W : World) : Cal Tryz.prog 3 [.int .u16 (s), .int .u16 (60000 + d), .int .i64 x].toArray W fun r w' => r = .bool true ∧ Ext [] W w' := by
  have hm := modI_bd x 1048576 (by omega)
  letI : Sy := syOf s d (modI x 1048576) x [(1, 0, 65534), (-1, -65534, 0), (1267650600228229401496703205376, 1, 5535), (-1267650600228229401496703205376, -5535, -1), (1267650600228229401496703205377, 65535, 71069), (-1267650600228229401496703205377, -71069, -65535), (-1267650600228229401496703205375, 0, 65534), (1267650600228229401496703205375, -65534, 0), (1606938044258990275541962092341162602522202993782792835301376, 0, 1048575), (-1606938044258990275541962092341162602522202993782792835301376, -1048575, 0)] (by
    intro q hq
    simp only [List.mem_cons, List.not_mem_nil, or_false] at hq
    rcases hq with rfl | rfl | rfl | rfl | rfl | rfl | rfl | rfl | rfl | rfl <;> (simp only [show cstP 0 = 0 by decide +kernel, show rstP 0 = 0 by decide +kernel, show cstP 1 = 1 by decide +kernel, show rstP 1 = 0 by decide +kernel, ask_n1, ask_n2, ask_n3, ask_n4, ask_n5, ask_n6, ask_n7, ask_n8, ask_n9, ask_m1, ask_m2, ask_m3, ask_m4, ask_k1, ask_k2, ask_k3, ask_k4, ask_k5, ask_k6] ; omega))
  have t1 : thOf s d (modI x 1048576) x 1267650600228229401496703205376 = s := th_1 ..
  have t2 : thOf s d (modI x 1048576) x 1606938044258990275541962092341162602522202993782792835301376 = d := th_2 ..
  refine trueK_ok (tb := askTb) (fuel := 60) (vs := [.int .u16 1267650600228229401496703205376, .int .u16 1606938044258990275541962092341162602522202993782792835361376, .int .i64 2582249878086908589655919172003011874329705792829223512830659356540647622016841194629645353280137831435903171972747493376]) (askTb_ok (th_4 ..) (th_3 ..)) (by kernel_rfl) ?_ W
  exact .cons (VR.of t1) (.cons (VR.of (by show thOf _ _ _ _ _ = _; rw [show (1606938044258990275541962092341162602522202993782792835361376 : Int) = 60000 + 1606938044258990275541962092341162602522202993782792835301376 by decide +kernel, thOf_add (by decide +kernel) (by decide +kernel), t2, thOf_lit (by decide +kernel)])) (.cons (VR.of (th_4 ..)) .nil))
theorem asks_c (s n x : Int) (hs : 0 ≤ s ∧ s ≤ 65535) (hn : 0 ≤ n ∧ n ≤ 65535) (W : World) : Cal Tryz.prog 3 [.int .u16 s, .int .u16 n, .int .i64 x].toArray W fun r w' => r = .bool true ∧ Ext [] W w' := by
  have h : ∃ q d : Int, n = 30000 * q + d ∧ 0 ≤ d ∧ d < 30000 := ⟨n / 30000, n % 30000, by omega, by omega, by omega⟩
  obtain ⟨q, d, rfl, h1, h2⟩ := h
  have hq : q = 0 ∨ q = 1 ∨ q = 2 := by omega
  rcases hq with rfl | rfl | rfl
  · have e : ∀ d : Int, 30000 * 0 + d = 0 + d := fun d => by omega
    rw [e] at hn ⊢
    by_cases hd : d = 0
    · subst hd
      by_cases hs0 : s = 65535
      · subst hs0
        exact ask0_a 0 0 x W
      · exact ask0_b s 0 x (by omega) (by omega) W
    · by_cases hs0 : s = 65535
      · subst hs0
        exact ask0_c 0 d x (by omega) (by omega) W
      · by_cases h3 : s + d < 65535
        · by_cases h4 : d ≤ s
          · exact ask0_d s d x (by omega) (by omega) (by omega) (by omega) h3 h4 W
          · exact ask0_e s d x (by omega) (by omega) (by omega) (by omega) h3 (by omega) W
        · exact ask0_f s d x (by omega) (by omega) (by omega) (by omega) (by omega) (by omega) W
  · have e : ∀ d : Int, 30000 * 1 + d = 30000 + d := fun d => by omega
    rw [e] at hn ⊢
    by_cases hd : d = 0
    · subst hd
      by_cases hs0 : s = 65535
      · subst hs0
        exact ask1_a 0 0 x W
      · exact ask1_b s 0 x (by omega) (by omega) W
    · by_cases hs0 : s = 65535
      · subst hs0
        exact ask1_c 0 d x (by omega) (by omega) W
      · by_cases h3 : s + d < 65535
        · by_cases h4 : d ≤ s
          · exact ask1_d s d x (by omega) (by omega) (by omega) (by omega) h3 h4 W
          · exact ask1_e s d x (by omega) (by omega) (by omega) (by omega) h3 (by omega) W
        · exact ask1_f s d x (by omega) (by omega) (by omega) (by omega) (by omega) (by omega) W
  · have e : ∀ d : Int, 30000 * 2 + d = 60000 + d := fun d => by omega
    rw [e] at hn ⊢
    by_cases hd : d = 0
    · subst hd
      by_cases hs0 : s = 65535
      · subst hs0
        exact ask2_a 0 0 x W
      · exact ask2_b s 0 x (by omega) (by omega) W
    · by_cases hs0 : s = 65535
      · subst hs0
        exact ask2_c 0 d x (by omega) (by omega) W
      · by_cases h3 : s + d < 65535
        · by_cases h4 : d ≤ s
          · exact ask2_d s d x (by omega) (by omega) (by omega) (by omega) h3 h4 W
          · exact ask2_e s d x (by omega) (by omega) (by omega) (by omega) h3 (by omega) W
        · exact ask2_f s d x (by omega) (by omega) (by omega) (by omega) (by omega) (by omega) W
end Go.Proofs.YtfedlkeiafcdmaaGreat
namespace Go.Proofs.YtfedlkeiafcdmaaGreat
set_option linter.unusedVariables false
set_option linter.unusedSimpArgs false
open Go.ChangeShapes Go.WideShapes Go.ChangeAt Go.RowKit
set_option maxRecDepth 100000 in
theorem routerAsks_contract (H : Type) (enc : TypeId × Value → H) (W : World) (base : Nat) (args : Array Value) (ds gs : List (DataW H)) (before : List MemPlace)
    (hval : ∀ (j : Nat) t v, Tryz.f3.params[j]? = some t → args[j]? = some v → Value.okWide Tryz.prog W .any base t v)
    (hW : DataW.Whole enc Tryz.prog Tryz.f3.params.toList Rows.routerAsksSpec.vars false W args.toList ds gs before) (hL : laidMetH Tryz.prog seatLaid W) (hS : W.ShapedOpen Tryz.prog) :
    Calls Tryz.prog 3 args W fun e W' => ∃ v, e = .returned v ∧ Rows.routerAsksSpec.post enc Tryz.prog Tryz.f3 false true false false W args v W' := by
  have hW' := hW
  obtain ⟨p, q, hA0, hV, rfl, hfz, hnd⟩ := hW
  have hA : DataW.TrodAll enc Tryz.prog W 0 (fun _ => true) true Tryz.f3.params.toList args.toList ds p := hA0
  rw [Tryz.params3] at hA hval
  obtain ⟨v0, vs0, d0, ds0, p0, q0, hargs, rfl, rfl, h0, r0⟩ := trodAll_cons hA
  obtain ⟨v1, vs1, d1, ds1, p1, q1, rfl, rfl, rfl, h1, r1⟩ := trodAll_cons r0
  obtain ⟨v2, vs2, d2, ds2, p2, q2, rfl, rfl, rfl, h2, r2⟩ := trodAll_cons r1
  obtain ⟨rfl, rfl, rfl⟩ := trodAll_nil r2
  obtain rfl : args = #[v0, v1, v2] := by cases args; simp_all
  obtain ⟨x0, rfl, rfl, rfl, w0⟩ := open_int Tryz.underlying22 (hval 0 _ v0 rfl rfl) h0; have hx0 := int_bd w0
  obtain ⟨x1, rfl, rfl, rfl, w1⟩ := open_int Tryz.underlying22 (hval 1 _ v1 rfl rfl) h1; have hx1 := int_bd w1
  obtain ⟨x2, rfl, rfl, rfl, w2⟩ := open_int Tryz.underlying3 (hval 2 _ v2 rfl rfl) h2; have hx2 := int_bd w2
  refine ((asks_c x0 x1 x2 hx0 hx1 W).calls).mono ?_
  rintro e W' ⟨v, rfl, rfl, hE⟩
  exact ⟨_, rfl, law_post (tb := 4) laidOut (by kernel_rfl) rfl (by kernel_rfl) Tryz.underlying4 (fun xs hx => by rw [Tryz.params3] at hx; match xs, hx with | [_, _, _], _ => rfl) hW' hE⟩
set_option maxRecDepth 100000 in
theorem routerAsks_lifted (os : Os) (started : os.Started) (H : Type) (enc : TypeId × Value → H) (F : Stop.Interp) :
    ReturnsInHanded {} Tryz.checked os 3 .any ((OpenSpec.ofChange Rows.routerAsksSpec).preRow enc Tryz.prog Tryz.f3 Rows.routerAsksRow.domain false Rows.routerAsksRow.laid) (((OpenSpec.ofChange Rows.routerAsksSpec).at F).post enc Tryz.prog Tryz.f3 false true false false) := by
  have hx : ∃ places ds, DataW.whole enc Tryz.prog ((laidWorld os).forCall (fun _ _ => 0) ⟨#[], #[.int .u16 0, .int .u16 0, .int .i64 0], []⟩).memory Tryz.f3.params.toList Rows.routerAsksSpec.vars false #[Value.int .u16 0, .int .u16 0, .int .i64 0].toList 8 = some (ds, [], places) ∧ ds = [.lit (.int .u16 0), .lit (.int .u16 0), .lit (.int .i64 0)] := ⟨[], [.lit (.int .u16 0), .lit (.int .u16 0), .lit (.int .i64 0)], by kernel_rfl, rfl⟩
  obtain ⟨places, ds, hx, rfl⟩ := hx
  refine returnsInHanded_of_row (C := Tryz.checked) (s := OpenSpec.ofChange Rows.routerAsksSpec) own started (by kernel_rfl) Tryz.func3
    (witness_row_at (enc := enc) (C := Tryz.checked) false (laidWorld os) #[.int .u16 0, .int .u16 0, .int .i64 0] rfl (by kernel_rfl) (by kernel_rfl) (by kernel_rfl)
      (OpenSpec.preRow_of_cond 8 hx (by kernel_rfl) (fun k hk => by cases hk) (by kernel_rfl) (laid_met os _))) ?_
  intro W base args ds gs before hval hW _ hcond _ hL hS _
  exact routerAsks_contract H enc W base args ds gs before hval hW hL hS
theorem routerAsks_said : Rows.RouterAsksSaid :=
  OpenClaim.holds_of_cond 3 Tryz.f3 rfl rfl rfl rfl rfl rfl rfl ⟨rfl, rfl, rfl, rfl, rfl⟩ rfl rfl rfl rfl rfl (by kernel_rfl) Tryz.func3 (by kernel_rfl)
    (of_decide_eq_true (by kernel_rfl)) (by unfold Func.isWrapper; first | (rw [if_pos (by decide +kernel)]; kernel_rfl) | (rw [if_neg (by decide +kernel)]; exact ⟨rfl, rfl⟩))
    (fun os started H enc _ F => by rw [OpenClaim.pre_eq_preRow]; exact routerAsks_lifted os started H enc F)
#print axioms routerAsks_said
end Go.Proofs.YtfedlkeiafcdmaaGreat

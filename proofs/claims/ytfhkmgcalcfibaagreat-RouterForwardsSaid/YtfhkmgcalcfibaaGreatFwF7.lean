/-
  Texts joined.
-/
import Derived.Test.YtfhkmgcalcfibaaGreatFwF6
set_option linter.unusedVariables false
set_option linter.unusedSimpArgs false
set_option maxHeartbeats 64000000
namespace Go.Proofs.YtfhkmgcalcfibaaGreat
open Go.RowKit
variable [Y : Sy]
variable {P : Program} {t : Tr Value}
noncomputable def Zrw (sz b o n : Nat) (ys : List Value) (s : MSt) (c : Value → MSt → Bool) : Bool := match ZkT ys with
 | true => match s.m.get b with
  | some ob => match ob.mp with
   | none => putK ob.cs o ys fun cs => wrtK s b ⟨cs, ob.e, ob.op, none⟩ fun s => litK .i64 (.ofNat n) fun v => c v s
   | some _ => false
  | none => false
 | false => false
noncomputable def ZsE (P : Program) (dT : TypeId) (v u : Value) (s : MSt) (c : Value → MSt → Bool) : Bool := match P.underlying dT with
 | some (.slice e) => match P.info? e with
  | some i => match v with
   | .slice (some ⟨b, o, none⟩) dLen _ => match u with
    | .slice (some ⟨b', o', none⟩) sLen _ => match s.m.get b' with
     | some ob' => match ob'.mp with
      | none => rdK s b' fun s => Za4 (Nat.min sLen dLen) fun n => segK ob'.cs o' (Nat.mul n i.size) fun ys => Zrw i.size b o n ys s c
      | some _ => false
     | none => false
    | .slice none 0 0 => c (.int .i64 0) s
    | _ => false
   | _ => false
  | none => false
 | _ => false
theorem ZqQ {dT sT : TypeId} {x y : Operand} {v u : Value} {s : MSt} {c : Value → MSt → Bool} (hwf : Wf s) (hx : OpdR t x v) (hy : OpdR t y u) (h : ZsE P dT v u s c = true) : ∃ v' s', SLe s s' ∧ OpM P t s s' (.call ⟨.builtin .copy, #[x, y], #[dT, sT]⟩) v' ∧ c v' s' = true := by
 unfold ZsE at h
 split at h
 case h_2 => cases h
 rename_i e hu
 haveI : TU P dT (.slice e) := ⟨hu⟩
 split at h
 case h_2 => cases h
 rename_i i hi
 haveI : TSz P e i.size := ⟨ZdC hi⟩
 split at h
 case h_2 => cases h
 rename_i b o dLen dCap
 split at h
 ·rename_i b' o' sLen sCap
  split at h
  case h_2 => cases h
  rename_i ob' hb'
  split at h
  case h_2 => cases h
  rename_i hmp'
  rw [Ziq, ZaI] at h
  obtain ⟨ys, h1, h2⟩ := Zgg h
  unfold Zrw at h2
  split at h2
  case h_2 => cases h2
  rename_i hones
  rw [ZfN] at hones
  split at h2
  case h_2 => cases h2
  rename_i ob hb
  split at h2
  case h_2 => cases h2
  rename_i hmp
  obtain ⟨cs, h3, h4⟩ := ZeO h2
  obtain ⟨m', hm, h5⟩ := Zg8 h4
  obtain ⟨el, h5⟩ := Zdl h5
  have hwf1 := (SLe.rd s b').wf hwf
  refine ⟨_, _, (SLe.rd s b').trans (SLe.wrt hm hb hwf1), fun S W0 ρ n df a w R d ty pos af g F hp hR => ?_, h5⟩
  have hp1 := Pre.fst (SLe.rd s b') (SLe.wrt hm hb hwf1) hp
  have hp2 := Pre.snd (SLe.rd s b') (SLe.wrt hm hb hwf1) hwf hp (Stp.rd hp1)
  obtain ⟨r', cc', hr', cs', junk, q1, q2, _, _⟩ := hp1.objC hb' ZgL hmp'
  obtain ⟨r, cc, hr, ds', junk', p1, p2, p3, p4⟩ := hp2.objC hb (ZbA.2 (.inr rfl)) hmp
  have hex : ∃ c1, a.eval x = .slice (some ⟨r, o, none⟩) dLen c1 := by
   have := hx ρ n df a F
   generalize a.eval x = u at this
   cases this
   rename_i r1 c1 hr1 _
   rw [hr] at hr1
   cases hr1
   exact ⟨_, rfl⟩
  have hey : ∃ c1, a.eval y = .slice (some ⟨r', o', none⟩) sLen c1 := by
   have := hy ρ n df a F
   generalize a.eval y = u at this
   cases this
   rename_i r1 c1 hr1 _
   rw [hr'] at hr1
   cases hr1
   exact ⟨_, rfl⟩
  obtain ⟨c1, hex⟩ := hex
  obtain ⟨c2, hey⟩ := hey
  obtain ⟨us, k1, k2⟩ := Zfz q1 h1
  obtain ⟨zs, k3, k4⟩ := Zib p1 k2 h3
  have hc : (Builtin.firstCells i.size (Nat.min sLen dLen) (.slice (some ⟨r', o', none⟩) sLen c2)).run P w = .ok us.toArray w := by
   have hsrc := (Zdo.cells' (P := P) (m := Nat.min sLen dLen) (c := c2) (sz := i.size) q2 (ZfF (junk := junk) k1) (by rw [Zgj k2];exact hones)).cells w.drawn
   simpa [Builtin.firstCells] using hsrc
  have Mb : Mem [r] w w [(r, .cells (ds' ++ junk').toArray ob.e (0, 0))] := ⟨Ext.refl _ _, fun p hp => by simp at hp;subst hp;exact p2, by simp, fun p hp => .inl (by simp at hp;subst hp;simp)⟩
  obtain ⟨w', g1, g2, g3⟩ := ZpH (sT := sT) (dLen := dLen) (dCap := c1) (o := o) hu (ZdC hi) Mb (by simp [Builtin.lenOf]) rfl hc (fun v hv => List.all_eq_true.1 (by rw [Zgj k2];exact hones) v hv) .here (ZgV k3) .here ty
  refine OpTo.val (v := .int .i64 (Nat.min sLen dLen)) (w' := w') (by simp [execOp, resolve, invoke, builtin, hex, hey, g1]) (hR ρ _ w' (Stp.trans (SLe.rd s b') (SLe.wrt hm hb hwf1) hwf hp (Stp.rd hp1) (Stp.wrt hm hb hwf1 hp2 hr g3 (.inl ⟨rfl, zs, junk', k4, g2.heap .here, p3, fun sz hs => by rw [Zi3 k3];exact p4 sz hs⟩))) (.lit el))
 ·refine ⟨_, _, SLe.refl s, fun S W0 ρ n df a w R d ty pos af g F hp hR => ?_, h⟩
  have hex : ∃ p n1 c1, a.eval x = .slice p n1 c1 := by
   have := hx ρ n df a F
   generalize a.eval x = u at this
   cases this
   exact ⟨_, _, _, rfl⟩
  obtain ⟨p, n1, c1, hex⟩ := hex
  have hey : a.eval y = .slice none 0 0 := by
   have := hy ρ n df a F
   generalize a.eval y = u at this
   cases this
   rfl
  exact ZnY hex hey (hR ρ _ w (Stp.same rfl rfl hp.1) (.lit (Y.lit 0 rfl)))
 ·cases h
end Go.Proofs.YtfhkmgcalcfibaaGreat
namespace Go.Proofs.YtfhkmgcalcfibaaGreat
open Go.RowKit
variable [Y : Sy]
variable {P : Program} {t : Tr Value}
abbrev Zdg := FuncId → List Value → MSt → (Value → MSt → Bool) → Bool
def SemF (P : Program) (f : FuncId) (vs : List Value) (s s' : MSt) (v : Value) : Prop := ∀ (S : List Nat) (W0 : World) (ρ : Rl) (w : World) (args : List Value), VRs ρ vs args → Pre S W0 ρ s s' w →
 Cal P f args.toArray w fun u w' => ∃ ρ', Stp S W0 ρ s w ρ' s' w' ∧ VR ρ' v u
def Ze4 (P : Program) (call : Zdg) : Prop := ∀ f vs s c, Wf s → call f vs s c = true → ∃ v s', SLe s s' ∧ SemF P f vs s s' v ∧ c v s' = true
noncomputable def Zo9 (P : Program) (call : Zdg) (t : Tr Value) (v : Value) (xs : List Operand) (s : MSt) (c : Value → MSt → Bool) : Bool := match v with
 | .func (.func f) first cap => match first.toList with
  | [] => evsK t xs fun vs => appK vs cap.toList fun us => match Zhx P f with
   | true => call f us s c
   | false => false
  | _ => false
 | _ => false
noncomputable def memK (P : Program) (call : Zdg) (t : Tr Value) (op : Op) (s : MSt) (c : Value → MSt → Bool) : Bool := match op with
 | .load tt x => evK t x fun v => Zk5 P tt v s c
 | .store tt x y => evK t x fun v => evK t y fun u => Znm P tt v u s fun s => c undef s
 | .alloc tt => Zkt P tt fun z => newK tt z s c
 | .box tt x => evK t x fun v => Zfj v fun z => newK tt z s c
 | .buildSlice tt len parts => Zet P t tt len parts.toList s c
 | .makeSlice tt x y => evK t x fun v => evK t y fun u => Zgo P tt v u s c
 | .makeMap tt none => ZgY P tt s c
 | .makeMap tt (some x) => evK t x fun v => match v with
  | .int _ _ => ZgY P tt s c
  | _ => false
 | .lookup tt x y cm => evK t x fun v => evK t y fun u => Zk3 P tt v u cm s c
 | .mapUpdate tt x y z => evK t x fun v => evK t y fun u => evK t z fun q => Zgn P tt v u q s fun s => c undef s
 | .call ⟨.builtin .append, args, tys⟩ => match args.toList with
  | [x, y] => match tys.toList with
   | [st, xt] => evK t x fun v => evK t y fun u => Zll P st xt v u s c
   | _ => false
  | _ => false
 | .call ⟨.builtin .copy, args, tys⟩ => match args.toList with
  | [x, y] => match tys.toList with
   | [dT, _] => evK t x fun v => evK t y fun u => ZsE P dT v u s c
   | _ => false
  | _ => false
 | .call ⟨.value x, args, _⟩ => evK t x fun v => Zo9 P call t v args.toList s c
 | op => ZkP P t op fun v => c v s
theorem Zsi {call : Zdg} (hcall : Ze4 P call) {op : Op} {s : MSt} {c : Value → MSt → Bool} (hwf : Wf s) (h : memK P call t op s c = true) : ZdJ op = true ∧ ∃ v s', SLe s s' ∧ OpM P t s s' op v ∧ c v s' = true := by
 unfold memK at h
 split at h
 ·refine ⟨rfl, ?_⟩
  obtain ⟨v, h1, h2⟩ := Zbe h
  exact Zqn h1 h2
 ·refine ⟨rfl, ?_⟩
  obtain ⟨v, h1, h2⟩ := Zbe h
  obtain ⟨u, h3, h4⟩ := Zbe h2
  obtain ⟨s', h5, h6, h7⟩ := Znl hwf h1 h3 h4
  exact ⟨undef, s', h5, h6, h7⟩
 ·exact ⟨rfl, Zq4 hwf h⟩
 ·refine ⟨rfl, ?_⟩
  obtain ⟨v, h1, h2⟩ := Zbe h
  exact Zub hwf h1 h2
 ·rename_i tt len parts
  refine ⟨rfl, ?_⟩
  obtain ⟨v, s', h1, h2, h3⟩ := ZhZ hwf h
  exact ⟨v, s', h1, by simpa using h2, h3⟩
 ·refine ⟨rfl, ?_⟩
  obtain ⟨v, h1, h2⟩ := Zbe h
  obtain ⟨u, h3, h4⟩ := Zbe h2
  exact Zjc hwf h1 h3 h4
 ·exact ⟨rfl, Zht hwf h fun k e hu ρ n df a w R d ty pos af g F hh => ZmE (Mem.start [] w) hh⟩
 ·refine ⟨rfl, ?_⟩
  obtain ⟨v, h1, h2⟩ := Zbe h
  split at h2
  case h_2 => cases h2
  exact Zht hwf h2 fun k e hu ρ n df a w R d ty pos af g F hh => by
   haveI : TU P _ (.map k e) := ⟨hu⟩
   exact ZnU (Mem.start [] w) (h1.int F) hh
 ·refine ⟨rfl, ?_⟩
  obtain ⟨v, h1, h2⟩ := Zbe h
  obtain ⟨u, h3, h4⟩ := Zbe h2
  exact ZmM h1 h3 h4
 ·refine ⟨rfl, ?_⟩
  obtain ⟨v, h1, h2⟩ := Zbe h
  obtain ⟨u, h3, h4⟩ := Zbe h2
  obtain ⟨q, h5, h6⟩ := Zbe h4
  obtain ⟨s', h7, h8, h9⟩ := Zjb hwf h1 h3 h5 h6
  exact ⟨undef, s', h7, h8, h9⟩
 ·rename_i args tys
  refine ⟨rfl, ?_⟩
  split at h
  ·rename_i x y hx
   obtain rfl := arr2 hx
   split at h
   ·rename_i st xt ht
    obtain rfl := arr2 ht
    obtain ⟨v, h1, h2⟩ := Zbe h
    obtain ⟨u, h3, h4⟩ := Zbe h2
    exact Zm5 hwf h1 h3 h4
   ·cases h
  ·cases h
 ·rename_i args tys
  refine ⟨rfl, ?_⟩
  split at h
  ·rename_i x y hx
   obtain rfl := arr2 hx
   split at h
   ·rename_i dT sT ht
    obtain rfl := arr2 ht
    obtain ⟨v, h1, h2⟩ := Zbe h
    obtain ⟨u, h3, h4⟩ := Zbe h2
    exact ZqQ hwf h1 h3 h4
   ·cases h
  ·cases h
 ·rename_i x args tys
  refine ⟨rfl, ?_⟩
  obtain ⟨v, h1, h2⟩ := Zbe h
  unfold Zo9 at h2
  split at h2
  case h_2 => cases h2
  rename_i f first cap
  split at h2
  case h_2 => cases h2
  rename_i hf
  obtain ⟨vs, h3, h4⟩ := Zjk h2
  rw [ZhO] at h4
  split at h4
  case h_2 => cases h4
  rename_i hb
  haveI : ZaD P f := ⟨hb⟩
  obtain ⟨v', s', h5, h6, h7⟩ := hcall _ _ _ _ hwf h4
  refine ⟨v', s', h5, fun S W0 ρ n df a w R d ty pos af g F hp hR => ?_, h7⟩
  have := h1 ρ n df a F
  generalize hq : a.eval x = u at this
  cases this
  rename_i fs cs k1 k2
  rw [hf] at k1
  cases k1
  exact Zi8 (vs := (args.toList.map a.eval).toArray) (us := (args.toList.map a.eval ++ cs).toArray) hq (Zk2 _ _) (by simp) ((h6 S W0 ρ w _ ((h3 ρ n df a F).app k2) hp).mono fun u w' ⟨ρ', q1, q2⟩ => hR ρ' u w' q1 q2)
 ·obtain ⟨v, h1, h2⟩ := ZpS h
  refine ⟨?_, v, s, SLe.refl s, h1.mem, h2⟩
  cases op <;> first | rfl | (unfold ZkP at h;cases h)
/-! ### guards;one operation of a region -/
noncomputable def Zow (all : Array Oper) (g : Option (Nat × Bool)) (t : Tr Value) (c1 c0 : Bool) : Bool := match g with
 | none => c1
 | some (j, b) => match (all[j]?).bind (·.dst) with
  | some tg => match t.get tg with
   | some (.bool true) => match b with
    | true => c1
    | false => c0
   | some (.bool false) => match b with
    | true => c0
    | false => c1
   | some (.tuple _) => c0
   | _ => false
  | none => false
def Zkr (P : Program) (all : Array Oper) (o : Oper) (t : Tr Value) (s s' : MSt) (v : Value) : Prop := ∀ (S : List Nat) (W0 : World) (ρ : Rl) (n : Nat) (df : List Deferred) (a : Act) (w : World) (K : Act → World → Prop) (Q : Exit → Act → World → Prop) (r : Option Nat),
 FrR ρ n df t a → Pre S W0 ρ s s' w → (∀ ρ' u w', Stp S W0 ρ s w ρ' s' w' → VR ρ' v u → K (a.put o.dst u) w') →
 (if Region.wanted o (yielded all a.tmps) = true then o.wpIn (FW r) 0 P a w K Q else (∀ f, o.about P w a.eval = some f → (FW r).fn f) ∧ K (a.put o.dst undef) w)
noncomputable def oneK (P : Program) (call : Zdg) (all : Array Oper) (o : Oper) (t : Tr Value) (s : MSt) (c : Value → MSt → Bool) : Bool := Zow all o.guard t (memK P call t o.op s c) (c undef s)
theorem Zpo (ρ : Rl) : VR ρ undef undef := by
 have : VR ρ (.tuple #[]) (.tuple (List.toArray [])) := .tup .nil
 exact this
theorem ZnR {call : Zdg} (hcall : Ze4 P call) {all : Array Oper} {o : Oper} {s : MSt} {c : Value → MSt → Bool} (hwf : Wf s) (h : oneK P call all o t s c = true) : ∃ v s', SLe s s' ∧ Zkr P all o t s s' v ∧ c v s' = true := by
 have hon : (∀ (ρ : Rl) (n : Nat) (df : List Deferred) (a : Act), FrR ρ n df t a → Region.wanted o (yielded all a.tmps) = true) → memK P call t o.op s c = true → ∃ v s', SLe s s' ∧ Zkr P all o t s s' v ∧ c v s' = true := fun hw h => by
  obtain ⟨hp, v, s', h1, h2, h3⟩ := Zsi hcall hwf h
  refine ⟨v, s', h1, fun S W0 ρ n df a w K Q r F hpre hK => ?_, h3⟩
  rw [if_pos (hw ρ n df a F)]
  obtain ⟨dst, op, ty, pos, af, g⟩ := o
  exact ZeR hp (h2 S W0 ρ n df a w _ dst ty pos af g F hpre hK)
 have hoff : (∀ (ρ : Rl) (n : Nat) (df : List Deferred) (a : Act), FrR ρ n df t a → Region.wanted o (yielded all a.tmps) = false) → c undef s = true → ∃ v s', SLe s s' ∧ Zkr P all o t s s' v ∧ c v s' = true := fun hw h => by
  refine ⟨undef, s, SLe.refl s, fun S W0 ρ n df a w K Q r F hpre hK => ?_, h⟩
  rw [if_neg (by rw [hw ρ n df a F];simp)]
  exact ⟨fun _ _ => trivial, hK ρ undef w (Stp.same rfl rfl hpre.1) (Zpo ρ)⟩
 unfold oneK Zow at h
 split at h
 ·rename_i hg
  exact hon (fun _ _ _ _ _ => by simp [Region.wanted, hg]) h
 ·rename_i j b hg
  split at h
  case h_2 => cases h
  rename_i tg htg
  split at h
  ·rename_i hv
   have hy : ∀ (ρ : Rl) (n : Nat) (df : List Deferred) (a : Act), FrR ρ n df t a → yielded all a.tmps j = some true := fun ρ n df a F => by
    have := F.at_ tg _ hv
    refine Ze5 htg ?_
    generalize a.tmps.getD tg undef = u at this
    cases this
    rfl
   split at h
   ·exact hon (fun ρ n df a F => by simp [Region.wanted, hg, hy ρ n df a F]) h
   ·exact hoff (fun ρ n df a F => by simp [Region.wanted, hg, hy ρ n df a F]) h
  ·rename_i hv
   have hy : ∀ (ρ : Rl) (n : Nat) (df : List Deferred) (a : Act), FrR ρ n df t a → yielded all a.tmps j = some false := fun ρ n df a F => by
    have := F.at_ tg _ hv
    refine Ze5 htg ?_
    generalize a.tmps.getD tg undef = u at this
    cases this
    rfl
   split at h
   ·exact hoff (fun ρ n df a F => by simp [Region.wanted, hg, hy ρ n df a F]) h
   ·exact hon (fun ρ n df a F => by simp [Region.wanted, hg, hy ρ n df a F]) h
  ·rename_i vs hv
   refine hoff (fun ρ n df a F => ?_) h
   have := F.at_ tg _ hv
   generalize hu : a.tmps.getD tg undef = u at this
   cases this
   have := Zfo (b := b) htg hu rfl
   simpa [Region.wanted, hg] using this
  ·cases h
/-! ### in their order -/
noncomputable def ZeN (n : Nat) (d : Option Tmp) (v : Value) (t : Tr Value) (c : Tr Value → Bool) : Bool := match d with
 | none => c t
 | some d => match Nat.blt d n with
  | true => t.setK d (some v) c
  | false => false
theorem Zmz {n : Nat} {d : Option Tmp} {v : Value} {c : Tr Value → Bool} (h : ZeN n d v t c = true) : ∃ t', c t' = true ∧ ∀ (ρ : Rl) (df : List Deferred) (a : Act) (u : Value), FrR ρ n df t a → VR ρ v u → FrR ρ n df t' (a.put d u) := by
 unfold ZeN at h
 split at h
 ·exact ⟨t, h, fun ρ df a u F _ => F⟩
 ·split at h
  case h_2 => cases h
  rename_i d hd
  obtain ⟨t', h1, h2⟩ := Tr.setK_ok h
  exact ⟨t', h2, fun ρ df a u F hv => F.put h1 (Nat.le_of_ble_eq_true hd) hv⟩
noncomputable def Zqo (P : Program) (call : Zdg) (n : Nat) (all : Array Oper) (l : List Oper) : Tr Value → MSt → (Tr Value → MSt → Bool) → Bool := List.rec (motive := fun _ => Tr Value → MSt → (Tr Value → MSt → Bool) → Bool) (fun t s c => c t s)
 (fun o _ ih t s c => oneK P call all o t s fun v s => ZeN n o.dst v t fun t => ih t s c) l
def SemL (P : Program) (n : Nat) (all : Array Oper) (l : List Oper) (t : Tr Value) (s : MSt) (t' : Tr Value) (s' : MSt) : Prop := ∀ (S : List Nat) (W0 : World) (ρ : Rl) (df : List Deferred) (a : Act) (w : World) (Q : Exit → Act → World → Prop) (r : Option Nat),
 FrR ρ n df t a → Pre S W0 ρ s s' w → (∀ ρ' a' w', Stp S W0 ρ s w ρ' s' w' → FrR ρ' n df t' a' → Q .normal a' w') → wpListIn (FW r) 0 P all Q l a w
theorem ZlU {call : Zdg} (hcall : Ze4 P call) {n : Nat} {all : Array Oper} : ∀ {l : List Oper} {t : Tr Value} {s : MSt} {c : Tr Value → MSt → Bool}, Wf s → Zqo P call n all l t s c = true → ∃ t' s', SLe s s' ∧ SemL P n all l t s t' s' ∧ c t' s' = true
 | [], t, s, c, hwf, h => ⟨t, s, SLe.refl s, fun S W0 ρ df a w Q r F hp hQ => hQ ρ a w (Stp.same rfl rfl hp.1) F, h⟩
 | o :: l, t, s, c, hwf, h => by
  have h' : (oneK P call all o t s fun v s => ZeN n o.dst v t fun t => Zqo P call n all l t s c) = true := h
  obtain ⟨v, s1, h1, h2, h3⟩ := ZnR hcall hwf h'
  obtain ⟨t1, h4, h5⟩ := Zmz h3
  obtain ⟨t', s', h6, h7, h8⟩ := ZlU hcall (h1.wf hwf) h4
  refine ⟨t', s', h1.trans h6, fun S W0 ρ df a w Q r F hp hQ => ?_, h8⟩
  have hp1 := Pre.fst h1 h6 hp
  refine wpListIn_step fun K hK => h2 S W0 ρ n df a w K Q r F hp1 fun ρ1 u w1 st hv => hK _ _ ?_
  have hp2 := Pre.snd h1 h6 hwf hp st
  exact h7 S W0 ρ1 df _ w1 Q r (h5 ρ1 df a u (F.mono (st.leR hp1)) hv) hp2 fun ρ2 a2 w2 st2 F2 => hQ ρ2 a2 w2 (Stp.trans h1 h6 hwf hp st st2) F2
end Go.Proofs.YtfhkmgcalcfibaaGreat
namespace Go.Proofs.YtfhkmgcalcfibaaGreat
open Go.RowKit
variable [Y : Sy]
/-! ### what edges order -/
def Clo (ops : Array Oper) (D : Nat → Prop) : Prop := ∀ j o, ops[j]? = some o → D j → ∀ e ∈ o.after.toList, Region.binds .any e = true → D e.on
def Ord (ops : Array Oper) (i j : Nat) : Prop := ∀ D, Clo ops D → D j → D i
def Nm (ops : Array Oper) (o : Oper) (d : Nat) : Prop := .tmp d ∈ o.op.operands.toList ∨ ∃ j b, o.guard = some (j, b) ∧ (ops[j]?).bind (·.dst) = some d
structure Tra (P : Program) (n : Nat) (ops : Array Oper) (t0 : Tr Value) (m0 : Tr VO) (n0 : Nat) (k : Nat) (T : Nat → Tr Value) (M : Nat → Tr VO) (N F W : Nat → Nat) (v : Nat → Value) : Prop where
 T0 : T 0 = t0
 M0 : M 0 = m0
 N0 : N 0 = n0
 op : ∀ i, i < k → ∃ o, ops[i]? = some o ∧ (∀ e ∈ o.after.toList, Region.binds .any e = true → e.on < i)
 sle : ∀ i, i < k → SLe ⟨M i, N i, 0, 0⟩ ⟨M (i + 1), N (i + 1), F i, W i⟩
 sem : ∀ i o, i < k → ops[i]? = some o → ∃ tr : Tr Value, (∀ d x, tr.get d = some x → (T i).get d = some x ∧ Nm ops o d) ∧ Zkr P ops o tr ⟨M i, N i, 0, 0⟩ ⟨M (i + 1), N (i + 1), F i, W i⟩ (v i)
 slot : ∀ i o, i < k → ops[i]? = some o → (∀ d, o.dst = some d → d < n) ∧ ∀ d, (T (i + 1)).get d = if o.dst = some d then some (v i) else (T i).get d
 conf : ∀ i j b, i < j → j < k → (bit (W i) b ∧ bit (F j) b ∨ bit (F i) b ∧ bit (W j) b) → Ord ops i j
 names : ∀ i j oi oj d, i < j → j < k → ops[i]? = some oi → ops[j]? = some oj → (oi.dst = some d ∧ (Nm ops oj d ∨ oj.dst = some d) ∨ Nm ops oi d ∧ oj.dst = some d) → Ord ops i j
 top : ∀ b, n0 ≤ b → m0.get b = none
section
variable {P : Program} {n : Nat} {ops : Array Oper} {t0 : Tr Value} {m0 : Tr VO} {n0 k : Nat} {T : Nat → Tr Value} {M : Nat → Tr VO} {N F W : Nat → Nat} {v : Nat → Value}
theorem Tra.mono (h : Tra P n ops t0 m0 n0 k T M N F W v) : ∀ i j, i ≤ j → j ≤ k → N i ≤ N j := fun i j hij hj => by
 induction j with
 | zero =>
  obtain rfl : i = 0 := by omega
  exact Nat.le_refl _
 | succ j ih =>
  rcases Nat.lt_or_ge i (j + 1) with h1 | h1
  ·exact Nat.le_trans (ih (by omega) (by omega)) (h.sle j (by omega)).nx
  ·obtain rfl : i = j + 1 := by omega
   exact Nat.le_refl _
theorem Tra.wf (h : Tra P n ops t0 m0 n0 k T M N F W v) : ∀ i, i ≤ k → ∀ b, N i ≤ b → (M i).get b = none := fun i hi => by
 induction i with
 | zero => rw [h.M0, h.N0];exact h.top
 | succ i ih => exact (h.sle i (by omega)).top (ih (by omega))
theorem Tra.WF (h : Tra P n ops t0 m0 n0 k T M N F W v) {i b : Nat} (hi : i < k) (hb : bit (W i) b) : bit (F i) b := (h.sle i hi).WF (fun b hb => (bit0 hb).elim) b hb
def ZuD (W : Nat → Nat) (D : Nat → Prop) (b i : Nat) : Prop := D i ∧ bit (W i) b ∧ ∀ j, i < j → D j → ¬ bit (W j) b
def MVal (m0 : Tr VO) (M : Nat → Tr VO) (W : Nat → Nat) (D : Nat → Prop) (b : Nat) (o : VO) : Prop := (∃ i, ZuD W D b i ∧ (M (i + 1)).get b = some o) ∨ ((∀ i, D i → ¬ bit (W i) b) ∧ m0.get b = some o)
def FVal (ops : Array Oper) (t0 : Tr Value) (v : Nat → Value) (D : Nat → Prop) (d : Nat) (x : Value) : Prop := (∃ i o, D i ∧ ops[i]? = some o ∧ o.dst = some d ∧ v i = x ∧ ∀ j oj, i < j → D j → ops[j]? = some oj → oj.dst ≠ some d) ∨ ((∀ i o, D i → ops[i]? = some o → o.dst ≠ some d) ∧ t0.get d = some x)
theorem Tra.below (h : Tra P n ops t0 m0 n0 k T M N F W v) {b : Nat} {o : VO} : ∀ j, j ≤ k → (M j).get b = some o → MVal m0 M W (fun i => i < j) b o := fun j => by
 induction j with
 | zero =>
  intro _ hb
  rw [h.M0] at hb
  exact .inr ⟨fun i hi => by omega, hb⟩
 | succ j ih =>
  intro hj hb
  by_cases hw : bit (W j) b
  ·exact .inl ⟨j, ⟨Nat.lt_succ_self j, hw, fun i h1 h2 => by omega⟩, hb⟩
  ·have hlt : b < N (j + 1) := Nat.lt_of_not_le fun hc => by rw [h.wf (j + 1) hj b hc] at hb;cases hb
   have hlt0 : b < N j := Nat.lt_of_not_le fun hc => hw ((h.sle j (by omega)).new b hc hlt).2
   have hb0 : (M j).get b = some o := by
    have := (h.sle j (by omega)).old b hlt0 hw
    dsimp only at this
    rw [← this]
    exact hb
   rcases ih (by omega) hb0 with ⟨i, ⟨h1, h2, h3⟩, h4⟩ | ⟨h1, h2⟩
   ·refine .inl ⟨i, ⟨by omega, h2, fun i' h5 h6 => ?_⟩, h4⟩
    by_cases he : i' = j
    ·rw [he];exact hw
    ·exact h3 i' h5 (by omega)
   ·refine .inr ⟨fun i hi => ?_, h2⟩
    by_cases he : i = j
    ·rw [he];exact hw
    ·exact h1 i (by omega)
structure Next (ops : Array Oper) (D : Nat → Prop) (j : Nat) : Prop where
 clo : Clo ops D
 clo' : Clo ops (fun i => D i ∨ i = j)
 not : ¬ D j
omit Y in
theorem Next.before {D : Nat → Prop} {i j : Nat} (h : Next ops D j) (hij : i ≠ j) (ho : Ord ops i j) : D i := (ho _ h.clo' (.inr rfl)).resolve_right hij
omit Y in
theorem Next.after {D : Nat → Prop} {i j : Nat} (h : Next ops D j) (ho : Ord ops j i) : ¬ D i := fun hi => h.not (ho _ h.clo hi)
theorem Tra.meets (h : Tra P n ops t0 m0 n0 k T M N F W v) {D : Nat → Prop} {j b : Nat} {o : VO} (hD : ∀ i, D i → i < k) (hj : j < k) (hn : Next ops D j) (hf : bit (F j) b) (hb : (M j).get b = some o) : MVal m0 M W D b o := by
 have hlo : ∀ i, i < j → bit (W i) b → D i := fun i hi hw => hn.before (by omega) (h.conf i j b hi hj (.inl ⟨hw, hf⟩))
 have hhi : ∀ i, j < i → D i → ¬ bit (W i) b := fun i hi hd hw => hn.after (h.conf j i b hi (hD i hd) (.inr ⟨hf, hw⟩)) hd
 have hle : ∀ i, D i → i ≠ j := fun i hd he => hn.not (he ▸ hd)
 rcases h.below j (by omega) hb with ⟨i, ⟨h1, h2, h3⟩, h4⟩ | ⟨h1, h2⟩
 ·refine .inl ⟨i, ⟨hlo i h1 h2, h2, fun i' h5 h6 h7 => ?_⟩, h4⟩
  rcases Nat.lt_trichotomy i' j with hlt | he | hlt
  ·exact h3 i' h5 hlt h7
  ·exact hle i' h6 he
  ·exact hhi i' hlt h6 h7
 ·refine .inr ⟨fun i hd hw => ?_, h2⟩
  rcases Nat.lt_trichotomy i j with hlt | he | hlt
  ·exact h1 i hlt hw
  ·exact hle i hd he
  ·exact hhi i hlt hd hw
theorem Tra.fbelow (h : Tra P n ops t0 m0 n0 k T M N F W v) {d : Nat} {x : Value} : ∀ j, j ≤ k → (T j).get d = some x → FVal ops t0 v (fun i => i < j) d x := fun j => by
 induction j with
 | zero =>
  intro _ hb
  rw [h.T0] at hb
  exact .inr ⟨fun i o hi => by omega, hb⟩
 | succ j ih =>
  intro hj hb
  obtain ⟨o, ho, _⟩ := h.op j (by omega)
  rw [(h.slot j o (by omega) ho).2] at hb
  by_cases hd : o.dst = some d
  ·rw [if_pos hd] at hb
   cases hb
   exact .inl ⟨j, o, Nat.lt_succ_self j, ho, hd, rfl, fun i oi h1 h2 => by omega⟩
  ·rw [if_neg hd] at hb
   have hx : ∀ oj, ops[j]? = some oj → oj.dst ≠ some d := fun oj hoj => by
    rw [ho] at hoj
    cases hoj
    exact hd
   rcases ih (by omega) hb with ⟨i, oi, h1, h2, h3, h4, h5⟩ | ⟨h1, h2⟩
   ·refine .inl ⟨i, oi, by omega, h2, h3, h4, fun i' oj h6 h7 h8 => ?_⟩
    by_cases he : i' = j
    ·subst he;exact hx oj h8
    ·exact h5 i' oj h6 (by omega) h8
   ·refine .inr ⟨fun i oi hi ho' => ?_, h2⟩
    by_cases he : i = j
    ·subst he;exact hx oi ho'
    ·exact h1 i oi (by omega) ho'
theorem Tra.fmeets (h : Tra P n ops t0 m0 n0 k T M N F W v) {D : Nat → Prop} {j d : Nat} {o : Oper} {x : Value} (hD : ∀ i, D i → i < k) (hj : j < k) (hn : Next ops D j) (ho : ops[j]? = some o) (hf : Nm ops o d) (hb : (T j).get d = some x) : FVal ops t0 v D d x := by
 have hlo : ∀ i oi, i < j → ops[i]? = some oi → oi.dst = some d → D i := fun i oi hi hoi hw => hn.before (by omega) (h.names i j oi o d hi hj hoi ho (.inl ⟨hw, .inl hf⟩))
 have hhi : ∀ i oi, j < i → D i → ops[i]? = some oi → oi.dst ≠ some d := fun i oi hi hd hoi hw => hn.after (h.names j i o oi d hi (hD i hd) ho hoi (.inr ⟨hf, hw⟩)) hd
 have hle : ∀ i, D i → i ≠ j := fun i hd he => hn.not (he ▸ hd)
 rcases h.fbelow j (by omega) hb with ⟨i, oi, h1, h2, h3, h4, h5⟩ | ⟨h1, h2⟩
 ·refine .inl ⟨i, oi, hlo i oi h1 h2 h3, h2, h3, h4, fun i' oj h6 h7 h8 h9 => ?_⟩
  rcases Nat.lt_trichotomy i' j with hlt | he | hlt
  ·exact h5 i' oj h6 hlt h8 h9
  ·exact hle i' h7 he
  ·exact hhi i' oj hlt h7 h8 h9
 ·refine .inr ⟨fun i oi hd hoi hw => ?_, h2⟩
  rcases Nat.lt_trichotomy i j with hlt | he | hlt
  ·exact h1 i oi hlt hoi hw
  ·exact hle i hd he
  ·exact hhi i oi hlt hd hoi hw
end
end Go.Proofs.YtfhkmgcalcfibaaGreat
namespace Go.Proofs.YtfhkmgcalcfibaaGreat
open Go.RowKit
variable [Y : Sy]
section
variable {P : Program} {n : Nat} {ops : Array Oper} {t0 : Tr Value} {m0 : Tr VO} {n0 k : Nat} {T : Nat → Tr Value} {M : Nat → Tr VO} {N F W : Nat → Nat} {v : Nat → Value}
structure DInv (n : Nat) (df : List Deferred) (ops : Array Oper) (t0 : Tr Value) (m0 : Tr VO) (n0 k : Nat) (M : Nat → Tr VO) (N W : Nat → Nat) (v : Nat → Value) (S : List Nat) (W0 : World) (ρ0 : Rl) (w0 : World) (Ft Wt : Nat) (D : Nat → Prop) (ρ : Rl) (a : Act) (w : World) : Prop where
 size : a.tmps.size = n
 defers : a.defers = df
 fr : ∀ d x, FVal ops t0 v D d x → VR ρ x (a.tmps.getD d undef)
 ext : Ext S W0 w
 at_ : ∀ b o, MVal m0 M W D b o → bit Ft b → ∃ r c, ρ b = some (r, c) ∧ ObjR ρ o r c w
 inj : ∀ b b' o o' r c c', MVal m0 M W D b o → MVal m0 M W D b' o' → bit Ft b → bit Ft b' → ρ b = some (r, c) → ρ b' = some (r, c') → b = b'
 own : ∀ b o r c, MVal m0 M W D b o → bit Ft b → ρ b = some (r, c) → r ∈ S ∨ W0.heap.size ≤ r
 none : ∀ b, n0 ≤ b → b < N k → (∀ i, D i → ¬ (N i ≤ b ∧ b < N (i + 1))) → ρ b = none
 le : ∀ b, ¬ (n0 ≤ b ∧ b < N k) → ρ b = ρ0 b
 wsize : w0.heap.size ≤ w.heap.size
 blk : ∀ q, q < w0.heap.size → (∀ b o c, bit Wt b → m0.get b = some o → ρ0 b ≠ some (q, c)) → w.heap[q]? = w0.heap[q]?
 fresh : ∀ b o r c, n0 ≤ b → MVal m0 M W D b o → ρ b = some (r, c) → w0.heap.size ≤ r ∨ ∃ b0 o0 c0, b0 < n0 ∧ bit Wt b0 ∧ m0.get b0 = some o0 ∧ (∀ o, ¬ MVal m0 M W D b0 o) ∧ ρ0 b0 = some (r, c0)
theorem Tra.dead (h : Tra P n ops t0 m0 n0 k T M N F W v) {b : Nat} (hb : b < n0) (hm : m0.get b = .none) : ∀ i, i ≤ k → (M i).get b = .none := fun i hi => by
 induction i with
 | zero => rw [h.M0];exact hm
 | succ i ih =>
  have := h.mono 0 i (by omega) (by omega)
  rw [h.N0] at this
  exact (h.sle i (by omega)).dead b (by dsimp only;omega) (ih (by omega))
theorem Tra.live (h : Tra P n ops t0 m0 n0 k T M N F W v) {D : Nat → Prop} (hD : ∀ i, D i → i < k) {b : Nat} {o : VO} (hb : b < n0) (hm : MVal m0 M W D b o) : ∃ o0, m0.get b = some o0 := by
 cases hq : m0.get b with
 | some o0 => exact ⟨o0, rfl⟩
 | none =>
  rcases hm with ⟨i, ⟨h1, _, _⟩, h4⟩ | ⟨_, h2⟩
  ·rw [h.dead hb hq (i + 1) (by have := hD i h1;omega)] at h4
   cases h4
  ·rw [hq] at h2
   cases h2
variable {df : List Deferred} {S : List Nat} {W0 w0 : World} {ρ0 : Rl} {Ft Wt : Nat} {D : Nat → Prop} {ρ ρ' : Rl} {a : Act} {w w' : World}
theorem Tra.pre (h : Tra P n ops t0 m0 n0 k T M N F W v) (hFt : ∀ i, i < k → ∀ b, bit (F i) b → bit Ft b) (hD : ∀ i, D i → i < k) {j : Nat} (hj : j < k) (hn : Next ops D j) (I : DInv n df ops t0 m0 n0 k M N W v S W0 ρ0 w0 Ft Wt D ρ a w) :
  Pre S W0 ρ ⟨M j, N j, 0, 0⟩ ⟨M (j + 1), N (j + 1), F j, W j⟩ w := by
 have hm : ∀ b o, (M j).get b = some o → bit (F j) b → MVal m0 M W D b o := fun b o hb hf => h.meets hD hj hn hf hb
 refine ⟨⟨I.ext, fun b o hb hf => I.at_ b o (hm b o hb hf) (hFt j hj b hf), fun b b' o o' r c c' hb hb' hf hf' e e' => I.inj b b' o o' r c c' (hm b o hb hf) (hm b' o' hb' hf') (hFt j hj b hf) (hFt j hj b' hf') e e', fun b o r c hb hf e => I.own b o r c (hm b o hb hf) (hFt j hj b hf) e⟩, fun b h1 h2 => ?_⟩
 dsimp only at h1 h2
 have hN := h.mono 0 j (by omega) (by omega)
 have hN2 := h.mono (j + 1) k (by omega) (Nat.le_refl _)
 rw [h.N0] at hN
 refine I.none b (by omega) (by omega) fun i hi => ?_
 have hik := hD i hi
 have hij : i ≠ j := fun e => hn.not (e ▸ hi)
 rcases Nat.lt_or_gt_of_ne hij with hlt | hlt
 ·have := h.mono (i + 1) j (by omega) (by omega)
  omega
 ·have := h.mono (j + 1) i (by omega) (by omega)
  omega
theorem Tra.step (h : Tra P n ops t0 m0 n0 k T M N F W v) (hFt : ∀ i, i < k → ∀ b, bit (F i) b → bit Ft b) (hWt : ∀ i, i < k → ∀ b, bit (W i) b → bit Wt b) (hD : ∀ i, D i → i < k) {j : Nat} {oj : Oper} (hj : j < k) (hoj : ops[j]? = some oj) (hn : Next ops D j)
  (I : DInv n df ops t0 m0 n0 k M N W v S W0 ρ0 w0 Ft Wt D ρ a w) {u : Value} (st : Stp S W0 ρ ⟨M j, N j, 0, 0⟩ w ρ' ⟨M (j + 1), N (j + 1), F j, W j⟩ w') (hu : VR ρ' (v j) u) :
  DInv n df ops t0 m0 n0 k M N W v S W0 ρ0 w0 Ft Wt (fun i => D i ∨ i = j) ρ' (a.put oj.dst u) w' := by
 have hpre := h.pre hFt hD hj hn I
 have hleR := st.leR hpre
 have hsle := h.sle j hj
 have hn0j := h.mono 0 j (by omega) (by omega)
 have hjk := h.mono (j + 1) k (by omega) (Nat.le_refl _)
 rw [h.N0] at hn0j
 have hm : ∀ b o, (M j).get b = some o → bit (F j) b → MVal m0 M W D b o := fun b o hb hf => h.meets hD hj hn hf hb
 have hWF : ∀ b, bit (W j) b → bit (F j) b := fun b hb => h.WF hj hb
 have hltj : ∀ b o, (M (j + 1)).get b = some o → b < N (j + 1) := fun b o hb => Nat.lt_of_not_le fun hc => by
  rw [h.wf (j + 1) (by omega) b hc] at hb
  cases hb
 -- nobody behind j in the list, done already, writes what j writes
 have hno : ∀ i b, j < i → D i → bit (W j) b → ¬ bit (W i) b := fun i b hi hd hw hw' => hn.after (h.conf j i b hi (hD i hd) (.inl ⟨hw, h.WF (hD i hd) hw'⟩)) hd
 have mw : ∀ b o, bit (W j) b → MVal m0 M W (fun i => D i ∨ i = j) b o → (M (j + 1)).get b = some o := fun b o hw hmv => by
  rcases hmv with ⟨i, ⟨h1, h2, h3⟩, h4⟩ | ⟨h1, _⟩
  ·rcases h1 with h1 | rfl
   ·rcases Nat.lt_trichotomy i j with hlt | he | hlt
    ·exact (h3 j hlt (.inr rfl) hw).elim
    ·exact (hn.not (he ▸ h1)).elim
    ·exact (hno i b hlt h1 hw h2).elim
   ·exact h4
  ·exact (h1 j (.inr rfl) hw).elim
 have wm : ∀ b o, bit (W j) b → (M (j + 1)).get b = some o → MVal m0 M W (fun i => D i ∨ i = j) b o := fun b o hw hb => .inl ⟨j, ⟨.inr rfl, hw, fun i hi hd => (hd.elim (fun hd => hno i b hi hd hw) fun e => by omega)⟩, hb⟩
 have mn : ∀ b o, ¬ bit (W j) b → MVal m0 M W (fun i => D i ∨ i = j) b o → MVal m0 M W D b o := fun b o hw hmv => by
  rcases hmv with ⟨i, ⟨h1, h2, h3⟩, h4⟩ | ⟨h1, h2⟩
  ·rcases h1 with h1 | rfl
   ·exact .inl ⟨i, ⟨h1, h2, fun i' hi hd => h3 i' hi (.inl hd)⟩, h4⟩
   ·exact (hw h2).elim
  ·exact .inr ⟨fun i hi => h1 i (.inl hi), h2⟩
 -- outside what j writes, blocks lie where they lay
 have hsame : ∀ b, ¬ bit (W j) b → ρ' b = ρ b := fun b hw => st.le b fun hc => hw (hsle.new b hc.1 hc.2).2
 have hold : ∀ b o, (M (j + 1)).get b = some o → bit (W j) b → b < N j → ∃ o1, MVal m0 M W D b o1 ∧ ρ' b = ρ b := fun b o hb hw hlt => by
  cases hq : (M j).get b with
  | none => have := hsle.dead b hlt hq;dsimp only at this;rw [this] at hb;cases hb
  | some o1 => exact ⟨o1, hm b o1 hq (hWF b hw), st.le b (by dsimp only;omega)⟩
 -- a block that is not written keeps its place and its cells
 have hkeep : ∀ b o, ¬ bit (W j) b → MVal m0 M W D b o → bit Ft b → ∃ r c, ρ b = some (r, c) ∧ ObjR ρ' o r c w' := fun b o hw hmv hf => by
  obtain ⟨r, c, e, ho⟩ := I.at_ b o hmv hf
  refine ⟨r, c, e, ho.later hleR (st.blk r ho.lt fun b1 o1 c1 hw1 hl e1 => ?_)⟩
  have := I.inj b1 b o1 o r _ _ (hm b1 o1 hl (hWF b1 hw1)) hmv (hFt j hj b1 (hWF b1 hw1)) hf e1 e
  subst this
  exact hw hw1
 -- a block that is written does not lie where one lies that is not
 have hapart : ∀ b o b' o' r c c', bit (W j) b → (M (j + 1)).get b = some o → ρ' b = some (r, c) → ¬ bit (W j) b' → MVal m0 M W D b' o' → bit Ft b' → ρ b' = some (r, c') → False := fun b o b' o' r c c' hw hb e hw' hmv' hf' e' => by
  by_cases hlt : b < N j
  ·obtain ⟨o1, q1, q2⟩ := hold b o hb hw hlt
   rw [q2] at e
   have := I.inj b b' o1 o' r _ _ q1 hmv' (hFt j hj b (hWF b hw)) hf' e e'
   subst this
   exact hw' hw
  ·rcases st.fresh b o r c (Nat.le_of_not_lt hlt) (hltj b o hb) hb e with h4 | ⟨b0, o0, c0, g1, g2, g3, g4, g5⟩
   ·obtain ⟨r0, c0, e0, ho0⟩ := I.at_ b' o' hmv' hf'
    rw [e0] at e'
    cases e'
    have := ho0.lt
    omega
   ·have := I.inj b0 b' o0 o' r _ _ (hm b0 o0 g3 (hWF b0 g2)) hmv' (hFt j hj b0 (hWF b0 g2)) hf' g5 e'
    subst this
    exact hw' g2
 -- what was given up stays given up
 have hgone : ∀ b0, b0 < n0 → (∀ o, ¬ MVal m0 M W D b0 o) → ∀ o, ¬ MVal m0 M W (fun i => D i ∨ i = j) b0 o := fun b0 hb0 hg o hmv => by
  by_cases hw : bit (W j) b0
  ·obtain ⟨o1, q1, _⟩ := hold b0 o (mw b0 o hw hmv) hw (by omega)
   exact hg o1 q1
  ·exact hg o (mn b0 o hw hmv)
 have hD' : ∀ i, (D i ∨ i = j) → i < k := fun i hi => hi.elim (hD i) fun e => by omega
 refine ⟨?_, ?_, fun d x hx => ?_, st.wr.ext, fun b o hmv hf => ?_, fun b b' o o' r c c' hmv hmv' hf hf' e e' => ?_, fun b o r c hmv hf e => ?_, fun b h1 h2 h3 => ?_, fun b hb => ?_, Nat.le_trans I.wsize st.size, fun q hq hW => ?_, fun b o r c h1 hmv e => ?_⟩
 ·cases hd : oj.dst with
  | none => exact I.size
  | some d => simp [Act.put, I.size]
 ·cases hd : oj.dst with
  | none => exact I.defers
  | some d => simp [Act.put, I.defers]
 ·by_cases hd : oj.dst = some d
  ·have : x = v j := by
    rcases hx with ⟨i, oi, q1, q2, q3, q4, q5⟩ | ⟨q1, _⟩
    ·rcases q1 with q1 | rfl
     ·rcases Nat.lt_trichotomy i j with hlt | he | hlt
      ·exact (q5 j oj hlt (.inr rfl) hoj hd).elim
      ·exact (hn.not (he ▸ q1)).elim
      ·exact (hn.after (h.names j i oj oi d hlt (hD i q1) hoj q2 (.inl ⟨hd, .inr q3⟩)) q1).elim
     ·exact q4.symm
    ·exact (q1 j oj (.inr rfl) hoj hd).elim
   subst this
   have hdn := (h.slot j oj hj hoj).1 d hd
   rw [hd]
   have : d < a.tmps.size := by rw [I.size];exact hdn
   simpa [Act.put, Array.getElem?_setIfInBounds, this] using hu
  ·rw [Zi4 hd]
   refine (I.fr d x ?_).mono hleR
   rcases hx with ⟨i, oi, q1, q2, q3, q4, q5⟩ | ⟨q1, q2⟩
   ·rcases q1 with q1 | rfl
    ·exact .inl ⟨i, oi, q1, q2, q3, q4, fun i' o' h1 h2 => q5 i' o' h1 (.inl h2)⟩
    ·rw [hoj] at q2
     cases q2
     exact (hd q3).elim
   ·exact .inr ⟨fun i oi hi => q1 i oi (.inl hi), q2⟩
 ·by_cases hw : bit (W j) b
  ·exact st.wr.at_ b o (mw b o hw hmv) (hWF b hw)
  ·obtain ⟨r, c, e, ho⟩ := hkeep b o hw (mn b o hw hmv) hf
   exact ⟨r, c, (hsame b hw).trans e, ho⟩
 ·by_cases hw : bit (W j) b
  ·by_cases hw' : bit (W j) b'
   ·exact st.wr.inj b b' o o' r c c' (mw b o hw hmv) (mw b' o' hw' hmv') (hWF b hw) (hWF b' hw') e e'
   ·exact (hapart b o b' o' r c c' hw (mw b o hw hmv) e hw' (mn b' o' hw' hmv') hf' ((hsame b' hw').symm.trans e')).elim
  ·by_cases hw' : bit (W j) b'
   ·exact (hapart b' o' b o r c' c hw' (mw b' o' hw' hmv') e' hw (mn b o hw hmv) hf ((hsame b hw).symm.trans e)).elim
   ·exact I.inj b b' o o' r c c' (mn b o hw hmv) (mn b' o' hw' hmv') hf hf' ((hsame b hw).symm.trans e) ((hsame b' hw').symm.trans e')
 ·by_cases hw : bit (W j) b
  ·exact st.wr.own b o r c (mw b o hw hmv) (hWF b hw) e
  ·exact I.own b o r c (mn b o hw hmv) hf ((hsame b hw).symm.trans e)
 ·rw [st.le b (h3 j (.inr rfl))]
  exact I.none b h1 h2 fun i hi => h3 i (.inl hi)
 ·rw [st.le b (by dsimp only;omega)]
  exact I.le b hb
 ·refine (st.blk q (Nat.lt_of_lt_of_le hq I.wsize) fun b o c hw hl e => ?_).trans (I.blk q hq hW)
  have hmv := hm b o hl (hWF b hw)
  by_cases hb : b < n0
  ·obtain ⟨o0, q0⟩ := h.live hD hb hmv
   rw [I.le b (by omega)] at e
   exact hW b o0 c (hWt j hj b hw) q0 e
  ·rcases I.fresh b o q c (by omega) hmv e with h4 | ⟨b0, o0, c0, g1, g2, g3, _, g5⟩
   ·omega
   ·exact hW b0 o0 c0 g2 g3 g5
 ·have hfin : ∀ b1 o1 c1, MVal m0 M W D b1 o1 → n0 ≤ b1 → ρ b1 = some (r, c1) → w0.heap.size ≤ r ∨ ∃ b0 o0 c0, b0 < n0 ∧ bit Wt b0 ∧ m0.get b0 = some o0 ∧ (∀ o, ¬ MVal m0 M W (fun i => D i ∨ i = j) b0 o) ∧ ρ0 b0 = some (r, c0) := fun b1 o1 c1 q1 q2 q3 => by
   rcases I.fresh b1 o1 r c1 q2 q1 q3 with h4 | ⟨b0, o0, c0, g1, g2, g3, g4, g5⟩
   ·exact .inl h4
   ·exact .inr ⟨b0, o0, c0, g1, g2, g3, hgone b0 g1 g4, g5⟩
  by_cases hw : bit (W j) b
  ·have hb := mw b o hw hmv
   by_cases hlt : b < N j
   ·obtain ⟨o1, q1, q2⟩ := hold b o hb hw hlt
    exact hfin b o1 c q1 h1 (q2.symm.trans e)
   ·rcases st.fresh b o r c (Nat.le_of_not_lt hlt) (hltj b o hb) hb e with h4 | ⟨b1, o1, c1, g1, g2, g3, g4, g5⟩
    ·exact .inl (Nat.le_trans I.wsize h4)
    ·have hmv1 := hm b1 o1 g3 (hWF b1 g2)
     by_cases hb1 : b1 < n0
     ·obtain ⟨o0, q0⟩ := h.live hD hb1 hmv1
      refine .inr ⟨b1, o0, c1, hb1, hWt j hj b1 g2, q0, fun o2 hmv2 => ?_, by rw [← I.le b1 (by omega)];exact g5⟩
      have := mw b1 o2 g2 hmv2
      rw [g4] at this
      cases this
     ·exact hfin b1 o1 c1 hmv1 (by omega) g5
  ·exact hfin b o c (mn b o hw hmv) h1 ((hsame b hw).symm.trans e)
end
end Go.Proofs.YtfhkmgcalcfibaaGreat
namespace Go.Proofs.YtfhkmgcalcfibaaGreat
open Go.RowKit
variable [Y : Sy]
section
variable {P : Program} {n : Nat} {ops : Array Oper} {t0 : Tr Value} {m0 : Tr VO} {n0 : Nat} {T : Nat → Tr Value} {M : Nat → Tr VO} {N F W : Nat → Nat} {v : Nat → Value}
variable {df : List Deferred} {S : List Nat} {W0 w0 : World} {ρ0 : Rl} {Ft Wt : Nat} {Q : Exit → Act → World → Prop} {r : Option Nat}
def DL (listed : Array Bool) : Nat → Prop := fun i => listed.getD i false = true
omit Y in
theorem DL.lt {listed : Array Bool} {i : Nat} (h : DL listed i) : i < listed.size := by
 unfold DL at h
 rcases Nat.lt_or_ge i listed.size with h1 | h1
 ·exact h1
 ·simp [Nat.not_lt.2 h1] at h
omit Y in
theorem DL.set {listed : Array Bool} {i : Nat} (hi : i < listed.size) : DL (listed.setIfInBounds i true) = fun j => DL listed j ∨ j = i := by
 funext j
 apply propext
 unfold DL
 by_cases h : i = j
 ·subst h
  simp only [or_true, iff_true]
  exact ZeW hi
 ·rw [getD_set_ne false h]
  constructor
  ·exact .inl
  ·rintro (h1 | h1)
   ·exact h1
   ·exact (h h1.symm).elim
theorem Tra.any (h : Tra P n ops t0 m0 n0 ops.size T M N F W v) (hFt : ∀ i, i < ops.size → ∀ b, bit (F i) b → bit Ft b) (hWt : ∀ i, i < ops.size → ∀ b, bit (W i) b → bit Wt b)
  (hfin : ∀ D ρ a w, (∀ i, D i ↔ i < ops.size) → DInv n df ops t0 m0 n0 ops.size M N W v S W0 ρ0 w0 Ft Wt D ρ a w → Q .normal a w) :
  ∀ (m fuel : Nat) (listed : Array Bool) (ρ : Rl) (a : Act) (w : World), ((List.range ops.size).filter fun i => !listed.getD i false).length = m → m ≤ fuel → listed.size = ops.size → Clo ops (DL listed) →
   DInv n df ops t0 m0 n0 ops.size M N W v S W0 ρ0 w0 Ft Wt (DL listed) ρ a w → wpAnyIn (FW r) 0 P .any ops Q fuel listed a w := by
 intro m
 induction m with
 | zero =>
  intro fuel listed ρ a w hk _ hsz hclo I
  have hall : ∀ i, i < ops.size → DL listed i := fun i hi => by
   have h0 : ((List.range ops.size).filter fun i => !listed.getD i false) = [] := List.length_eq_zero_iff.1 hk
   have := List.filter_eq_nil_iff.1 h0 i (List.mem_range.2 hi)
   simpa [DL] using this
  have hq : Q .normal a w := hfin _ ρ a w (fun i => ⟨fun hi => by have := hi.lt;omega, hall i⟩) I
  have hr : Region.ready .any ops listed = [] := by
   cases hr : Region.ready .any ops listed with
   | nil => rfl
   | cons i is =>
    have hi : i ∈ Region.ready .any ops listed := by rw [hr];simp
    obtain ⟨hun, o, ho, _⟩ := mem_ready.1 hi
    have his : i < ops.size := (Array.getElem?_eq_some_iff.1 ho).1
    have := hall i his
    unfold DL at this
    have hl : i < listed.size := by omega
    simp [hl] at this hun
    rw [this] at hun;cases hun
  cases fuel with
  | zero => exact ⟨hr, hq⟩
  | succ fuel => exact ⟨fun _ => hq, fun i hi => by rw [hr] at hi;cases hi⟩
 | succ m ih =>
  intro fuel listed ρ a w hk hf hsz hclo I
  obtain ⟨fuel, rfl⟩ : ∃ f, fuel = f + 1 := ⟨fuel - 1, by omega⟩
  have hex : ∃ i, i < ops.size ∧ ¬ DL listed i := by
   have hne : ((List.range ops.size).filter fun i => !listed.getD i false) ≠ [] := by intro h;rw [h] at hk;cases hk
   obtain ⟨i, hi⟩ := List.exists_mem_of_ne_nil _ hne
   have := List.mem_filter.1 hi
   exact ⟨i, List.mem_range.1 this.1, by simpa [DL] using this.2⟩
  refine ⟨fun hnil => ?_, fun i hi => ?_⟩
  ·exfalso
   obtain ⟨i0, hi0, hu0⟩ := hex
   have : ∃ i, i < ops.size ∧ ¬ DL listed i ∧ ∀ j, j < i → DL listed j := by
    induction i0 using Nat.strongRecOn with
    | _ i0 ihi =>
     by_cases h : ∃ j, j < i0 ∧ ¬ DL listed j
     ·obtain ⟨j, hj, hju⟩ := h
      exact ihi j hj (by omega) hju
     ·exact ⟨i0, hi0, hu0, fun j hj => Classical.byContradiction fun hc => h ⟨j, hj, hc⟩⟩
   obtain ⟨i, hi, hu, hall⟩ := this
   obtain ⟨o, ho, hback⟩ := h.op i hi
   have hready : i ∈ Region.ready .any ops listed := mem_ready.2 ⟨Zoz (by omega) hu, o, ho, fun e he hb => hall e.on (hback e (by simpa using he) hb)⟩
   rw [hnil] at hready
   cases hready
  ·obtain ⟨hun, o, ho, hall⟩ := mem_ready.1 hi
   have hin : i < ops.size := (Array.getElem?_eq_some_iff.1 ho).1
   have hisz : i < listed.size := by omega
   have hnot : ¬ DL listed i := by
    unfold DL
    simp [hisz] at hun ⊢
    exact hun
   have hclo' : Clo ops fun j => DL listed j ∨ j = i := fun j oj hoj hj e he hb => by
    rcases hj with hj | rfl
    ·exact .inl (hclo j oj hoj hj e he hb)
    ·rw [ho] at hoj
     cases hoj
     exact .inl (hall e (by simpa using he) hb)
   have hn : Next ops (DL listed) i := ⟨hclo, hclo', hnot⟩
   have hD : ∀ j, DL listed j → j < ops.size := fun j hj => by have := hj.lt;omega
   have hcount : ((List.range ops.size).filter fun j => !(listed.setIfInBounds i true).getD j false).length = m := by
    have := Zgu (p := fun j => !listed.getD j false) (q := fun j => !(listed.setIfInBounds i true).getD j false) (List.nodup_range (n := ops.size)) (List.mem_range.2 hin) (by simp [hisz] at hun ⊢;exact hun) (by simp [hisz]) (fun j hj => by
     show (!listed.getD j false) = !(listed.setIfInBounds i true).getD j false
     rw [getD_set_ne false (fun e => hj e.symm)])
    omega
   obtain ⟨tr, htr, hsem⟩ := h.sem i o hin ho
   have hpre := h.pre hFt hD hin hn I
   unfold wpOpIn
   simp only [ho]
   refine hsem S W0 ρ n df a w _ Q r ⟨I.size, I.defers, fun d x hx => ?_⟩ hpre fun ρ' u w' st hu => ?_
   ·obtain ⟨h1, h2⟩ := htr d x hx
    exact I.fr d x (h.fmeets hD hin hn ho h2 h1)
   ·have I' := h.step hFt hWt hD hin ho hn I st hu
    rw [← DL.set hisz] at I'
    refine ih fuel _ ρ' _ w' hcount (by omega) (by simp [hsz]) ?_ I'
    rw [DL.set hisz]
    exact hclo'
theorem Tra.region {P : Program} {n : Nat} {ops : Array Oper} {t0 : Tr Value} {s : MSt} {T : Nat → Tr Value} {M : Nat → Tr VO} {N F W : Nat → Nat} {v : Nat → Value} {id : Nat} {a : Act} {w : World} {ρ : Rl} (hm : P.follows .mixedOrders = true) (h : Tra P n ops t0 s.m s.nx ops.size T M N F W v)
  (hFt : ∀ i, i < ops.size → ∀ b, bit (F i) b → bit Ft b) (hWt : ∀ i, i < ops.size → ∀ b, bit (W i) b → bit Wt b) (fr : FrR ρ n df t0 a) (hp : Pre S W0 ρ s ⟨M ops.size, N ops.size, Ft, Wt⟩ w)
  (hQ : ∀ ρ' a' w', Stp S W0 ρ s w ρ' ⟨M ops.size, N ops.size, Ft, Wt⟩ w' → FrR ρ' n df (T ops.size) a' → Q .normal a' w') : Wp r P (.region id ops true) Q a w := by
 refine wpIn_region_any hm ?_
 have hE : Ext [] w { w with drawn := w.drawn + 1 } := Ext.drawn w _ (Nat.le_succ _)
 have hrep : DL (Array.replicate ops.size false) = fun _ => False := by
  funext i
  apply propext
  unfold DL
  rw [getD_replicate_false]
  simp
 have m0v : ∀ b o, MVal s.m M W (fun _ => False) b o → s.m.get b = some o := fun b o hv => by
  rcases hv with ⟨i, ⟨h1, _⟩, _⟩ | ⟨_, h2⟩
  ·exact h1.elim
  ·exact h2
 refine h.any (Ft := Ft) (Wt := Wt) (df := df) (S := S) (W0 := W0) (ρ0 := ρ) (w0 := { w with drawn := w.drawn + 1 }) hFt hWt (fun D ρ' a' w' hD I => hQ ρ' a' w' ?_ ?_) ops.size ops.size _ ρ a _ ?_ (Nat.le_refl _) (by simp) ?_ ?_
 ·have mk : ∀ b o, (M ops.size).get b = some o → MVal s.m M W D b o := fun b o hb => by
   have := h.below ops.size (Nat.le_refl _) hb
   have he : (fun i => i < ops.size) = D := by
    funext i
    exact propext (hD i).symm
   rw [he] at this
   exact this
  refine ⟨fun b hb => I.le b hb, ⟨I.ext, fun b o hb hf => I.at_ b o (mk b o hb) hf, fun b b' o o' r c c' hb hb' hf hf' e e' => I.inj b b' o o' r c c' (mk b o hb) (mk b' o' hb') hf hf' e e', fun b o r c hb hf e => I.own b o r c (mk b o hb) hf e⟩, I.wsize, fun k hk hW => I.blk k hk hW, fun b o r c h1 h2 hb e => ?_⟩
  rcases I.fresh b o r c h1 (mk b o hb) e with h4 | ⟨b0, o0, c0, g1, g2, g3, g4, g5⟩
  ·exact .inl h4
  ·refine .inr ⟨b0, o0, c0, g1, g2, g3, ?_, g5⟩
   cases hq : (M ops.size).get b0 with
   | none => rfl
   | some o1 => exact (g4 o1 (mk b0 o1 hq)).elim
 ·refine ⟨I.size, I.defers, fun d x hx => I.fr d x ?_⟩
  have := h.fbelow ops.size (Nat.le_refl _) hx
  have he : (fun i => i < ops.size) = D := by
   funext i
   exact propext (hD i).symm
  rw [he] at this
  exact this
 ·have : ((List.range ops.size).filter fun i => !(Array.replicate ops.size false).getD i false) = List.range ops.size := List.filter_eq_self.2 fun i _ => by rw [getD_replicate_false];rfl
  rw [this]
  simp
 ·rw [hrep]
  exact fun j o _ hj => hj.elim
 ·rw [hrep]
  refine ⟨fr.size, fr.defers, fun d x hx => ?_, hp.1.ext.trans hE.any, fun b o hb hf => ?_, fun b b' o o' r c c' hb hb' hf hf' e e' => hp.1.inj b b' o o' r c c' (m0v b o hb) (m0v b' o' hb') hf hf' e e', fun b o r c hb hf e => hp.1.own b o r c (m0v b o hb) hf e, fun b h1 h2 _ => hp.2 b h1 h2, fun b _ => rfl, Nat.le_refl _, fun _ _ _ => rfl, fun b o r c h1 hb e => ?_⟩
  ·rcases hx with ⟨i, o, h1, _⟩ | ⟨_, h2⟩
   ·exact h1.elim
   ·exact fr.at_ d x h2
  ·obtain ⟨r, c, e, ho⟩ := hp.1.at_ b o (m0v b o hb) hf
   exact ⟨r, c, e, ho⟩
  ·have := h.wf 0 (Nat.zero_le _) b (by rw [h.N0];exact h1)
   rw [h.M0, m0v b o hb] at this
   cases this
end
end Go.Proofs.YtfhkmgcalcfibaaGreat
namespace Go.Proofs.YtfhkmgcalcfibaaGreat
open Go.RowKit
variable [Y : Sy]
/-! ### an operation looks at its own slots alone -/
noncomputable def Tr.filt {α : Type} (t : Tr α) : (Nat → Bool) → Tr α := Tr.rec (motive := fun _ => (Nat → Bool) → Tr α) (fun _ => .leaf) (fun v _ _ fl fr f => .node (if f 0 then v else none) (fl fun k => f (2 * k)) (fr fun k => f (2 * k + 1))) t
omit Y in
theorem Tr.filt_get {α : Type} : ∀ (t : Tr α) (f : Nat → Bool) (k : Nat), (t.filt f).get k = if f k then t.get k else none
 | .leaf, f, k => by
  show (Tr.leaf : Tr α).get k = _
  rw [Tr.get_leaf]
  split <;> rfl
 | .node v l r, f, k => by
  show (Tr.node (if f 0 then v else none) (l.filt fun k => f (2 * k)) (r.filt fun k => f (2 * k + 1))).get k = _
  rw [Tr.get_node, Tr.get_node]
  by_cases hk : k = 0
  ·rw [if_pos hk, if_pos hk, hk]
  ·rw [if_neg hk, if_neg hk]
   by_cases hp : k % 2 = 0
   ·rw [if_pos hp, if_pos hp, Tr.filt_get l, show 2 * (k / 2) = k by omega]
   ·rw [if_neg hp, if_neg hp, Tr.filt_get r, show 2 * (k / 2) + 1 = k by omega]
variable {P : Program} {t t' : Tr Value}
def Zlo (t t' : Tr Value) (xs : List Operand) : Prop := ∀ d, .tmp d ∈ xs → t'.get d = t.get d
omit Y in
theorem ZaJ {x : Operand} {xs : List Operand} (h : Zlo t t' xs) (hx : x ∈ xs) : evK t' x = evK t x := by
 funext c
 unfold evK
 cases x with
 | tmp d => dsimp only;rw [h d hx]
 | _ => rfl
omit Y in
theorem Zfd : ∀ {ys xs : List Operand}, Zlo t t' xs → (∀ y ∈ ys, y ∈ xs) → evsK t' ys = evsK t ys
 | [], _, _, _ => rfl
 | y :: ys, xs, h, hy => by
  funext c
  show (evK t' y fun v => evsK t' ys fun vs => c (v :: vs)) = (evK t y fun v => evsK t ys fun vs => c (v :: vs))
  rw [ZaJ h (hy y List.mem_cons_self), Zfd h fun z hz => hy z (List.mem_cons_of_mem _ hz)]
omit Y in
theorem ZiP {x : Option Operand} {xs : List Operand} (h : Zlo t t' xs) (hx : ∀ y, x = some y → y ∈ xs) : bndK t' x = bndK t x := by
 funext c
 unfold bndK
 cases x with
 | none => rfl
 | some y => dsimp only;rw [ZaJ h (hx y rfl)]
omit Y in
theorem ZgE {pl : List (Nat × Nat)} : ∀ {ps : List (Nat × Operand)} {xs : List Operand}, Zlo t t' xs → (∀ p ∈ ps, p.2 ∈ xs) → ZgF t' pl ps = ZgF t pl ps
 | [], _, _, _ => rfl
 | (i, x) :: ps, xs, h, hp => by
  funext z c
  have e1 := ZaJ h (hp (i, x) List.mem_cons_self)
  have e2 := ZgE (pl := pl) (ps := ps) h fun q hq => hp q (List.mem_cons_of_mem _ hq)
  show (evK t' x fun v => Zfj v fun cs => match nthP pl i with
   | some q => match Nat.beq cs.length q.2 with
    | true => putK z q.1 cs fun z => ZgF t' pl ps z c
    | false => false
   | none => false) = _
  dsimp only at e1
  rw [e1, e2]
  rfl
omit Y in
theorem ZfK {len sz : Nat} : ∀ {ps : List (Nat × Operand)} {xs : List Operand}, Zlo t t' xs → (∀ p ∈ ps, p.2 ∈ xs) → ZeQ t' len sz ps = ZeQ t len sz ps
 | [], _, _, _ => rfl
 | (i, x) :: ps, xs, h, hp => by
  funext z c
  have e1 := ZaJ h (hp (i, x) List.mem_cons_self)
  have e2 := ZfK (len := len) (sz := sz) (ps := ps) h fun q hq => hp q (List.mem_cons_of_mem _ hq)
  show (evK t' x fun v => Zfj v fun cs => match Nat.blt i len with
   | true => match Nat.beq cs.length sz with
    | true => putK z (Nat.mul i sz) cs fun z => ZeQ t' len sz ps z c
    | false => false
   | false => false) = _
  dsimp only at e1
  rw [e1, e2]
  rfl
theorem ZkO {op : Op} (h : Zlo t t' op.operands.toList) : ZkP P t' op = ZkP P t op := by
 funext c
 unfold ZkP
 cases op with
 | move x => exact congrFun (ZaJ h (by simp [Op.operands])) c
 | assign x => exact congrFun (ZaJ h (by simp [Op.operands])) c
 | pick q x y =>
  dsimp only
  rw [ZaJ h (x := q) (by simp [Op.operands]), ZaJ h (x := x) (by simp [Op.operands]), ZaJ h (x := y) (by simp [Op.operands])]
 | nilCheck x => dsimp only;rw [ZaJ h (x := x) (by simp [Op.operands])]
 | binOp b tt x y t2 => dsimp only;rw [ZaJ h (x := x) (by simp [Op.operands]), ZaJ h (x := y) (by simp [Op.operands])]
 | unOp o tt x => dsimp only;rw [ZaJ h (x := x) (by simp [Op.operands])]
 | convert s d x => dsimp only;rw [ZaJ h (x := x) (by simp [Op.operands])]
 | makeFunc f xs ys => dsimp only;rw [Zfd (ys := xs.toList) h (fun y hy => by simp [Op.operands];left;simpa using hy), Zfd (ys := ys.toList) h (fun y hy => by simp [Op.operands];right;simpa using hy)]
 | fieldAddr s x i => dsimp only;rw [ZaJ h (x := x) (by simp [Op.operands])]
 | field s x i => dsimp only;rw [ZaJ h (x := x) (by simp [Op.operands])]
 | indexAddr tt x y => dsimp only;rw [ZaJ h (x := x) (by simp [Op.operands]), ZaJ h (x := y) (by simp [Op.operands])]
 | index tt x y => dsimp only;rw [ZaJ h (x := x) (by simp [Op.operands]), ZaJ h (x := y) (by simp [Op.operands])]
 | extract x i => dsimp only;rw [ZaJ h (x := x) (by simp [Op.operands])]
 | slice tt x lo hi mx =>
  cases mx with
  | none => dsimp only;rw [ZaJ h (x := x) (by simp [Op.operands]), ZiP (x := lo) h (fun y hy => by subst hy;simp [Op.operands]), ZiP (x := hi) h (fun y hy => by subst hy;simp [Op.operands])]
  | some _ => rfl
 | build tt parts =>
  dsimp only
  unfold Zmg
  have e : ∀ pl, ZgF t' pl parts.toList = ZgF t pl parts.toList := fun pl => ZgE (ps := parts.toList) h (fun p hp => by simp [Op.operands];exact ⟨p.1, by simpa using hp⟩)
  simp only [e]
 | call q =>
  obtain ⟨callee, args, tys⟩ := q
  cases callee with
  | builtin b =>
   have hs : ∀ x, x ∈ args.toList → x ∈ (Op.call ⟨.builtin b, args, tys⟩).operands.toList := fun x hx => by simp [Op.operands, Call.operands];simpa using hx
   dsimp only
   cases ha : args.toList with
   | nil => rfl
   | cons x xs =>
    have e1 := ZaJ h (hs x (by rw [ha];simp))
    cases xs with
    | nil => dsimp only;rw [e1]
    | cons y ys =>
     cases ys with
     | nil => dsimp only;rw [e1, ZaJ h (hs y (by rw [ha];simp))]
     | cons _ _ => rfl
  | _ => rfl
 | _ => rfl
theorem ZmK {call : Zdg} {op : Op} {s : MSt} (h : Zlo t t' op.operands.toList) : memK P call t' op s = memK P call t op s := by
 funext c
 have hp := ZkO (P := P) h
 unfold memK
 cases op with
 | load tt x => dsimp only;rw [ZaJ h (x := x) (by simp [Op.operands])]
 | store tt x y => dsimp only;rw [ZaJ h (x := x) (by simp [Op.operands]), ZaJ h (x := y) (by simp [Op.operands])]
 | alloc tt => rfl
 | box tt x => dsimp only;rw [ZaJ h (x := x) (by simp [Op.operands])]
 | buildSlice tt len parts =>
  dsimp only
  unfold Zet
  have e : ∀ sz, ZeQ t' len sz parts.toList = ZeQ t len sz parts.toList := fun sz => ZfK (ps := parts.toList) h (fun p hp => by simp [Op.operands];exact ⟨p.1, by simpa using hp⟩)
  simp only [e]
 | makeSlice tt x y => dsimp only;rw [ZaJ h (x := x) (by simp [Op.operands]), ZaJ h (x := y) (by simp [Op.operands])]
 | makeMap tt r =>
  cases r with
  | none => rfl
  | some x => dsimp only;rw [ZaJ h (x := x) (by simp [Op.operands])]
 | lookup tt x y cm => dsimp only;rw [ZaJ h (x := x) (by simp [Op.operands]), ZaJ h (x := y) (by simp [Op.operands])]
 | mapUpdate tt x y z => dsimp only;rw [ZaJ h (x := x) (by simp [Op.operands]), ZaJ h (x := y) (by simp [Op.operands]), ZaJ h (x := z) (by simp [Op.operands])]
 | call q =>
  obtain ⟨callee, args, tys⟩ := q
  cases callee with
  | builtin b =>
   have hs : ∀ x, x ∈ args.toList → x ∈ (Op.call ⟨.builtin b, args, tys⟩).operands.toList := fun x hx => by simp [Op.operands, Call.operands];simpa using hx
   cases b with
   | append =>
    dsimp only
    cases ha : args.toList with
    | nil => rfl
    | cons x xs =>
     have e1 := ZaJ h (hs x (by rw [ha];simp))
     cases xs with
     | nil => rfl
     | cons y ys =>
      cases ys with
      | nil => dsimp only;rw [e1, ZaJ h (hs y (by rw [ha];simp))]
      | cons _ _ => rfl
   | copy =>
    dsimp only
    cases ha : args.toList with
    | nil => rfl
    | cons x xs =>
     have e1 := ZaJ h (hs x (by rw [ha];simp))
     cases xs with
     | nil => rfl
     | cons y ys =>
      cases ys with
      | nil => dsimp only;rw [e1, ZaJ h (hs y (by rw [ha];simp))]
      | cons _ _ => rfl
   | _ => dsimp only;rw [hp]
  | value x =>
   dsimp only
   rw [ZaJ h (x := x) (by simp [Op.operands, Call.operands])]
   unfold Zo9
   rw [Zfd (ys := args.toList) h (fun y hy => by simp [Op.operands, Call.operands];right;simpa using hy)]
  | invoke _ _ => dsimp only;rw [hp]
 | _ => dsimp only;rw [hp]
theorem ZmB {call : Zdg} {ops : Array Oper} {o : Oper} {s : MSt} (h : ∀ d, Nm ops o d → t'.get d = t.get d) : oneK P call ops o t' s = oneK P call ops o t s := by
 funext c
 unfold oneK
 rw [ZmK (t := t) fun d hd => h d (.inl hd)]
 unfold Zow
 cases hg : o.guard with
 | none => rfl
 | some q =>
  obtain ⟨j, b⟩ := q
  dsimp only
  cases hd : (ops[j]?).bind (·.dst) with
  | none => rfl
  | some tg => dsimp only;rw [h tg (.inr ⟨j, b, hg, hd⟩)]
/-! ### the masks of an operation -/
omit Y in
theorem Ord.refl' {ops : Array Oper} {j : Nat} {o : Oper} {e : Edge} (ho : ops[j]? = some o) (he : e ∈ o.after.toList) (hb : Region.binds .any e = true) : Ord ops e.on j := fun _ hc hj => hc j o ho hj e he hb
omit Y in
theorem Ord.trans' {ops : Array Oper} {i j k : Nat} (h : Ord ops i j) (h2 : Ord ops j k) : Ord ops i k := fun D hc hk => h D hc (h2 D hc hk)
omit Y in
theorem ZbM {a b j : Nat} : bit (Nat.lor a b) j ↔ bit a j ∨ bit b j := by
 unfold bit
 rw [show Nat.lor a b = a ||| b from rfl, Nat.testBit_or, Bool.or_eq_true]
omit Y in
theorem Zg5 {a b j : Nat} : bit (Nat.land a b) j ↔ bit a j ∧ bit b j := by
 unfold bit
 rw [show Nat.land a b = a &&& b from rfl, Nat.testBit_and, Bool.and_eq_true]
noncomputable def befK (bt : Tr Nat) (es : List Edge) : Nat → (Nat → Bool) → Bool := List.rec (motive := fun _ => Nat → (Nat → Bool) → Bool) (fun acc c => c acc)
 (fun e _ ih acc c => match Region.binds .any e with
  | true => match bt.get e.on with
   | some b => Za4 (orB (Nat.lor acc b) e.on) fun acc => ih acc c
   | none => false
  | false => ih acc c) es
omit Y in
theorem Zlj {bt : Tr Nat} : ∀ {es : List Edge} {acc : Nat} {c : Nat → Bool}, befK bt es acc c = true →
  ∃ bi, c bi = true ∧ (∀ e ∈ es, Region.binds .any e = true → ∃ b, bt.get e.on = some b) ∧ ∀ x, bit bi x → bit acc x ∨ ∃ e ∈ es, Region.binds .any e = true ∧ (x = e.on ∨ ∃ b, bt.get e.on = some b ∧ bit b x)
 | [], acc, c, h => ⟨acc, h, fun e he => by simp at he, fun x hx => .inl hx⟩
 | e :: es, acc, c, h => by
  have h' : (match Region.binds .any e with
   | true => match bt.get e.on with
    | some b => Za4 (orB (Nat.lor acc b) e.on) fun acc => befK bt es acc c
    | none => false
   | false => befK bt es acc c) = true := h
  split at h'
  ·rename_i hb
   split at h'
   case h_2 => cases h'
   rename_i b hbt
   rw [ZaI] at h'
   obtain ⟨bi, h1, h2, h3⟩ := Zlj h'
   refine ⟨bi, h1, fun e' he' hb' => ?_, fun x hx => ?_⟩
   ·rcases List.mem_cons.1 he' with rfl | he'
    ·exact ⟨b, hbt⟩
    ·exact h2 e' he' hb'
   ·rcases h3 x hx with h4 | ⟨e', h4, h5⟩
    ·rcases ZbA.1 h4 with h4 | h4
     ·rcases ZbM.1 h4 with h4 | h4
      ·exact .inl h4
      ·exact .inr ⟨e, List.mem_cons_self, hb, .inr ⟨b, hbt, h4⟩⟩
     ·exact .inr ⟨e, List.mem_cons_self, hb, .inl h4⟩
    ·exact .inr ⟨e', List.mem_cons_of_mem _ h4, h5⟩
  ·rename_i hb
   obtain ⟨bi, h1, h2, h3⟩ := Zlj h'
   refine ⟨bi, h1, fun e' he' hb' => ?_, fun x hx => ?_⟩
   ·rcases List.mem_cons.1 he' with rfl | he'
    ·rw [hb] at hb';cases hb'
    ·exact h2 e' he' hb'
   ·rcases h3 x hx with h4 | ⟨e', h4, h5⟩
    ·exact .inl h4
    ·exact .inr ⟨e', List.mem_cons_of_mem _ h4, h5⟩
noncomputable def ZlQ (xs : List Operand) : Nat → (Nat → Bool) → Bool := List.rec (motive := fun _ => Nat → (Nat → Bool) → Bool) (fun acc c => c acc)
 (fun x _ ih acc c => match x with
  | .tmp d => Za4 (orB acc d) fun acc => ih acc c
  | _ => ih acc c) xs
omit Y in
theorem Zd4 : ∀ {xs : List Operand} {acc : Nat} {c : Nat → Bool}, ZlQ xs acc c = true → ∃ nm, c nm = true ∧ (∀ d, bit acc d → bit nm d) ∧ ∀ d, .tmp d ∈ xs → bit nm d
 | [], acc, c, h => ⟨acc, h, fun _ h => h, fun d hd => by simp at hd⟩
 | x :: xs, acc, c, h => by
  cases x with
  | tmp d =>
   have h' : (Za4 (orB acc d) fun acc => ZlQ xs acc c) = true := h
   rw [ZaI] at h'
   obtain ⟨nm, h1, h2, h3⟩ := Zd4 h'
   refine ⟨nm, h1, fun d' hd' => h2 d' (ZbA.2 (.inl hd')), fun d' hd' => ?_⟩
   rcases List.mem_cons.1 hd' with hd' | hd'
   ·cases hd'
    exact h2 _ (ZbA.2 (.inr rfl))
   ·exact h3 d' hd'
  | const u =>
   obtain ⟨nm, h1, h2, h3⟩ := Zd4 (xs := xs) (acc := acc) (c := c) h
   exact ⟨nm, h1, h2, fun d' hd' => h3 d' ((List.mem_cons.1 hd').resolve_left (by simp))⟩
  | global u =>
   obtain ⟨nm, h1, h2, h3⟩ := Zd4 (xs := xs) (acc := acc) (c := c) h
   exact ⟨nm, h1, h2, fun d' hd' => h3 d' ((List.mem_cons.1 hd').resolve_left (by simp))⟩
  | func u =>
   obtain ⟨nm, h1, h2, h3⟩ := Zd4 (xs := xs) (acc := acc) (c := c) h
   exact ⟨nm, h1, h2, fun d' hd' => h3 d' ((List.mem_cons.1 hd').resolve_left (by simp))⟩
noncomputable def nmK (ops : Array Oper) (o : Oper) (c : Nat → Bool) : Bool := match o.guard with
 | none => ZlQ o.op.operands.toList 0 c
 | some (j, _) => match (ops[j]?).bind (·.dst) with
  | some d => ZlQ o.op.operands.toList (orB 0 d) c
  | none => false
omit Y in
theorem ZtD {ops : Array Oper} {o : Oper} {c : Nat → Bool} (h : nmK ops o c = true) : ∃ nm, c nm = true ∧ ∀ d, Nm ops o d → bit nm d := by
 unfold nmK at h
 split at h
 ·rename_i hg
  obtain ⟨nm, h1, _, h3⟩ := Zd4 h
  refine ⟨nm, h1, fun d hd => ?_⟩
  rcases hd with hd | ⟨j, b, hd, _⟩
  ·exact h3 d hd
  ·rw [hg] at hd;cases hd
 ·rename_i j b hg
  split at h
  case h_2 => cases h
  rename_i d0 hd0
  obtain ⟨nm, h1, h2, h3⟩ := Zd4 h
  refine ⟨nm, h1, fun d hd => ?_⟩
  rcases hd with hd | ⟨j', b', hd, hd2⟩
  ·exact h3 d hd
  ·rw [hg] at hd
   cases hd
   rw [hd0] at hd2
   cases hd2
   exact h2 _ (ZbA.2 (.inr rfl))
structure PR where
 i : Nat
 F : Nat
 W : Nat
 nm : Nat
 dm : Nat
def dmOf (d : Option Tmp) : Nat := match d with | some d => Nat.pow 2 d | none => 0
omit Y in
theorem Zjo {d : Tmp} : bit (dmOf (some d)) d := by
 unfold bit dmOf
 show (2 ^ d).testBit d = true
 exact Nat.testBit_two_pow_self
def ZmY (p : PR) (F W nm dm : Nat) : Nat := Nat.lor (Nat.lor (Nat.land p.W F) (Nat.land p.F W)) (Nat.lor (Nat.land p.dm (Nat.lor nm dm)) (Nat.land p.nm dm))
noncomputable def ZmV (bi F W nm dm : Nat) (ps : List PR) : Bool := List.rec true (fun p _ ih => match Nat.beq (ZmY p F W nm dm) 0 with
 | true => ih
 | false => match Nat.beq (Nat.land (Nat.shiftRight bi p.i) 1) 1 with
  | true => ih
  | false => false) ps
omit Y in
theorem Zmb {bi F W nm dm : Nat} : ∀ {ps : List PR}, ZmV bi F W nm dm ps = true → ∀ p ∈ ps, ZmY p F W nm dm = 0 ∨ bit bi p.i
 | [], _, p, hp => by simp at hp
 | q :: ps, h, p, hp => by
  have h' : (match Nat.beq (ZmY q F W nm dm) 0 with
   | true => ZmV bi F W nm dm ps
   | false => match Nat.beq (Nat.land (Nat.shiftRight bi q.i) 1) 1 with
    | true => ZmV bi F W nm dm ps
    | false => false) = true := h
  have hr : ZmV bi F W nm dm ps = true ∧ (ZmY q F W nm dm = 0 ∨ bit bi q.i) := by
   split at h'
   ·rename_i h0
    exact ⟨h', .inl (Nat.eq_of_beq_eq_true h0)⟩
   ·split at h'
    ·rename_i h1
     refine ⟨h', .inr ?_⟩
     have := Nat.eq_of_beq_eq_true h1
     unfold bit Nat.testBit
     rw [show Nat.land (Nat.shiftRight bi q.i) 1 = (bi >>> q.i) &&& 1 from rfl, Nat.and_comm] at this
     rw [this]
     rfl
    ·cases h'
  rcases List.mem_cons.1 hp with rfl | hp
  ·exact hr.2
  ·exact Zmb hr.1 p hp
omit Y in
theorem ZgQ {x b : Nat} (h : x = 0) : ¬ bit x b := by rw [h];exact bit0
end Go.Proofs.YtfhkmgcalcfibaaGreat
namespace Go.Proofs.YtfhkmgcalcfibaaGreat
open Go.RowKit
variable [Y : Sy]
def setF {α : Type} (f : Nat → α) (k : Nat) (x : α) : Nat → α := fun j => if j = k then x else f j
omit Y in
theorem Zbj {α : Type} {f : Nat → α} {k : Nat} {x : α} : setF f k x k = x := if_pos rfl
omit Y in
theorem ZdU {α : Type} {f : Nat → α} {k j : Nat} {x : α} (h : j ≠ k) : setF f k x j = f j := if_neg h
omit Y in
theorem SLe.acc {m : Tr VO} {nx : Nat} {s1 : MSt} (h : SLe ⟨m, nx, 0, 0⟩ s1) (F W : Nat) : SLe ⟨m, nx, F, W⟩ ⟨s1.m, s1.nx, Nat.lor F s1.F, Nat.lor W s1.W⟩ where
 nx := h.nx
 F := fun b hb => ZbM.2 (.inl hb)
 W := fun b hb => ZbM.2 (.inl hb)
 WF := fun hw b hb => (ZbM.1 hb).elim (fun hb => ZbM.2 (.inl (hw b hb))) fun hb => ZbM.2 (.inr (h.WF (fun b hb => (bit0 hb).elim) b hb))
 old := fun b hb hw => h.old b hb fun hc => hw (ZbM.2 (.inr hc))
 dead := h.dead
 new := fun b h1 h2 => ⟨ZbM.2 (.inr (h.new b h1 h2).1), ZbM.2 (.inr (h.new b h1 h2).2)⟩
 top := h.top
section
variable {P : Program} {n : Nat} {ops : Array Oper} {t0 : Tr Value} {m0 : Tr VO} {n0 i : Nat} {T : Nat → Tr Value} {M : Nat → Tr VO} {N F W : Nat → Nat} {v : Nat → Value}
theorem Tra.snoc (h : Tra P n ops t0 m0 n0 i T M N F W v) {o : Oper} {s1 : MSt} {t1 : Tr Value} {x : Value} (ho : ops[i]? = some o) (hback : ∀ e ∈ o.after.toList, Region.binds .any e = true → e.on < i) (hs : SLe ⟨M i, N i, 0, 0⟩ s1)
  (hsem : ∃ tr : Tr Value, (∀ d y, tr.get d = some y → (T i).get d = some y ∧ Nm ops o d) ∧ Zkr P ops o tr ⟨M i, N i, 0, 0⟩ s1 x)
  (hslot : (∀ d, o.dst = some d → d < n) ∧ ∀ d, t1.get d = if o.dst = some d then some x else (T i).get d)
  (hconf : ∀ j b, j < i → (bit (W j) b ∧ bit s1.F b ∨ bit (F j) b ∧ bit s1.W b) → Ord ops j i)
  (hnames : ∀ j oj d, j < i → ops[j]? = some oj → (oj.dst = some d ∧ (Nm ops o d ∨ o.dst = some d) ∨ Nm ops oj d ∧ o.dst = some d) → Ord ops j i) :
  Tra P n ops t0 m0 n0 (i + 1) (setF T (i + 1) t1) (setF M (i + 1) s1.m) (setF N (i + 1) s1.nx) (setF F i s1.F) (setF W i s1.W) (setF v i x) := by
 have hT : ∀ j, j ≤ i → setF T (i + 1) t1 j = T j := fun j hj => ZdU (by omega)
 have hM : ∀ j, j ≤ i → setF M (i + 1) s1.m j = M j := fun j hj => ZdU (by omega)
 have hN : ∀ j, j ≤ i → setF N (i + 1) s1.nx j = N j := fun j hj => ZdU (by omega)
 have hF : ∀ j, j < i → setF F i s1.F j = F j := fun j hj => ZdU (by omega)
 have hW : ∀ j, j < i → setF W i s1.W j = W j := fun j hj => ZdU (by omega)
 have hv : ∀ j, j < i → setF v i x j = v j := fun j hj => ZdU (by omega)
 refine ⟨(hT 0 (Nat.zero_le _)).trans h.T0, (hM 0 (Nat.zero_le _)).trans h.M0, (hN 0 (Nat.zero_le _)).trans h.N0, fun j hj => ?_, fun j hj => ?_, fun j oj hj hoj => ?_, fun j oj hj hoj => ?_, fun j j' b hjj hj' hb => ?_, fun j j' oj oj' d hjj hj' hoj hoj' hd => ?_, h.top⟩
 ·rcases Nat.lt_or_ge j i with h1 | h1
  ·exact h.op j h1
  ·obtain rfl : j = i := by omega
   exact ⟨o, ho, hback⟩
 ·rcases Nat.lt_or_ge j i with h1 | h1
  ·rw [hM j (by omega), hN j (by omega), hM (j + 1) (by omega), hN (j + 1) (by omega), hF j h1, hW j h1]
   exact h.sle j h1
  ·obtain rfl : j = i := by omega
   rw [hM j (by omega), hN j (by omega), Zbj, Zbj, Zbj, Zbj]
   exact hs
 ·rcases Nat.lt_or_ge j i with h1 | h1
  ·rw [hT j (by omega), hM j (by omega), hN j (by omega), hM (j + 1) (by omega), hN (j + 1) (by omega), hF j h1, hW j h1, hv j h1]
   exact h.sem j oj h1 hoj
  ·obtain rfl : j = i := by omega
   rw [ho] at hoj
   cases hoj
   rw [hT j (by omega), hM j (by omega), hN j (by omega), Zbj, Zbj, Zbj, Zbj, Zbj]
   exact hsem
 ·rcases Nat.lt_or_ge j i with h1 | h1
  ·rw [hT j (by omega), hT (j + 1) (by omega), hv j h1]
   exact h.slot j oj h1 hoj
  ·obtain rfl : j = i := by omega
   rw [ho] at hoj
   cases hoj
   rw [hT j (by omega), Zbj, Zbj]
   exact hslot
 ·rcases Nat.lt_or_ge j' i with h1 | h1
  ·rw [hF j (by omega), hF j' h1, hW j (by omega), hW j' h1] at hb
   exact h.conf j j' b hjj h1 hb
  ·obtain rfl : j' = i := by omega
   rw [hF j hjj, hW j hjj, Zbj, Zbj] at hb
   exact hconf j b hjj hb
 ·rcases Nat.lt_or_ge j' i with h1 | h1
  ·exact h.names j j' oj oj' d hjj h1 hoj hoj' hd
  ·obtain rfl : j' = i := by omega
   rw [ho] at hoj'
   cases hoj'
   exact hnames j oj d hjj hoj hd
end
noncomputable def ZsA (P : Program) (call : Zdg) (n : Nat) (ops : Array Oper) (l : List Oper) : Nat → Tr Value → MSt → Tr Nat → List PR → (Tr Value → MSt → Bool) → Bool := List.rec (motive := fun _ => Nat → Tr Value → MSt → Tr Nat → List PR → (Tr Value → MSt → Bool) → Bool) (fun _ t s _ _ c => c t s)
 (fun o _ ih i t s bt ps c => befK bt o.after.toList 0 fun bi => nmK ops o fun nm => Za4 (dmOf o.dst) fun dm => oneK P call ops o t ⟨s.m, s.nx, 0, 0⟩ fun v s1 => ZeN n o.dst v t fun t1 => match ZmV bi s1.F s1.W nm dm ps with
  | true => bt.setK i (some bi) fun bt => Za4 (Nat.lor s.F s1.F) fun F => Za4 (Nat.lor s.W s1.W) fun W => Za4 (i + 1) fun i' => ih i' t1 ⟨s1.m, s1.nx, F, W⟩ bt (⟨i, s1.F, s1.W, nm, dm⟩ :: ps) c
  | false => false) l
omit Y in
theorem Zko {p : PR} {F W nm dm : Nat} (h : ZmY p F W nm dm = 0) : (∀ b, ¬ (bit p.W b ∧ bit F b)) ∧ (∀ b, ¬ (bit p.F b ∧ bit W b)) ∧ (∀ b, ¬ (bit p.dm b ∧ (bit nm b ∨ bit dm b))) ∧ ∀ b, ¬ (bit p.nm b ∧ bit dm b) := by
 unfold ZmY at h
 refine ⟨fun b hb => ZgQ h (ZbM.2 (.inl (ZbM.2 (.inl (Zg5.2 hb))))), fun b hb => ZgQ h (ZbM.2 (.inl (ZbM.2 (.inr (Zg5.2 hb))))), fun b hb => ZgQ h (ZbM.2 (.inr (ZbM.2 (.inl (Zg5.2 ⟨hb.1, ZbM.2 hb.2⟩))))), fun b hb => ZgQ h (ZbM.2 (.inr (ZbM.2 (.inr (Zg5.2 hb)))))⟩
omit Y in
theorem ZkN {n : Nat} {d : Option Tmp} {v : Value} {t : Tr Value} {c : Tr Value → Bool} (h : ZeN n d v t c = true) : ∃ t', c t' = true ∧ (∀ k, d = some k → k < n) ∧ ∀ k, t'.get k = if d = some k then some v else t.get k := by
 unfold ZeN at h
 split at h
 ·exact ⟨t, h, fun k hk => (by cases hk), fun k => by rw [if_neg (by simp)]⟩
 ·split at h
  case h_2 => cases h
  rename_i d _ hd
  obtain ⟨t', h1, h2⟩ := Tr.setK_ok h
  refine ⟨t', h2, fun k hk => ?_, fun k => ?_⟩
  ·cases hk
   exact Nat.le_of_ble_eq_true hd
  ·rw [h1]
   by_cases he : k = d
   ·subst he
    rw [if_pos rfl, if_pos rfl]
   ·rw [if_neg he, if_neg fun hc => he (by cases hc;rfl)]
section
variable {P : Program} {n : Nat} {ops : Array Oper} {t0 : Tr Value} {s0 : MSt}
theorem Zl9 {call : Zdg} (hcall : Ze4 P call) (hwf0 : Wf s0) : ∀ {l : List Oper} {i : Nat} {t : Tr Value} {s : MSt} {bt : Tr Nat} {ps : List PR} {c : Tr Value → MSt → Bool} {T : Nat → Tr Value} {M : Nat → Tr VO} {N F W : Nat → Nat} {v : Nat → Value},
  (∀ j, ops[i + j]? = l[j]?) → Tra P n ops t0 s0.m s0.nx i T M N F W v → T i = t → M i = s.m → N i = s.nx → SLe s0 s → (∀ j, j < i → ∀ b, bit (F j) b → bit s.F b) → (∀ j, j < i → ∀ b, bit (W j) b → bit s.W b) →
  (∀ j b, bt.get j = some b → j < i ∧ ∀ x, bit b x → Ord ops x j) → (∀ j oj, j < i → ops[j]? = some oj → ∃ p ∈ ps, p.i = j ∧ p.F = F j ∧ p.W = W j ∧ (∀ d, Nm ops oj d → bit p.nm d) ∧ p.dm = dmOf oj.dst) →
  ZsA P call n ops l i t s bt ps c = true →
  ∃ T M N F W v Ft Wt, Tra P n ops t0 s0.m s0.nx (i + l.length) T M N F W v ∧ SLe s0 ⟨M (i + l.length), N (i + l.length), Ft, Wt⟩ ∧ (∀ j, j < i + l.length → ∀ b, bit (F j) b → bit Ft b) ∧ (∀ j, j < i + l.length → ∀ b, bit (W j) b → bit Wt b) ∧ c (T (i + l.length)) ⟨M (i + l.length), N (i + l.length), Ft, Wt⟩ = true
 | [], i, t, s, bt, ps, c, T, M, N, F, W, v, _, hT, e1, e2, e3, hs, hF, hW, _, _, h => by
  refine ⟨T, M, N, F, W, v, s.F, s.W, hT, ?_, hF, hW, ?_⟩
  ·simp only [List.length_nil, Nat.add_zero, e2, e3]
   exact hs
  ·simp only [List.length_nil, Nat.add_zero, e1, e2, e3]
   exact h
 | o :: l, i, t, s, bt, ps, c, T, M, N, F, W, v, hl, hT, e1, e2, e3, hs, hF, hW, hbt, hps, h => by
  have ho : ops[i]? = some o := by simpa using hl 0
  have h' : (befK bt o.after.toList 0 fun bi => nmK ops o fun nm => Za4 (dmOf o.dst) fun dm => oneK P call ops o t ⟨s.m, s.nx, 0, 0⟩ fun v s1 => ZeN n o.dst v t fun t1 => match ZmV bi s1.F s1.W nm dm ps with
   | true => bt.setK i (some bi) fun bt => Za4 (Nat.lor s.F s1.F) fun F => Za4 (Nat.lor s.W s1.W) fun W => Za4 (i + 1) fun i' => ZsA P call n ops l i' t1 ⟨s1.m, s1.nx, F, W⟩ bt (⟨i, s1.F, s1.W, nm, dm⟩ :: ps) c
   | false => false) = true := h
  obtain ⟨bi, h1, b1, b2⟩ := Zlj h'
  obtain ⟨nm, h2, hnm⟩ := ZtD h1
  rw [ZaI] at h2
  have hwf : Wf ⟨s.m, s.nx, 0, 0⟩ := ⟨fun b hb => (bit0 hb).elim, (hs.wf hwf0).2⟩
  -- the operation by its own slots alone
  classical
  have hag : ∀ d, Nm ops o d → (t.filt fun d => decide (Nm ops o d)).get d = t.get d := fun d hd => by rw [Tr.filt_get, if_pos (by simpa using hd)]
  rw [← ZmB (t := t) (t' := t.filt fun d => decide (Nm ops o d)) hag] at h2
  obtain ⟨x, s1, hs1, hsem, h3⟩ := ZnR hcall hwf h2
  obtain ⟨t1, h4, k1, k2⟩ := ZkN h3
  split at h4
  case h_2 => cases h4
  rename_i hconf
  have hconf := Zmb hconf
  obtain ⟨bt1, k3, h5⟩ := Tr.setK_ok h4
  rw [ZaI, ZaI, ZaI] at h5
  have hord : ∀ y, bit bi y → Ord ops y i := fun y hy => by
   rcases b2 y hy with hy | ⟨e, he, heb, hy⟩
   ·exact (bit0 hy).elim
   ·rcases hy with rfl | ⟨b, hb, hy⟩
    ·exact Ord.refl' ho he heb
    ·exact ((hbt _ _ hb).2 y hy).trans' (Ord.refl' ho he heb)
  have hT1 : Tra P n ops t0 s0.m s0.nx (i + 1) (setF T (i + 1) t1) (setF M (i + 1) s1.m) (setF N (i + 1) s1.nx) (setF F i s1.F) (setF W i s1.W) (setF v i x) := by
   refine hT.snoc ho (fun e he heb => ?_) (by rw [e2, e3];exact hs1) ⟨_, fun d y hy => ?_, by rw [e2, e3];exact hsem⟩ ⟨k1, by rw [e1];exact k2⟩ (fun j b hj hb => ?_) fun j oj d hj hoj hd => ?_
   ·obtain ⟨b, hb⟩ := b1 e he heb
    exact (hbt _ _ hb).1
   ·rw [Tr.filt_get] at hy
    split at hy
    ·rename_i hd
     rw [e1]
     exact ⟨hy, by simpa using hd⟩
    ·cases hy
   ·obtain ⟨oj, hoj, _⟩ := hT.op j hj
    obtain ⟨p, hp, p1, p2, p3, _, _⟩ := hps j oj hj hoj
    rcases hconf p hp with hc | hc
    ·obtain ⟨q1, q2, _, _⟩ := Zko hc
     rw [p3] at q1
     rw [p2] at q2
     exact (hb.elim (q1 b) (q2 b)).elim
    ·rw [p1] at hc
     exact hord j hc
   ·obtain ⟨p, hp, p1, _, _, p4, p5⟩ := hps j oj hj hoj
    rcases hconf p hp with hc | hc
    ·obtain ⟨_, _, q3, q4⟩ := Zko hc
     exfalso
     rcases hd with ⟨d1, d2⟩ | ⟨d1, d2⟩
     ·rw [p5, d1] at q3
      refine q3 d ⟨Zjo, ?_⟩
      rcases d2 with d2 | d2
      ·exact .inl (hnm d d2)
      ·exact .inr (by rw [d2];exact Zjo)
     ·rw [d2] at q4
      exact q4 d ⟨p4 d d1, Zjo⟩
    ·rw [p1] at hc
     exact hord j hc
  have hacc : SLe s0 ⟨s1.m, s1.nx, Nat.lor s.F s1.F, Nat.lor s.W s1.W⟩ := hs.trans (hs1.acc s.F s.W)
  obtain ⟨T2, M2, N2, F2, W2, v2, Ft, Wt, r1, r2, r3, r4, r5⟩ := Zl9 hcall hwf0 (l := l) (i := i + 1) (t := t1) (s := ⟨s1.m, s1.nx, Nat.lor s.F s1.F, Nat.lor s.W s1.W⟩) (bt := bt1) (ps := ⟨i, s1.F, s1.W, nm, dmOf o.dst⟩ :: ps) (c := c)
   (fun j => by have := hl (j + 1);rw [List.getElem?_cons_succ] at this;rw [← this];congr 1;omega) hT1 Zbj Zbj Zbj hacc
   (fun j hj b hb => by
    dsimp only
    by_cases he : j = i
    ·subst he
     rw [Zbj] at hb
     exact ZbM.2 (.inr hb)
    ·rw [ZdU he] at hb
     exact ZbM.2 (.inl (hF j (by omega) b hb)))
   (fun j hj b hb => by
    dsimp only
    by_cases he : j = i
    ·subst he
     rw [Zbj] at hb
     exact ZbM.2 (.inr hb)
    ·rw [ZdU he] at hb
     exact ZbM.2 (.inl (hW j (by omega) b hb)))
   (fun j b hb => by
    rw [k3] at hb
    by_cases he : j = i
    ·subst he
     rw [if_pos rfl] at hb
     cases hb
     exact ⟨Nat.lt_succ_self _, hord⟩
    ·rw [if_neg he] at hb
     obtain ⟨q1, q2⟩ := hbt j b hb
     exact ⟨by omega, q2⟩)
   (fun j oj hj hoj => by
    by_cases he : j = i
    ·subst he
     rw [ho] at hoj
     cases hoj
     exact ⟨_, List.mem_cons_self, rfl, Zbj.symm, Zbj.symm, hnm, rfl⟩
    ·obtain ⟨p, hp, p1, p2, p3, p4, p5⟩ := hps j oj (by omega) hoj
     exact ⟨p, List.mem_cons_of_mem _ hp, p1, by rw [ZdU he];exact p2, by rw [ZdU he];exact p3, p4, p5⟩) h5
  have hlen : i + (o :: l).length = i + 1 + l.length := by simp;omega
  rw [hlen]
  exact ⟨T2, M2, N2, F2, W2, v2, Ft, Wt, r1, r2, r3, r4, r5⟩
noncomputable def ZsB (P : Program) (call : Zdg) (n : Nat) (ops : Array Oper) (t : Tr Value) (s : MSt) (c : Tr Value → MSt → Bool) : Bool := ZsA P call n ops ops.toList 0 t s .leaf [] c
def SemD (P : Program) (n : Nat) (ops : Array Oper) (t : Tr Value) (s : MSt) (t' : Tr Value) (s' : MSt) : Prop := ∀ (S : List Nat) (W0 : World) (ρ : Rl) (df : List Deferred) (a : Act) (w : World) (Q : Exit → Act → World → Prop) (r : Option Nat) (id : Nat),
 FrR ρ n df t a → Pre S W0 ρ s s' w → (∀ ρ' a' w', Stp S W0 ρ s w ρ' s' w' → FrR ρ' n df t' a' → Q .normal a' w') → Wp r P (.region id ops true) Q a w
theorem ZqM {call : Zdg} (hm : P.follows .mixedOrders = true) (hcall : Ze4 P call) {t : Tr Value} {s : MSt} {c : Tr Value → MSt → Bool} (hwf : Wf s) (h : ZsB P call n ops t s c = true) : ∃ t' s', SLe s s' ∧ SemD P n ops t s t' s' ∧ c t' s' = true := by
 have hT0 : Tra P n ops t s.m s.nx 0 (fun _ => t) (fun _ => s.m) (fun _ => s.nx) (fun _ => 0) (fun _ => 0) (fun _ => undef) := ⟨rfl, rfl, rfl, fun i hi => by omega, fun i hi => by omega, fun i o hi => by omega, fun i o hi => by omega, fun i j b h1 h2 => by omega, fun i j oi oj d h1 h2 => by omega, hwf.2⟩
 obtain ⟨T, M, N, F, W, v, Ft, Wt, r1, r2, r3, r4, r5⟩ := Zl9 hcall hwf (l := ops.toList) (i := 0) (fun j => by simp) hT0 rfl rfl rfl (SLe.refl s) (fun j hj => by omega) (fun j hj => by omega) (fun j b hb => by rw [Tr.get_leaf] at hb;cases hb) (fun j oj hj => by omega) h
 have hlen : 0 + ops.toList.length = ops.size := by simp
 rw [hlen] at r1 r2 r3 r4 r5
 exact ⟨T ops.size, _, r2, fun S W0 ρ df a w Q r id fr hp hQ => r1.region hm r3 r4 fr hp hQ, r5⟩
end
end Go.Proofs.YtfhkmgcalcfibaaGreat
namespace Go.Proofs.YtfhkmgcalcfibaaGreat
open Go.RowKit
variable [Y : Sy]
section
variable {P : Program}
def SemC (P : Program) (n : Nat) (x : Code) (t : Tr Value) (s : MSt) (e : Exit) (t' : Tr Value) (s' : MSt) : Prop := ∀ (S : List Nat) (W0 : World) (ρ : Rl) (df : List Deferred) (a : Act) (w : World) (Q : Exit → Act → World → Prop) (r : Option Nat),
 FrR ρ n df t a → Pre S W0 ρ s s' w → (∀ ρ' a' w', Stp S W0 ρ s w ρ' s' w' → FrR ρ' n df t' a' → Q e a' w') → Wp r P x Q a w
abbrev Zln := Tr Value → MSt → (Exit → Tr Value → MSt → Bool) → Bool
noncomputable def Zql (ih : Zln) (fuel : Nat) : Zln := Nat.rec (motive := fun _ => Zln) (fun _ _ _ => false) (fun _ rec t s c => ih t s fun e t s => match e with
 | .normal => rec t s c
 | e => c e t s) fuel
noncomputable def Zju (P : Program) (call : Zdg) (n : Nat) (x : Code) : Zln := Code.rec (motive := fun _ => Zln)
 (fun t s c => c .normal t s)
 (fun _ ops draw t s c => match draw with
  | true => ZsB P call n ops t s fun t s => c .normal t s
  | false => Zqo P call n ops ops.toList t s fun t s => c .normal t s)
 (fun _ _ iha ihb t s c => iha t s fun e t s => match e with
  | .normal => ihb t s c
  | e => c e t s)
 (fun o _ _ iha ihb t s c => evK t o fun v => match v with
  | .bool true => iha t s c
  | .bool false => ihb t s c
  | _ => false)
 (fun id _ ih t s c => ih t s fun e t s => match e with
  | .exit i => match Nat.beq i id with
   | true => c .normal t s
   | false => c (.exit i) t s
  | e => c e t s)
 (fun _ ih t s c => Zql ih 100000 t s c)
 (fun _ _ _ _ _ _ _ _ _ => false)
 (fun id t s c => c (.exit id) t s)
 (fun _ _ _ _ _ => false)
 (fun _ _ _ _ => false)
 (fun _ _ _ _ => false)
 (fun t s c => c .ret t s)
 (fun _ _ _ _ => false) x
inductive ZhV (P : Program) (n : Nat) (x : Code) : Nat → Tr Value → MSt → Exit → Tr Value → MSt → Prop
 | last {t t' : Tr Value} {s s' : MSt} {e : Exit} (h : SemC P n x t s e t' s') (he : e ≠ .normal) : ZhV P n x 0 t s e t' s'
 | step {j : Nat} {t t1 t' : Tr Value} {s s1 s' : MSt} {e : Exit} (h : SemC P n x t s .normal t1 s1) (hs : SLe s s1) (hs2 : SLe s1 s') (k : ZhV P n x j t1 s1 e t' s') : ZhV P n x (j + 1) t s e t' s'
theorem ZhV.sem {n : Nat} {x : Code} {j : Nat} {t t' : Tr Value} {s s' : MSt} {e : Exit} (hwf : Wf s) (hle : SLe s s') (h : ZhV P n x j t s e t' s') : SemC P n (.loop x) t s e t' s' := by
 intro S W0 ρ df a w Q r F hp hQ
 refine ZgK (fun j a1 w1 => ∃ t1 s1 ρ1, ZhV P n x j t1 s1 e t' s' ∧ SLe s s1 ∧ SLe s1 s' ∧ Stp S W0 ρ s w ρ1 s1 w1 ∧ FrR ρ1 n df t1 a1) j ⟨t, s, ρ, h, SLe.refl s, hle, Stp.same rfl rfl (hp.1.mono hle.F), F⟩ ?_
 rintro k a1 w1 ⟨t1, s1, ρ1, hch, h1, h2, st, F1⟩
 have hp1 := Pre.snd h1 h2 hwf hp st
 cases hch with
 | last hb he =>
  refine hb S W0 ρ1 df a1 w1 _ r F1 hp1 fun ρ2 a2 w2 st2 F2 => ?_
  have := hQ ρ2 a2 w2 (Stp.trans h1 h2 hwf hp st st2) F2
  cases e with
  | normal => exact (he rfl).elim
  | exit _ => exact this
  | goto _ => exact this
  | ret => exact this
  | panic _ => exact this
  | outgrown => exact this
 | step hb hs hs2 hk =>
  rename_i j1 t2 s2
  have hp2 := Pre.fst hs hs2 hp1
  exact hb S W0 ρ1 df a1 w1 _ r F1 hp2 fun ρ2 a2 w2 st2 F2 => ⟨j1, Nat.lt_succ_self _, t2, s2, ρ2, hk, h1.trans hs, hs2, Stp.trans h1 hs hwf (Pre.fst (h1.trans hs) hs2 hp) st st2, F2⟩
def ZrE (P : Program) (n : Nat) (x : Code) (ih : Zln) : Prop := ∀ t s c, Wf s → ih t s c = true → ∃ e t' s', SLe s s' ∧ SemC P n x t s e t' s' ∧ c e t' s' = true
theorem ZlT {n : Nat} {x : Code} {ih : Zln} (hih : ZrE P n x ih) : ∀ {fuel : Nat} {t : Tr Value} {s : MSt} {c : Exit → Tr Value → MSt → Bool}, Wf s → Zql ih fuel t s c = true → ∃ j e t' s', SLe s s' ∧ ZhV P n x j t s e t' s' ∧ c e t' s' = true
 | 0, _, _, _, _, h => by cases h
 | fuel + 1, t, s, c, hwf, h => by
  have h' : (ih t s fun e t s => match e with
   | .normal => Zql ih fuel t s c
   | e => c e t s) = true := h
  obtain ⟨e, t1, s1, h1, h2, h3⟩ := hih t s _ hwf h'
  cases e with
  | normal =>
   obtain ⟨j, e, t', s', k1, k2, k3⟩ := ZlT hih (h1.wf hwf) h3
   exact ⟨j + 1, e, t', s', h1.trans k1, .step h2 h1 k1 k2, k3⟩
  | exit _ => exact ⟨0, _, t1, s1, h1, .last h2 (by simp), h3⟩
  | goto _ => exact ⟨0, _, t1, s1, h1, .last h2 (by simp), h3⟩
  | ret => exact ⟨0, _, t1, s1, h1, .last h2 (by simp), h3⟩
  | panic _ => exact ⟨0, _, t1, s1, h1, .last h2 (by simp), h3⟩
  | outgrown => exact ⟨0, _, t1, s1, h1, .last h2 (by simp), h3⟩
theorem ZqS {call : Zdg} (hm : P.follows .mixedOrders = true) (hcall : Ze4 P call) {n : Nat} (x : Code) : ZrE P n x (Zju P call n x) := by
 induction x with
 | skip => exact fun t s c hwf h => ⟨.normal, t, s, SLe.refl s, fun S W0 ρ df a w Q r F hp hQ => ZcQ (hQ ρ a w (Stp.same rfl rfl hp.1) F), h⟩
 | region id ops draw =>
  intro t s c hwf h
  cases draw with
  | true =>
   have h' : ZsB P call n ops t s (fun t s => c .normal t s) = true := h
   obtain ⟨t', s', h1, h2, h3⟩ := ZqM hm hcall hwf h'
   exact ⟨.normal, t', s', h1, fun S W0 ρ df a w Q r F hp hQ => h2 S W0 ρ df a w Q r id F hp hQ, h3⟩
  | false =>
   have h' : Zqo P call n ops ops.toList t s (fun t s => c .normal t s) = true := h
   obtain ⟨t', s', h1, h2, h3⟩ := ZlU hcall hwf h'
   refine ⟨.normal, t', s', h1, fun S W0 ρ df a w Q r F hp hQ => ?_, h3⟩
   have := h2 S W0 ρ df a w Q r F hp hQ
   have e : ops = ops.toList.toArray := by simp
   rw [e] at this ⊢
   exact Zaf (by simpa using this)
 | seq x y ihx ihy =>
  intro t s c hwf h
  have h' : (Zju P call n x t s fun e t s => match e with
   | .normal => Zju P call n y t s c
   | e => c e t s) = true := h
  obtain ⟨e, t1, s1, h1, h2, h3⟩ := ihx t s _ hwf h'
  have hother : e ≠ .normal → c e t1 s1 = true → ∃ e t' s', SLe s s' ∧ SemC P n (.seq x y) t s e t' s' ∧ c e t' s' = true := fun he hc => by
   refine ⟨e, t1, s1, h1, fun S W0 ρ df a w Q r F hp hQ => ZaB (h2 S W0 ρ df a w _ r F hp fun ρ' a' w' st F' => ?_), hc⟩
   have := hQ ρ' a' w' st F'
   cases e with
   | normal => exact (he rfl).elim
   | exit _ => exact this
   | goto _ => exact this
   | ret => exact this
   | panic _ => exact this
   | outgrown => exact this
  cases e with
  | normal =>
   obtain ⟨e, t', s', k1, k2, k3⟩ := ihy t1 s1 c (h1.wf hwf) h3
   refine ⟨e, t', s', h1.trans k1, fun S W0 ρ df a w Q r F hp hQ => ZaB ?_, k3⟩
   exact h2 S W0 ρ df a w _ r F (Pre.fst h1 k1 hp) fun ρ1 a1 w1 st F1 => k2 S W0 ρ1 df a1 w1 Q r F1 (Pre.snd h1 k1 hwf hp st) fun ρ2 a2 w2 st2 F2 => hQ ρ2 a2 w2 (Stp.trans h1 k1 hwf hp st st2) F2
  | exit _ => exact hother (by simp) h3
  | goto _ => exact hother (by simp) h3
  | ret => exact hother (by simp) h3
  | panic _ => exact hother (by simp) h3
  | outgrown => exact hother (by simp) h3
 | cond o x y ihx ihy =>
  intro t s c hwf h
  have h' : (evK t o fun v => match v with
   | .bool true => Zju P call n x t s c
   | .bool false => Zju P call n y t s c
   | _ => false) = true := h
  obtain ⟨v, h1, h2⟩ := Zbe h'
  split at h2
  ·obtain ⟨e, t', s', k1, k2, k3⟩ := ihx t s c hwf h2
   exact ⟨e, t', s', k1, fun S W0 ρ df a w Q r F hp hQ => wpIn_cond_true (h1.bool F) (k2 S W0 ρ df a w Q r F hp hQ), k3⟩
  ·obtain ⟨e, t', s', k1, k2, k3⟩ := ihy t s c hwf h2
   exact ⟨e, t', s', k1, fun S W0 ρ df a w Q r F hp hQ => wpIn_cond_false (h1.bool F) (k2 S W0 ρ df a w Q r F hp hQ), k3⟩
  ·cases h2
 | block id x ih =>
  intro t s c hwf h
  have h' : (Zju P call n x t s fun e t s => match e with
   | .exit i => match Nat.beq i id with
    | true => c .normal t s
    | false => c (.exit i) t s
   | e => c e t s) = true := h
  obtain ⟨e, t1, s1, h1, h2, h3⟩ := ih t s _ hwf h'
  cases e with
  | exit i =>
   dsimp only at h3
   split at h3
   ·rename_i hi
    obtain rfl := Nat.eq_of_beq_eq_true hi
    exact ⟨.normal, t1, s1, h1, fun S W0 ρ df a w Q r F hp hQ => ZbT (h2 S W0 ρ df a w _ r F hp fun ρ' a' w' st F' => by simpa [Exit.inBlock] using hQ ρ' a' w' st F'), h3⟩
   ·rename_i hi
    have hi : i ≠ id := fun e => by rw [e] at hi;simp at hi
    exact ⟨.exit i, t1, s1, h1, fun S W0 ρ df a w Q r F hp hQ => ZbT (h2 S W0 ρ df a w _ r F hp fun ρ' a' w' st F' => by simpa [Exit.inBlock, hi] using hQ ρ' a' w' st F'), h3⟩
  | normal => exact ⟨_, t1, s1, h1, fun S W0 ρ df a w Q r F hp hQ => ZbT (h2 S W0 ρ df a w _ r F hp fun ρ' a' w' st F' => hQ ρ' a' w' st F'), h3⟩
  | goto _ => exact ⟨_, t1, s1, h1, fun S W0 ρ df a w Q r F hp hQ => ZbT (h2 S W0 ρ df a w _ r F hp fun ρ' a' w' st F' => hQ ρ' a' w' st F'), h3⟩
  | ret => exact ⟨_, t1, s1, h1, fun S W0 ρ df a w Q r F hp hQ => ZbT (h2 S W0 ρ df a w _ r F hp fun ρ' a' w' st F' => hQ ρ' a' w' st F'), h3⟩
  | panic _ => exact ⟨_, t1, s1, h1, fun S W0 ρ df a w Q r F hp hQ => ZbT (h2 S W0 ρ df a w _ r F hp fun ρ' a' w' st F' => hQ ρ' a' w' st F'), h3⟩
  | outgrown => exact ⟨_, t1, s1, h1, fun S W0 ρ df a w Q r F hp hQ => ZbT (h2 S W0 ρ df a w _ r F hp fun ρ' a' w' st F' => hQ ρ' a' w' st F'), h3⟩
 | loop x ih =>
  intro t s c hwf h
  have h' : Zql (Zju P call n x) 100000 t s c = true := h
  obtain ⟨j, e, t', s', h1, h2, h3⟩ := ZlT ih hwf h'
  exact ⟨e, t', s', h1, h2.sem hwf h1, h3⟩
 | exit id => exact fun t s c hwf h => ⟨.exit id, t, s, SLe.refl s, fun S W0 ρ df a w Q r F hp hQ => Zf6 (hQ ρ a w (Stp.same rfl rfl hp.1) F), h⟩
 | ret => exact fun t s c hwf h => ⟨.ret, t, s, SLe.refl s, fun S W0 ρ df a w Q r F hp hQ => Zb6 (hQ ρ a w (Stp.same rfl rfl hp.1) F), h⟩
 | _ => exact fun t s c hwf h => by cases h
end
end Go.Proofs.YtfhkmgcalcfibaaGreat
namespace Go.Proofs.YtfhkmgcalcfibaaGreat
open Go.RowKit
section
variable [Y : Sy]
variable {P : Program} {t : Tr Value}
theorem Zqm {tt : TypeId} {v : Value} {s : MSt} {c : Value → MSt → Bool} (h : Zk5 P tt v s c = true) :
  ∃ v' s', SLe s s' ∧ s'.m = s.m ∧ s'.nx = s.nx ∧ (∀ (S : List Nat) (W0 : World) (ρ : Rl) (u : Value) (w : World), VR ρ v u → WR S W0 ρ s.m s'.F w → ∃ ad u', u = .pointer (some ad) ∧ (loadVar tt ad).run P w = .ok u' w ∧ VR ρ v' u') ∧ c v' s' = true := by
 unfold Zk5 at h
 split at h
 case h_2 => cases h
 rename_i b o
 split at h
 case h_2 => cases h
 rename_i ob hb
 split at h
 case h_2 => cases h
 rename_i hmp
 rw [Ziq] at h
 rcases Zi5 h with ⟨h1, v, h2, h3⟩ | ⟨n, h1, vs, h2, h3⟩
 ·refine ⟨v, s.rd b, SLe.rd s b, rfl, rfl, fun S W0 ρ u w hv A => ?_, h3⟩
  obtain ⟨r, cc, hr, cs', junk, q1, q2, _, _⟩ := A.atC hb ZgL hmp
  cases hv
  rename_i r' cc' hr'
  rw [hr] at hr'
  cases hr'
  obtain ⟨y, e2, q3⟩ := Zg9 q1 h2
  exact ⟨_, y, rfl, ZcL h1 (Zes q2 (by have := ZlO (junk := junk) e2;rw [ZbG] at this;simpa using this)), q3⟩
 ·refine ⟨_, s.rd b, SLe.rd s b, rfl, rfl, fun S W0 ρ u w hv A => ?_, h3⟩
  obtain ⟨r, cc, hr, cs', junk, q1, q2, _, _⟩ := A.atC hb ZgL hmp
  cases hv
  rename_i r' cc' hr'
  rw [hr] at hr'
  cases hr'
  obtain ⟨ys, e2, q3⟩ := Zfz q1 h2
  exact ⟨_, _, rfl, ZaP h1 q2 (by simpa using ZfF (junk := junk) e2), .agg (by simpa using q3)⟩
noncomputable def resK (P : Program) (t : Tr Value) (rvs : List ResultVar) : MSt → (List Value → MSt → Bool) → Bool := List.rec (motive := fun _ => MSt → (List Value → MSt → Bool) → Bool) (fun s c => c [] s)
 (fun rv _ ih s c => match rv with
  | .tmp d => match t.get d with
   | some v => ih s fun vs s => c (v :: vs) s
   | none => false
  | .cell d ty => match t.get d with
   | some v => Zk5 P ty v s fun v s => ih s fun vs s => c (v :: vs) s
   | none => false) rvs
theorem ZkH : ∀ {rvs : List ResultVar} {s : MSt} {c : List Value → MSt → Bool}, resK P t rvs s c = true →
  ∃ vs s', SLe s s' ∧ s'.m = s.m ∧ s'.nx = s.nx ∧ (∀ (S : List Nat) (W0 : World) (ρ : Rl) (n : Nat) (df : List Deferred) (a : Act) (w : World), FrR ρ n df t a → WR S W0 ρ s.m s'.F w → ∃ us, VRs ρ vs us ∧ Zh2 P a w rvs us) ∧ c vs s' = true
 | [], s, c, h => ⟨[], s, SLe.refl s, rfl, rfl, fun S W0 ρ n df a w F A => ⟨[], .nil, .nil⟩, h⟩
 | rv :: rvs, s, c, h => by
  cases rv with
  | tmp d =>
   have h' : (match t.get d with
    | some v => resK P t rvs s fun vs s => c (v :: vs) s
    | none => false) = true := h
   split at h'
   case h_2 => cases h'
   rename_i v hv
   obtain ⟨vs, s', h1, h2, h3, h4, h5⟩ := ZkH h'
   refine ⟨v :: vs, s', h1, h2, h3, fun S W0 ρ n df a w F A => ?_, h5⟩
   obtain ⟨us, q1, q2⟩ := h4 S W0 ρ n df a w F A
   exact ⟨_, .cons (F.at_ d v hv) q1, .cons (.tmp rfl) q2⟩
  | cell d ty =>
   have h' : (match t.get d with
    | some v => Zk5 P ty v s fun v s => resK P t rvs s fun vs s => c (v :: vs) s
    | none => false) = true := h
   split at h'
   case h_2 => cases h'
   rename_i v hv
   obtain ⟨v1, s1, g1, g2, g3, g4, g5⟩ := Zqm h'
   obtain ⟨vs, s', h1, h2, h3, h4, h5⟩ := ZkH g5
   refine ⟨v1 :: vs, s', g1.trans h1, h2.trans g2, h3.trans g3, fun S W0 ρ n df a w F A => ?_, h5⟩
   obtain ⟨ad, u', q1, q2, q3⟩ := g4 S W0 ρ _ w (F.at_ d v hv) (A.mono h1.F)
   obtain ⟨us, q4, q5⟩ := h4 S W0 ρ n df a w F (g2 ▸ A)
   exact ⟨_, .cons q3 q4, .cons (.cell q1 q2) q5⟩
noncomputable def Zls (vs : List Value) : Nat → Tr Value → (Tr Value → Bool) → Bool := List.rec (motive := fun _ => Nat → Tr Value → (Tr Value → Bool) → Bool) (fun _ t c => c t) (fun v _ ih i t c => t.setK i (some v) fun t => Za4 (i + 1) fun i => ih i t c) vs
omit Y in
theorem ZjH : ∀ {vs : List Value} {i : Nat} {t : Tr Value} {c : Tr Value → Bool}, Zls vs i t c = true → ∃ t', c t' = true ∧ ∀ k, t'.get k = if i ≤ k ∧ k < i + vs.length then vs[k - i]? else t.get k
 | [], i, t, c, h => ⟨t, h, fun k => by rw [if_neg (by simp)]⟩
 | v :: vs, i, t, c, h => by
  have h' : (t.setK i (some v) fun t => Za4 (i + 1) fun i => Zls vs i t c) = true := h
  obtain ⟨t1, h1, h2⟩ := Tr.setK_ok h'
  rw [ZaI] at h2
  obtain ⟨t', h3, h4⟩ := ZjH h2
  refine ⟨t', h3, fun k => ?_⟩
  rw [h4, h1]
  simp only [List.length_cons]
  by_cases hk : k = i
  ·subst hk
   rw [if_neg (by omega), if_pos rfl, if_pos (by omega)]
   simp
  ·by_cases hk2 : i + 1 ≤ k ∧ k < i + 1 + vs.length
   ·rw [if_pos hk2, if_pos (by omega)]
    obtain ⟨d, rfl⟩ : ∃ d, k = i + 1 + d := ⟨k - (i + 1), by omega⟩
    rw [show i + 1 + d - (i + 1) = d by omega, show i + 1 + d - i = d + 1 by omega, List.getElem?_cons_succ]
   ·rw [if_neg hk2, if_neg hk, if_neg (by omega)]
noncomputable def finK (P : Program) (fn : Func) (t : Tr Value) (s : MSt) (c : Value → MSt → Bool) : Bool := resK P t fn.results.toList s fun vs s => c (ZcA vs) s
theorem Stp.ext {S : List Nat} {W0 : World} {ρ : Rl} {s : MSt} {w w1 : World} (A : WR S W0 ρ s.m s.F w) (E : Ext [] w w1) : Stp S W0 ρ s w ρ s w1 :=
 ⟨fun _ _ => rfl, ⟨A.ext.trans E.any, fun b o hb hf => by
  obtain ⟨r, c, h1, h2⟩ := A.at_ b o hb hf
  exact ⟨r, c, h1, h2.later (fun _ _ h => h) (E.block r h2.lt (by simp))⟩, A.inj, A.own⟩, E.size, fun k hk _ => E.block k hk (by simp), fun b o r c h1 h2 => by omega⟩
noncomputable def ZsH (P : Program) (ex : Zdg → Zdg) (fuel : Nat) : Zdg := Nat.rec (motive := fun _ => Zdg) (fun _ _ _ _ => false)
 (fun _ ih f vs s c => match P.funcs[f]? with
  | some fn => match fn.body with
   | some x => match Nat.ble vs.length fn.ntmps with
    | true => Zls vs 0 .leaf fun t => Zju P (ex ih) fn.ntmps x t s fun e t s => match e with
     | .ret => finK P fn t s c
     | .normal => finK P fn t s c
     | _ => false
    | false => false
   | none => false
  | none => false) fuel
theorem Zpp {ρ : Rl} {vs us : List Value} (h : VRs ρ vs us) : VR ρ (ZcA vs) (ZcA us) := by
 cases h with
 | nil => exact .tup .nil
 | cons h t => cases t with
  | nil => exact h
  | cons h2 t2 => exact .tup (.cons h (.cons h2 t2))
theorem Zmd (hm : P.follows .mixedOrders = true) {ex : Zdg → Zdg} (hex : ∀ call, Ze4 P call → Ze4 P (ex call)) : ∀ fuel, Ze4 P (ZsH P ex fuel)
 | 0 => fun f vs s c hwf h => by cases h
 | fuel + 1 => fun f vs s c hwf h => by
  have h' : (match P.funcs[f]? with
   | some fn => match fn.body with
    | some x => match Nat.ble vs.length fn.ntmps with
     | true => Zls vs 0 .leaf fun t => Zju P (ex (ZsH P ex fuel)) fn.ntmps x t s fun e t s => match e with
      | .ret => finK P fn t s c
      | .normal => finK P fn t s c
      | _ => false
     | false => false
    | none => false
   | none => false) = true := h
  split at h'
  case h_2 => cases h'
  rename_i fn hfn
  split at h'
  case h_2 => cases h'
  rename_i x hx
  split at h'
  case h_2 => cases h'
  rename_i hle
  obtain ⟨t, h1, h2⟩ := ZjH h'
  obtain ⟨e, t1, s1, g1, g2, g3⟩ := ZqS hm (hex _ (Zmd hm hex fuel)) x t s _ hwf h1
  have fin : (e = .ret ∨ e = .normal) → finK P fn t1 s1 c = true → ∃ v s', SLe s s' ∧ SemF P f vs s s' v ∧ c v s' = true := fun he hf => by
   obtain ⟨rs, s', k1, k2, k3, k4, k5⟩ := ZkH hf
   refine ⟨ZcA rs, s', g1.trans k1, fun S W0 ρ w args hv hp => ?_, k5⟩
   refine ZtS hfn hx rfl (by rw [hv.len];exact hle) fun a F => ?_
   have F0 : FrR ρ fn.ntmps [] t a := ⟨F.size, F.defers, fun k y hy => by
    rw [h2] at hy
    simp only [Nat.zero_le, true_and, Nat.zero_add, Nat.sub_zero] at hy
    split at hy
    ·rename_i hk
     obtain ⟨u, q1, q2⟩ := Zg9 (i := k) hv (by rw [ZbG];exact hy)
     rw [ZbG] at q1
     have hn : ∀ (vs : List Value) (i k : Nat) (u : Value), vs[k]? = some u → look (ZeS i vs) (i + k) = some u := fun vs => by
      induction vs with
      | nil => intro i k u h;simp at h
      | cons z zs ih =>
       intro i k u h
       simp only [ZeS, Zfc]
       cases k with
       | zero => simp at h;simp [h]
       | succ k =>
        rw [if_neg (by omega)]
        have := ih (i + 1) k u (by simpa using h)
        rw [← this]
        congr 1
        omega
     have := F.at_ k u (by have := hn args 0 k u q1;rwa [Nat.zero_add] at this)
     rw [this]
     exact q2
    ·rw [Tr.get_leaf] at hy
     cases hy⟩
   refine g2 S W0 ρ [] a w _ none F0 (Pre.fst g1 k1 hp) fun ρ1 a1 w1 st F1 => ?_
   have hp1 := Pre.snd g1 k1 hwf hp st
   obtain ⟨us, q1, q2⟩ := k4 S W0 ρ1 fn.ntmps [] a1 w1 F1 hp1.1
   have FF : Frm a1 fn.ntmps [] [] := ⟨F1.size, F1.defers, fun t v h => by simp [look] at h⟩
   have hR : ∃ ρ', Stp S W0 ρ s w ρ' s' w1 ∧ VR ρ' (ZcA rs) (ZcA us) := ⟨ρ1, Stp.trans g1 k1 hwf hp st (Stp.same k2 k3 hp1.1), Zpp q1⟩
   rcases he with rfl | rfl
   ·exact Zb3 FF (rvs := fn.results.toList) (by simp) q2 hR
   ·exact Zup FF (rvs := fn.results.toList) (by simp) q2 hR
  cases e with
  | ret => exact fin (.inl rfl) g3
  | normal => exact fin (.inr rfl) g3
  | exit _ => cases g3
  | goto _ => cases g3
  | panic _ => cases g3
  | outgrown => cases g3
noncomputable def Zs6 (P : Program) (ex : Zdg → Zdg) (fuel : Nat) (f : FuncId) (vs : List Value) : Bool := ZsH P ex fuel f vs ⟨.leaf, 0, 0, 0⟩ fun v _ => match v with
 | .bool b => b
 | _ => false
theorem Zps {ex : Zdg → Zdg} {fuel : Nat} {f : FuncId} {vs us : List Value} [hm : TMix P] (hex : ∀ call, Ze4 P call → Ze4 P (ex call)) (h : Zs6 P ex fuel f vs = true) (hv : VRs (fun _ => none) vs us) (W : World) : Cal P f us.toArray W fun r w' => r = .bool true ∧ Ext [] W w' := by
 have hwf : Wf ⟨.leaf, 0, 0, 0⟩ := ⟨fun b hb => (bit0 hb).elim, fun b _ => Tr.get_leaf b⟩
 obtain ⟨v, s', h1, h2, h3⟩ := Zmd hm.h hex fuel f vs ⟨.leaf, 0, 0, 0⟩ _ hwf h
 have hp : Pre [] W (fun _ => none) ⟨.leaf, 0, 0, 0⟩ s' W := by
  have hl : ∀ b (o : VO), ¬ (Tr.leaf : Tr VO).get b = some o := fun b o hb => by rw [Tr.get_leaf] at hb;cases hb
  exact ⟨⟨Ext.refl _ _, fun b o hb => (hl b o hb).elim, fun b b' o o' r c c' hb => (hl b o hb).elim, fun b o r c hb => (hl b o hb).elim⟩, fun _ _ _ => rfl⟩
 refine (h2 [] W (fun _ => none) W us hv hp).mono fun u w' ⟨ρ', st, hv⟩ => ⟨?_, st.wr.ext⟩
 split at h3
 ·rename_i b
  subst h3
  cases hv
  rfl
 ·cases h3
end
@[instance_reducible] noncomputable def sy0 : Sy := syOf 0 0 0 0 [] (by simp)
theorem Zpt {P : Program} {fuel : Nat} {f : FuncId} [hm : TMix P] (h : @Zs6 sy0 P id fuel f [] = true) (W : World) : Cal P f [].toArray W fun r w' => r = .bool true ∧ Ext [] W w' := by
 letI : Sy := sy0
 exact Zps (ex := id) (vs := []) (us := []) (fun _ h => h) h .nil W
theorem ZlV (W : World) : Cal Tryz.prog 18 [].toArray W fun r w' => r = .bool true ∧ Ext [] W w' := Zpt (fuel := 60) (by kernel_rfl) W
theorem Zti {S : List Nat} {W w : World} {e : RtE} {t : Nat × Obj} (M : Mem S W w (e.row ++ [[t]]).flatten) : ∀ p ∈ e.row.flatten, p.1 ≠ t.1 := fun p hp h => by
 have h1 := M.nd
 rw [List.flatten_append, List.map_append, List.nodup_append] at h1
 exact h1.2.2 p.1 (List.mem_map_of_mem hp) t.1 (by simp) h
theorem Zly {S : List Nat} {W w w' : World} {s : RtV} {x : RtX} {e : RtE} {t : Nat × Obj} (hA : RtA s x e) (M : Mem S W w (e.row ++ [[t]]).flatten) (E : Ext [t.1] w w') : RtAt w' s x := hA.at_ fun p hp => by
 have h1 := M.at_ p (by rw [List.flatten_append];exact List.mem_append_left _ hp)
 exact (E.block p.1 (Array.getElem?_eq_some_iff.1 h1).1 (by simpa using Zti M p hp)).trans h1
attribute [local irreducible] OpTo wpListIn Code.wpIn MW Cal
end Go.Proofs.YtfhkmgcalcfibaaGreat
namespace Go.Proofs.YtfhkmgcalcfibaaGreat
open Go.RowKit
def dvN : DstV := ⟨ZmH, 0, ZmH, 0, 0⟩
theorem ZgJ : IsDv dvN := ⟨ZgX, ZgX⟩
def ZeV (self : Int) (src dst : List Int) (w : DstV) (o : OrgV) : DstV :=
 if Zci (orgD self o) src dst && (decide (w.rt = 0) || decide (0 < ZbL (orgD self o) w)) then orgD self o else w
def ZhY (s : RtV) (src dst : List Int) : DstV := s.og.foldl (ZeV s.self src dst) dvN
def Zlb (s : RtV) (src dst : List Int) (i : Nat) : DstV := (s.og.take i).foldl (ZeV s.self src dst) dvN
theorem ZiI {s : RtV} {src dst : List Int} {i : Nat} (h : i < s.og.length) {o : OrgV} (ho : s.og[i] = o) : Zlb s src dst (i + 1) = ZeV s.self src dst (Zlb s src dst i) o := by
 unfold Zlb
 rw [List.take_add_one, List.getElem?_eq_getElem h, List.foldl_append, ho]
 rfl
theorem Zkf (s : RtV) (src dst : List Int) : Zlb s src dst s.og.length = ZhY s src dst := by
 unfold Zlb ZhY
 rw [List.take_length]
theorem Zrq {self : Int} {src dst : List Int} {w : DstV} {o : OrgV} (h : Zci (orgD self o) src dst = false) : ZeV self src dst w o = w := by unfold ZeV;rw [h];rfl
theorem ZtM {self : Int} {src dst : List Int} {w : DstV} {o : OrgV} (h : Zci (orgD self o) src dst = true) (h1 : decide (w.rt = 0) = true) : ZeV self src dst w o = orgD self o := by unfold ZeV;rw [h, h1];rfl
theorem ZtK {self : Int} {src dst : List Int} {w : DstV} {o : OrgV} (h : Zci (orgD self o) src dst = true) (h1 : decide (0 < ZbL (orgD self o) w) = true) : ZeV self src dst w o = orgD self o := by unfold ZeV;rw [h, h1, Bool.or_true];rfl
theorem ZtL {self : Int} {src dst : List Int} {w : DstV} {o : OrgV} (h1 : decide (w.rt = 0) = false) (h2 : decide (0 < ZbL (orgD self o) w) = false) : ZeV self src dst w o = w := by unfold ZeV;rw [h1, h2, Bool.or_false, Bool.and_false];rfl
theorem Zou {self : Int} {src dst : List Int} {w : DstV} {o : OrgV} (h : Zci (orgD self o) src dst = true) (h1 : w.rt = 0) : ZeV self src dst w o = orgD self o := ZtM h (dqT h1)
theorem Zos {self : Int} {src dst : List Int} {w : DstV} {o : OrgV} (h : Zci (orgD self o) src dst = true) (h1 : 0 < ZbL (orgD self o) w) : ZeV self src dst w o = orgD self o := ZtK h (dqT h1)
theorem Zot {self : Int} {src dst : List Int} {w : DstV} {o : OrgV} (h1 : ¬ w.rt = 0) (h2 : ¬ 0 < ZbL (orgD self o) w) : ZeV self src dst w o = w := ZtL (dqF h1) (dqF h2)
theorem Zso {self : Int} {src dst : List Int} {w : DstV} {o : OrgV} (hw : IsDv w) (ho : IsOg o) : IsDv (ZeV self src dst w o) := by
 unfold ZeV
 split
 ·exact ho
 ·exact hw
def nrV (w : DstV) (src dst : List Int) (i : InsV) : Bool := Zci i.to src dst && decide (0 < ZbL i.to w)
theorem Zut {w : DstV} {src dst : List Int} {y : InsV} (h : Zci y.to src dst = false) : nrV w src dst y = false := by unfold nrV;rw [h];rfl
theorem ZtC {w : DstV} {src dst : List Int} {y : InsV} (h : Zci y.to src dst = true) : nrV w src dst y = decide (0 < ZbL y.to w) := by unfold nrV;rw [h];rfl
theorem Zsc {c b : Bool} {p : InsV → Bool} {l : List InsV} {j : Nat} {y : InsV} (h : j < l.length) (hy : l[j] = y) (hb : b = (!c && (l.take j).any p)) : (b || (!c && p y)) = (!c && (l.take (j + 1)).any p) := by
 rw [List.take_add_one, List.getElem?_eq_getElem h, hy, List.any_append, hb]
 simp [Bool.and_or_distrib_left]
def fwdN (r : InsV × Int) : Int × DstV × Int := if r.2 = 0 then (r.1.nb, r.1.to, 0) else (0, dvN, r.2)
def fwdO (w mark : DstV) (marked : Bool) : Int × DstV × Int := if marked && decide (ZbL w mark < 0) then (0, dvN, 9) else (0, w, 0)
def fwdV (s : RtV) (now : Int) (src dst : List Int) (mark : DstV) (marked : Bool) : Int × DstV × Int :=
 if !ZaR s || (marked && !Zcs mark) then (0, dvN, 1)
 else if !Za5 now then (0, dvN, 2)
 else if now < s.quiet then (0, dvN, 11)
 else if decide ((ZhY s src dst).rt = 0) || s.ins.any (nrV (ZhY s src dst) src dst) then fwdN (Zdx s.ins src dst mark marked)
 else fwdO (ZhY s src dst) mark marked
theorem Zrs {s : RtV} {now : Int} {src dst : List Int} {mark : DstV} {marked : Bool} (h : ZaR s = false) : fwdV s now src dst mark marked = (0, dvN, 1) := by unfold fwdV;rw [h];rfl
theorem ZoC {s : RtV} {now : Int} {src dst : List Int} {mark : DstV} {marked : Bool} (h : marked = true) (h1 : Zcs mark = false) : fwdV s now src dst mark marked = (0, dvN, 1) := by unfold fwdV;rw [h, h1];simp
theorem ZoA {s : RtV} {now : Int} {src dst : List Int} {mark : DstV} {marked : Bool} (h0 : ZaR s = true) (hm : (marked && !Zcs mark) = false) (h : Za5 now = false) : fwdV s now src dst mark marked = (0, dvN, 2) := by unfold fwdV;rw [h0, hm, h];rfl
theorem Zl0 {s : RtV} {now : Int} {src dst : List Int} {mark : DstV} {marked : Bool} (h0 : ZaR s = true) (hm : (marked && !Zcs mark) = false) (h1 : Za5 now = true) (h : now < s.quiet) : fwdV s now src dst mark marked = (0, dvN, 11) := by unfold fwdV;rw [h0, hm, h1, if_neg (by simp), if_neg (by simp), if_pos h]
theorem ZoB {s : RtV} {now : Int} {src dst : List Int} {mark : DstV} {marked : Bool} (h0 : ZaR s = true) (hm : (marked && !Zcs mark) = false) (h1 : Za5 now = true) (h : ¬ now < s.quiet) : fwdV s now src dst mark marked = if decide ((ZhY s src dst).rt = 0) || s.ins.any (nrV (ZhY s src dst) src dst) then fwdN (Zdx s.ins src dst mark marked) else fwdO (ZhY s src dst) mark marked := by
 unfold fwdV
 rw [h0, hm, h1, if_neg (by simp), if_neg (by simp), if_neg h]
theorem ZcS {c : Int × DstV × Int} {n e : Int} {d : DstV} {W w : World} (h : c = (n, d, e)) (E : Ext [] W w) : Value.tuple #[.int .u64 n, .agg (dvC d).toArray, .int .i64 e] = .tuple #[.int .u64 c.1, .agg (dvC c.2.1).toArray, .int .i64 c.2.2] ∧ Ext [] W w := by
 rw [h]
 exact ⟨rfl, E⟩
theorem Zje {l : List InsV} (hx : ∀ x ∈ l, IsIn x) {src dst : List Int} {mark : DstV} {marked : Bool} : IsIn (Zdx l src dst mark marked).1 := by
 unfold Zdx
 split
 ·exact ZgH
 unfold Zkb
 have hn : ∀ y ∈ ZfQ l src dst, IsIn y := ZeT hx
 revert hn
 cases ZfQ l src dst with
 | nil => intro _;exact ZgH
 | cons y ys =>
  intro hn
  dsimp only
  split
  ·exact ZgH
  split
  ·exact ZgH
  ·rename_i c hc
   split
   ·exact ZgH
   dsimp only
   split at hc
   ·exact hn _ (List.mem_of_find?_eq_some hc)
   ·cases hc
    exact Zlh hn (hn y (by simp))
theorem ZqA {s : RtV} (hs : ∀ x ∈ s.og, IsOg x) {src dst : List Int} : IsDv (ZhY s src dst) := by
 unfold ZhY
 have : ∀ (l : List OrgV) (w : DstV), (∀ x ∈ l, IsOg x) → IsDv w → IsDv (l.foldl (ZeV s.self src dst) w) := by
  intro l
  induction l with
  | nil => intro w _ hw;exact hw
  | cons a l ih => intro w hl hw;exact ih _ (fun x hx => hl x (List.mem_cons_of_mem _ hx)) (Zso hw (hl a List.mem_cons_self))
 exact this s.og dvN hs ZgJ
theorem Zss {s : RtV} (hs : ∀ x ∈ s.og, IsOg x) (hi : ∀ x ∈ s.ins, IsIn x) {now : Int} {src dst : List Int} {mark : DstV} {marked : Bool} : IsDv (fwdV s now src dst mark marked).2.1 := by
 unfold fwdV
 repeat' split
 all_goals first
  | exact ZgJ
  | (unfold fwdN;split;exact (Zje hi).1;exact ZgJ)
  | (unfold fwdO;split;exact ZgJ;exact ZqA hs)
end Go.Proofs.YtfhkmgcalcfibaaGreat
namespace Go.Proofs.YtfhkmgcalcfibaaGreat
open Go.RowKit
attribute [local irreducible] OpTo wpListIn Code.wpIn
section
variable {c : Cx} {Q : Exit → Act → World → Prop} {ks : List KF} {fr fr' : List (Nat × Value)} {l : Row} {x : RX} {rest rest' : List Oper} {k k' : Nat} {xs : List (Nat × XP)} {E : ESt} {d : Nat} {op : Op} {ty : TypeId} {pos : String} {af : Array Edge} {g : Option (Nat × Bool)}
def alOk (ol : List Oper) (n : Nat) : List (Nat × Obj) → Bool
 | [] => true
 | q :: r => Nat.blt q.1 n && (match ol[q.1]? with | some o => isAl o.op | none => false) && (r.all fun p => !Nat.beq q.1 p.1) && alOk ol n r
theorem Zjy {ol : List Oper} {n : Nat} : ∀ {als : List (Nat × Obj)}, alOk ol n als = true → ∀ q ∈ als, q.1 < n ∧ ∃ o, ol[q.1]? = some o ∧ isAl o.op = true
 | q :: r, h, p, hp => by
  simp only [alOk, Bool.and_eq_true] at h
  obtain ⟨⟨⟨h1, h2⟩, _⟩, h4⟩ := h
  rcases List.mem_cons.1 hp with rfl | hp
  ·refine ⟨Nat.le_of_ble_eq_true h1, ?_⟩
   cases hq : ol[p.1]? with
   | none => rw [hq] at h2;cases h2
   | some o => rw [hq] at h2;exact ⟨o, rfl, h2⟩
  ·exact Zjy h4 p hp
theorem Zpk {ol : List Oper} {n : Nat} : ∀ {als : List (Nat × Obj)}, alOk ol n als = true → als.Pairwise fun a b => a.1 ≠ b.1
 | [], _ => .nil
 | q :: r, h => by
  simp only [alOk, Bool.and_eq_true] at h
  refine List.pairwise_cons.2 ⟨fun z hz e => ?_, Zpk h.2⟩
  have := List.all_eq_true.1 h.1.2 z hz
  rw [e] at this
  simp at this
end
section
variable {c : Cx} {Q : Exit → Act → World → Prop} {ks : List KF} {fr : List (Nat × Value)} {x : RX} {rest : List Oper} {k : Nat} {xs : List (Nat × XP)} {ι : Type} {P : ι → Prop} {sl : ι → List (Nat × Value)} {li : ι → Row}
end
section
variable {fr : List (Nat × Value)} {l : Row}
theorem Zcb (i : Nat) {fn : Func} {R : Value → World → Prop} {q b off n s t : Nat} {u v : Value} {ty : TypeId} {cs vs : List Value} {t' : TypeId} {fz : Nat × Nat} {c : Cx} [ht : TAgg c.P ty n] (hdf : c.df = []) (hr : fn.results = [ResultVar.tmp t, ResultVar.cell q ty, ResultVar.tmp s].toArray) (hq : look fr q = some (.pointer (some ⟨b, off, none⟩))) (hl : nthO l i = some [(b, .cells cs.toArray t' fz)]) (hv : seg cs off n = some vs) (hu : look fr s = some u) (hw : look fr t = some v)
  (h : ∀ w, Mem c.S c.W w l.flatten → R (.tuple [v, .agg vs.toArray, u].toArray) w) : G c (Post c.P fn R) [] (.ext .ret) fr l :=
 Zff hdf hr (fun a w F M => .cons (.tmp (F.e hw)) (.cons (.cell (F.e hq) (ZaP ht.h (M.at_ _ (Zae hl)) (by simpa using hv))) (.cons (.tmp (F.e hu)) .nil))) h
end
end Go.Proofs.YtfhkmgcalcfibaaGreat
namespace Go.Proofs.YtfhkmgcalcfibaaGreat
open Go.RowKit
attribute [local irreducible] OpTo wpListIn Code.wpIn MW Cal
def getV (l : List InsV) (t : DstV) : Option InsV := l.find? fun x => decide (x.to = t)
theorem ZnF (l : List InsV) (hx : ∀ x ∈ l, IsIn x) (v : Value) (t : DstV) (ht : IsDv t) (W : World) (hS : SlAt W 40 v l.length (insC l)) (hlen : l.length ≤ 100000) :
  Cal Tryz.prog 55 [v, .agg (dvC t).toArray].toArray W fun r w' => r = .tuple [.agg (inC ((getV l t).getD in0)).toArray, .bool (getV l t).isSome].toArray ∧ Ext [] W w' := by
 obtain ⟨q, cap, rfl, _⟩ := id hS
 have hm := hS.memB [] (by simp)
 have c1 : ∀ w, getV l t = none → Ext [] W w → Value.tuple [.agg (inC in0).toArray, .bool false].toArray = .tuple [.agg (inC ((getV l t).getD in0)).toArray, .bool (getV l t).isSome].toArray ∧ Ext [] W w := fun w h E => by
  rw [h]
  exact ⟨rfl, E⟩
 have c2 : ∀ w d, getV l t = some d → Ext [] W w → Value.tuple [.agg (inC d).toArray, .bool true].toArray = .tuple [.agg (inC ((getV l t).getD in0)).toArray, .bool (getV l t).isSome].toArray ∧ Ext [] W w := fun w d h E => by
  rw [h]
  exact ⟨rfl, E⟩
 have hz : Za2 [(0, 35), (35, 1), (36, 2), (38, 1), (39, 1)] inZ [] = some (inC in0) := rfl
 have hi0 := ZgH
 refine Zao (n := 21) (S := []) Zal Zak Tryz.func55 rfl rfl rfl (gR 2 rfl (ZaA rfl rfl fun b3 => Zat fun b4 => gR 12 rfl ?_))
 obtain ⟨R, hR⟩ : ∃ R, (l.drop 0).find? (fun x => decide (x.to = t)) = R := ⟨_, rfl⟩
 have hV : getV l t = R := hR
 refine Za1 (ι := Nat) ⟨fun i => l.length - i, fun i => i ≤ l.length ∧ (l.drop i).find? (fun x => decide (x.to = t)) = R, fun i => [(10, .int .i64 i), (9, .int .i64 l.length), (8, .slice q l.length cap), (3, .pointer (some ⟨b3, 0, none⟩)), (4, .pointer (some ⟨b4, 0, none⟩))], fun i => [[(b4, .cells inZ.toArray 74 (0, 0))], [(b3, .cells (dvC t).toArray 67 (0, 0))]]⟩ 0 ⟨by omega, hR⟩ (fun a F => F.only [10, 9, 8, 3, 4] rfl) (sX 17179869183 rfl) ?_
 rintro i ⟨hi, hf⟩
 by_cases hlt : i < l.length
 ·obtain ⟨b, o, cs, t', fz, rfl, hb, hs⟩ := hm (by omega)
  obtain ⟨y, hy0⟩ : ∃ y, y = l[i] := ⟨_, rfl⟩
  have hyi : IsIn y := by rw [hy0];exact hx _ (List.getElem_mem hlt)
  have yd : IsDv y.to := hyi.1
  have f1 : seg cs (o + (i : Int).toNat * 40) 40 = some (inC y) := by rw [hy0];exact Za0 (Zb5 hx) hs hlt (by omega)
  rw [← List.getElem_cons_drop hlt, ← hy0] at hf
  clear hy0
  rw [List.find?_cons] at hf
  refine gR 6 rfl (ZaE rfl (dqT (by omega)) (gR 6 rfl (Zbk rfl rfl (by omega) (by omega) (ZbF rfl ‹_› (by with_reducible assumption) ?_))))
  refine Zat fun b7 => Zas 0 rfl rfl (Zaj ‹_›) (ZaY _) rfl (Zag (by rw [Zaj ‹_›];first | rfl | rw [Zaj ‹_›])) rfl ?_
  refine gR 5 rfl (Zah 0 rfl rfl (Zcy ‹_›) ?_)
  refine Zah 2 rfl rfl (ZaO ‹_›) ?_
  refine Zjh rfl rfl (Zep ‹_›) (Zep ‹_›) (ZoS ‹_› ‹_›) ?_
  refine gR 2 rfl (g_if rfl (fun h1 => ?_) (fun h1 => ?_))
  ·replace h1 := dqU h1
   refine gR 2 rfl (Zah 0 rfl rfl (Zbi ‹_›) ?_)
   refine Zas 1 rfl rfl (Zaj ‹_›) (ZaY _) rfl (Zag (by rw [Zaj ‹_›];first | rfl | rw [Zaj ‹_›])) rfl ?_
   refine gR 6 rfl (ZaM (gR 2 rfl (Zby 1 rfl rfl rfl rfl (Zbi ‹_›) rfl fun w M => ?_)))
   exact c2 _ _ (by rw [hV, ← hf];simp [*]) M.ext
  ·replace h1 := dqV h1
   refine gR 4 rfl (ZaK rfl rfl (Zax (by omega) (by omega)) (gR 2 rfl ?_))
   exact Zar (i + 1) ⟨by omega, by rw [← hf];simp [*]⟩ (by dsimp only;omega) (fun a F => F.only [10, 9, 8, 3, 4] rfl) (sX 17179869182 rfl)
 ·obtain rfl : i = l.length := by omega
  rw [List.drop_length] at hf
  refine gR 6 rfl (Zav rfl (dqF (by omega)) (gR 2 rfl (ZaZ (gR 4 rfl (g_v (fun a w F M R r => Zaw F rfl ‹_› r) ?_)))))
  refine Zas 0 rfl rfl (Zaj ‹_›) (ZaY _) rfl (Zag (by rw [Zaj ‹_›];first | rfl | rw [Zaj ‹_›])) rfl ?_
  refine gR 4 rfl (Zby 0 rfl rfl rfl rfl (Zbi ‹_›) rfl fun w M => ?_)
  exact c1 _ (by rw [hV, ← hf];rfl) M.ext
def endN (c : Option InsV) : InsV × Int := match c with
 | none => (in0, 9)
 | some c => if c.nb = 0 then (in0, 15) else (c, 0)
def ZhW (y mark : DstV) : Bool := (decide (y.dip = mark.dip) && decide (y.dbits = mark.dbits)) && (decide (y.sip = mark.sip) && decide (y.sbits = mark.sbits))
theorem Zka {y : InsV} {ys : List InsV} {mark : DstV} {marked : Bool} (h : (marked && decide (ZbL y.to mark < 0)) = true) : Zkb (y :: ys) mark marked = (in0, 9) := by
 unfold Zkb
 dsimp only
 rw [if_pos h]
theorem ZiB {y : InsV} {ys : List InsV} {mark : DstV} {marked : Bool} (h : (marked && decide (ZbL y.to mark < 0)) = false) : Zkb (y :: ys) mark marked = endN (if (marked && ZhW y.to mark) = true then (y :: ys).find? (fun e => decide (e.to = mark)) else some (ZgP (y :: ys) y)) := by
 unfold Zkb ZhW endN
 dsimp only
 rw [if_neg (by rw [h];simp), Bool.and_assoc]
 rfl
theorem ZkX {x : InsV} {near : List InsV} {src dst : List Int} (h : Zci x.to src dst = false) : ZdY src dst near x = near := by unfold ZdY;rw [h];rfl
theorem Zqf {x : InsV} {near : List InsV} {src dst : List Int} (h : Zbu x.to.dip x.to.dbits dst = false) : ZdY src dst near x = near := ZkX (by unfold Zci;rw [h];rfl)
theorem Zqe {x : InsV} {near : List InsV} {src dst : List Int} (h : Zbu x.to.sip x.to.sbits src = false) : ZdY src dst near x = near := ZkX (by unfold Zci;rw [h, Bool.and_false])
theorem ZdO {c : InsV × Int} {x : InsV} {n : Int} {W w : World} (h : c = (x, n)) (E : Ext [] W w) : Value.tuple [.agg (inC x).toArray, .int .i64 n].toArray = .tuple [.agg (inC c.1).toArray, .int .i64 c.2].toArray ∧ Ext [] W w := by
 rw [h]
 exact ⟨rfl, E⟩
theorem ZnE (l : List InsV) (hx : ∀ x ∈ l, IsIn x) (v : Value) (src dst : List Int) (hs : IsIP src) (hd : IsIP dst) (mark : DstV) (hmk : IsDv mark) (marked : Bool) (W : World) (hS : SlAt W 40 v l.length (insC l)) :
  Cal Tryz.prog 134 [v, .agg (ipC src).toArray, .agg (ipC dst).toArray, .agg (dvC mark).toArray, .bool marked].toArray W fun r w' => r = .tuple [.agg (inC (Zdx l src dst mark marked).1).toArray, .int .i64 (Zdx l src dst mark marked).2].toArray ∧ Ext [] W w' := by
 obtain ⟨q, cap, rfl, _⟩ := id hS
 have hm := hS.memB [] (by simp)
 have a1 : seg (ipC src) 0 16 = some (ipC src) := Zbw (ZaU hs.len)
 have a2 : seg (ipC dst) 0 16 = some (ipC dst) := Zbw (ZaU hd.len)
 have hz : Za2 [(0, 35), (35, 1), (36, 2), (38, 1), (39, 1)] inZ [] = some (inC in0) := rfl
 have hi0 := ZgH
 refine Zao (n := 145) (S := []) Zal Zak Tryz.func134 rfl rfl rfl (gR 2 rfl (ZaA rfl rfl fun b6 => ZaA rfl rfl fun b7 => ZaA rfl rfl fun b8 => Zat fun b10 => gR 4 rfl (ZcD (ι := Unit) ⟨fun _ => ZcJ l = true ∧ Zdx l src dst mark marked = Zkb (ZfQ l src dst) mark marked, fun _ => [(0, .slice q l.length cap), (4, .bool marked), (6, .pointer (some ⟨b6, 0, none⟩)), (7, .pointer (some ⟨b7, 0, none⟩)), (8, .pointer (some ⟨b8, 0, none⟩)), (10, .pointer (some ⟨b10, 0, none⟩))], fun _ => [[(b10, .cells inZ.toArray 74 (0, 0))], [(b8, .cells (dvC mark).toArray 67 (0, 0))], [(b7, .cells (ipC dst).toArray 63 (0, 0))], [(b6, .cells (ipC src).toArray 63 (0, 0))]]⟩ ?_ ?_)))
 ·refine gR 3 rfl ?_
  refine Zad rfl rfl (fun w M => Zhm _ ‹_› _ _ ((by assumption : SlAt _ _ _ _ _).later M.ext)) ?_
  refine gR 2 rfl (Zan 23 rfl (fun h1 => ?_) (fun h1 => ?_))
  ·replace h1 := Zaa h1
   refine gR 12 rfl (g_v (fun a w F M R r => Zaw F rfl ‹_› r) ?_)
   refine Zas 0 rfl rfl (Zaj ‹_›) (ZaY _) rfl (Zag (by rw [Zaj ‹_›];first | rfl | rw [Zaj ‹_›])) rfl ?_
   refine gR 4 rfl (g_jR (gR 1 rfl (Zby 0 rfl rfl rfl rfl (Zbi ‹_›) rfl fun w M => ?_)))
   exact ZdO (by unfold Zdx;simp [*]) M.ext
  ·replace h1 := Zac h1
   refine gR 2 rfl (Zan 25 rfl (fun h2 => ?_) (fun h2 => ?_))
   ·refine Zah 1 rfl rfl (ZaO ‹_›) ?_
    refine Zad rfl rfl (fun w M => Zbg _ ‹_› _) ?_
    refine gR 5 rfl (g_if rfl (fun h3 => ?_) (fun h3 => ?_))
    ·replace h3 := Zaa h3
     refine gR 2 rfl (g_v (fun a w F M R r => Zaw F rfl ‹_› r) ?_)
     refine Zas 0 rfl rfl (Zaj ‹_›) (ZaY _) rfl (Zag (by rw [Zaj ‹_›];first | rfl | rw [Zaj ‹_›])) rfl ?_
     refine gR 4 rfl (g_jR (gR 1 rfl (Zby 0 rfl rfl rfl rfl (Zbi ‹_›) rfl fun w M => ?_)))
     exact ZdO (by unfold Zdx;simp [*]) M.ext
    ·replace h3 := Zac h3
     refine gR 1 rfl ?_
     exact Za6 () ⟨by assumption, by unfold Zdx;simp [*]⟩ (fun a F => F.only [0, 4, 6, 7, 8, 10] rfl) (sX 17179869183 rfl)
   ·refine gR 9 rfl ?_
    exact Za6 () ⟨by assumption, by unfold Zdx;simp [*]⟩ (fun a F => F.only [0, 4, 6, 7, 8, 10] rfl) (sX 17179869183 rfl)
 rintro _ ⟨hv, hL⟩
 have hl512 := (ZcW.1 hv).1
 rw [hL]
 refine gR 15 rfl (ZcO ?_)
 refine Za1 (ι := Nat × (List InsV) × Value × (List (Nat × Obj))) ⟨fun (i, near, u, es) => l.length - i, fun (i, near, u, es) => i ≤ l.length ∧ (OwnS 74 40 u near.length (insC near) es) ∧ (near = ZfQ (l.take i) src dst), fun (i, near, u, es) => [(34, .int .i64 i), (33, .int .i64 l.length), (32, .slice q l.length cap), (12, u), (4, .bool marked), (6, .pointer (some ⟨b6, 0, none⟩)), (7, .pointer (some ⟨b7, 0, none⟩)), (8, .pointer (some ⟨b8, 0, none⟩)), (10, .pointer (some ⟨b10, 0, none⟩))], fun (i, near, u, es) => [es, [(b10, .cells inZ.toArray 74 (0, 0))], [(b8, .cells (dvC mark).toArray 67 (0, 0))], [(b7, .cells (ipC dst).toArray 63 (0, 0))], [(b6, .cells (ipC src).toArray 63 (0, 0))]]⟩ (0, [], _, []) ⟨by omega, OwnS.nilL _ _ _, rfl⟩ (fun a F => F.only [34, 33, 32, 12, 4, 6, 7, 8, 10] rfl) (sX 17179869183 rfl) ?_
 rintro ⟨i, near, u, es⟩ ⟨hi_i, hOs, hnr⟩
 dsimp only
 by_cases hlt_i : i < l.length
 ·obtain ⟨b, o, cs, t', fz, rfl, hb, hs⟩ := hm (by omega)
  obtain ⟨x, hx0⟩ : ∃ x, x = l[i] := ⟨_, rfl⟩
  have hxm : x ∈ l := by rw [hx0];exact List.getElem_mem hlt_i
  have hxi : IsIn x := hx _ hxm
  have f1 : seg cs (o + (i : Int).toNat * 40) 40 = some (inC x) := by rw [hx0];exact Za0 (Zb5 hx) hs hlt_i (by omega)
  have hx0' := hx0
  clear hx0
  have hst := Ziz (src := src) (dst := dst) hlt_i
  rw [← hnr, ← hx0'] at hst
  have hnI : ∀ y ∈ near, IsIn y := by rw [hnr];exact ZeT fun y hy => hx y (List.mem_of_mem_take hy)
  have hnl : near.length ≤ 512 := by
   have := ZfP (src := src) (dst := dst) (l := l.take i)
   rw [← hnr, List.length_take] at this
   omega
  have hxd : IsDv x.to := hxi.1
  have f2 := Zaj hxi
  clear hnr hx0' hL
  refine gR 6 rfl (ZaE rfl (dqT (by omega)) (gR 6 rfl (Zbk rfl rfl (by omega) (by omega) (ZbF rfl ‹_› (by with_reducible assumption) ?_))))
  refine Zat fun b14 => Zas 0 rfl rfl (Zaj ‹_›) (ZaY _) rfl (Zag (by rw [Zaj ‹_›];first | rfl | rw [Zaj ‹_›])) rfl ?_
  refine gR 6 rfl (Zah 0 rfl rfl (Zcy ‹_›) ?_)
  refine Zah 5 rfl rfl (by with_reducible assumption) ?_
  refine Zah 4 rfl rfl (by with_reducible assumption) ?_
  refine Zad rfl rfl (fun w M => Zhs _ ‹_› _ _ ‹_› ‹_› _) ?_
  refine gR 3 rfl (g_if rfl (fun h1 => ?_) (fun h1 => ?_))
  ·replace h1 := Zaa h1
   exact gR 5 rfl (ZaK rfl rfl (Zax (by omega) (by omega)) (gR 2 rfl (Zar (i + 1, near, u, es) ⟨by omega, hOs, by rw [hst, ZkX ‹_›]⟩ (by dsimp only;omega) (fun a F => F.only [34, 33, 32, 12, 4, 6, 7, 8, 10] rfl) (sX 17179869182 rfl))))
  replace h1 := Zac h1
  refine gR 3 rfl ?_
  have hmt : Zci x.to src dst = true := by assumption
  ·cases near with
   | nil =>
    have hns : ZdY src dst [] x = [x] := by unfold ZdY;rw [hmt];rfl
    obtain ⟨pz, cz, rfl⟩ := hOs.slice
    refine gR 1 rfl (ZaG 13 145 rfl (by kernel_rfl) (fR 13 rfl (Zap rfl rfl (gR 6 rfl (ZaG 13 145 rfl (by kernel_rfl) (fR 13 rfl (Zap rfl rfl (gR 5 rfl (Zah 0 rfl rfl (Zbi ‹_›) ?_)))))))))
    refine g_bs rfl rfl rfl (ZbY ‹_›) (fun b72 => ?_)
    refine ZbI 2 0 (enc := inC) rfl rfl ‹_› rfl rfl (Zaj ‹_›) (by omega) (fun _ => rfl) (fun v73 es73 hO73 => ?_) (ZaY _)
    refine gR 5 rfl (ZaK rfl rfl (Zax (by omega) (by omega)) (gR 2 rfl ?_))
    exact Zar (i + 1, _, _, _) ⟨by omega, by assumption, by rw [hst, hns];rfl⟩ (by dsimp only;omega) (fun a F => F.only [34, 33, 32, 12, 4, 6, 7, 8, 10] rfl) (sX 17179869180 rfl)
   | cons y ys =>
    rcases hOs with ⟨_, h0, _, _⟩ | ⟨bN, cN, junk, rfl, rfl, hxl, hjl, hnc⟩
    ·simp at h0
    have hyv := hnI y (by simp)
    have hyd : IsDv y.to := hyv.1
    have hsz : ∀ z ∈ y :: ys, (inC z).length = 40 := Zb5 hnI
    have g1 : seg (insC (y :: ys) ++ junk) (0 + (0 : Int).toNat * 40) 40 = some (inC y) := ZfM hsz junk (show 0 < (y :: ys).length by simp) (by simp)
    have g2 : seg (insC (y :: ys) ++ junk) (0 + (0 : Int).toNat * 40 + 0) 35 = some (dvC y.to) := ZbP g1 (Zcy hyv) (by omega)
    have hO : OwnS 74 40 (.slice (some ⟨bN, 0, none⟩) (y :: ys).length cN) (y :: ys).length (insC (y :: ys)) [(bN, .cells (insC (y :: ys) ++ junk).toArray 74 (0, 0))] := .inr ⟨bN, cN, junk, rfl, rfl, hxl, hjl, hnc⟩
    have hn0 : 0 < (y :: ys).length := by simp
    have hns0 : ZdY src dst (y :: ys) x = if 0 < ZbL x.to y.to then [x] else if ZbL x.to y.to = 0 then y :: ys ++ [x] else y :: ys := by unfold ZdY;rw [hmt];rfl
    clear hxl hjl hnc hsz
    refine gR 1 rfl (ZaG 13 145 rfl (by kernel_rfl) (fR 4 rfl (ZaX 47 rfl (dqT (by omega)) (fR 1 rfl (ZaN 0 rfl rfl (Zcy ‹_›) ?_)))))
    refine fR 1 rfl (Zbb rfl rfl (by omega) (by omega) (fR 1 rfl (ZaN 1 rfl rfl (by with_reducible assumption) ?_)))
    refine ZaH rfl rfl (fun w M => ZdH _ _ ‹_› ‹_› _) ?_
    refine fR 2 rfl (Zap rfl rfl (gR 2 rfl (g_if rfl (fun h1 => ?_) (fun h1 => ?_))))
    ·replace h1 := dqU h1
     refine gR 5 rfl (ZaG 13 145 rfl (by kernel_rfl) (fR 13 rfl (Zap rfl rfl (gR 5 rfl (Zah 0 rfl rfl (Zbi ‹_›) ?_)))))
     refine g_bs rfl rfl rfl (ZbY ‹_›) (fun b72 => ?_)
     refine ZcO ?_;refine ZbI 0 1 (enc := inC) rfl rfl (OwnS.nilL _ _ _) rfl rfl (Zaj ‹_›) (by (simp only [List.length_nil];omega)) (fun _ => rfl) (fun v73 es73 hO73 => ?_) (ZaY _)
     refine gR 5 rfl (ZaK rfl rfl (Zax (by omega) (by omega)) (gR 2 rfl ?_))
     exact Zar (i + 1, _, _, _) ⟨by omega, by assumption, by rw [hst, hns0, if_pos (show 0 < ZbL x.to y.to by assumption)];rfl⟩ (by dsimp only;omega) (fun a F => F.only [34, 33, 32, 12, 4, 6, 7, 8, 10] rfl) (by (try dsimp only);repeat (first | exact .refl _ | with_reducible exact sC0 _ | with_reducible apply sC2 | apply sC1))
    ·replace h1 := dqV h1
     refine gR 3 rfl (ZaG 13 145 rfl (by kernel_rfl) (fR 5 rfl (ZaN 0 rfl rfl (Zcy ‹_›) ?_)))
     refine fR 1 rfl (Zbb rfl rfl (by omega) (by omega) (fR 1 rfl (ZaN 1 rfl rfl (by with_reducible assumption) ?_)))
     refine ZaH rfl rfl (fun w M => ZdH _ _ ‹_› ‹_› _) ?_
     refine fR 2 rfl (Zap rfl rfl (gR 2 rfl (g_if rfl (fun h2 => ?_) (fun h2 => ?_))))
     ·replace h2 := dqU h2
      refine gR 2 rfl (Zah 0 rfl rfl (Zbi ‹_›) ?_)
      refine g_bs rfl rfl rfl (ZbY ‹_›) (fun b72 => ?_)
      refine ZbI 2 0 (enc := inC) rfl rfl ‹_› rfl rfl (Zaj ‹_›) (by omega) (fun _ => rfl) (fun v73 es73 hO73 => ?_) (ZaY _)
      exact gR 5 rfl (ZaK rfl rfl (Zax (by omega) (by omega)) (gR 2 rfl (Zar (i + 1, _, _, _) ⟨by omega, by assumption, by rw [hst, hns0, if_neg (show ¬ 0 < ZbL x.to y.to by assumption), if_pos (show ZbL x.to y.to = 0 by assumption)]⟩ (by dsimp only;omega) (fun a F => F.only [34, 33, 32, 12, 4, 6, 7, 8, 10] rfl) (sX 17179869180 rfl))))
     ·replace h2 := dqV h2
      exact gR 4 rfl (ZaK rfl rfl (Zax (by omega) (by omega)) (gR 2 rfl (Zar (i + 1, _, _, _) ⟨by omega, by assumption, by rw [hst, hns0, if_neg (show ¬ 0 < ZbL x.to y.to by assumption), if_neg (show ¬ ZbL x.to y.to = 0 by assumption)]⟩ (by dsimp only;omega) (fun a F => F.only [34, 33, 32, 12, 4, 6, 7, 8, 10] rfl) (sX 17179869182 rfl))))
 ·have hil : i = l.length := by omega
  rw [hil, List.take_length] at hnr
  have hnI : ∀ y ∈ near, IsIn y := by rw [hnr];exact ZeT hx
  have hnl : near.length ≤ 512 := by
   have := ZfP (src := src) (dst := dst) (l := l)
   rw [← hnr] at this
   omega
  rw [← hnr]
  clear hnr hm hL hil
  cases near with
  | nil =>
   obtain ⟨pz, cz, rfl⟩ := hOs.slice
   refine gR 6 rfl (Zav rfl (dqF (by omega)) (gR 2 rfl (ZaZ (gR 4 rfl (ZaG 15 145 rfl (by kernel_rfl) (fR 15 rfl (Zap rfl rfl (gR 5 rfl (g_v (fun a w F M R r => Zaw F rfl ‹_› r) ?_)))))))))
   refine Zas 1 rfl rfl (Zaj ‹_›) (ZaY _) rfl (Zag (by rw [Zaj ‹_›];first | rfl | rw [Zaj ‹_›])) rfl ?_
   refine gR 5 rfl (Zby 1 rfl rfl rfl rfl (Zbi ‹_›) rfl fun w M => ?_)
   exact ZdO rfl M.ext
  | cons y ys =>
   rcases hOs with ⟨_, h0, _, _⟩ | ⟨bN, cN, junk, rfl, rfl, hxl, hjl, hnc⟩
   ·simp at h0
   have hyv := hnI y (by simp)
   have hyd : IsDv y.to := hyv.1
   have hsz : ∀ z ∈ y :: ys, (inC z).length = 40 := Zb5 hnI
   have g1 : seg (insC (y :: ys) ++ junk) (0 + (0 : Int).toNat * 40) 40 = some (inC y) := ZfM hsz junk (show 0 < (y :: ys).length by simp) (by simp)
   have g2 : seg (insC (y :: ys) ++ junk) (0 + (0 : Int).toNat * 40 + 0) 35 = some (dvC y.to) := ZbP g1 (Zcy hyv) (by omega)
   have g3 : seg (insC (y :: ys) ++ junk) (0 + (0 : Int).toNat * 40 + 0 + 0) 17 = some (pfC y.to.dip y.to.dbits) := ZbP g1 (Zhw hyv) (by omega)
   have g4 : seg (insC (y :: ys) ++ junk) (0 + (0 : Int).toNat * 40 + 0 + 17) 17 = some (pfC y.to.sip y.to.sbits) := ZbP g1 (Zhv hyv) (by omega)
   have g5 := Zdm hyd.1.len y.to.dbits
   have g6 := Zdm hyd.2.len y.to.sbits
   have m3 := Zb9 hmk
   have m4 := ZcP hmk
   have m5 := Zdm hmk.1.len mark.dbits
   have m6 := Zdm hmk.2.len mark.sbits
   have q1 := Zl6 (a := y.to.dip) (b := mark.dip) (n := y.to.dbits) (m := mark.dbits) (by rw [hyd.1.len, hmk.1.len])
   have q2 := Zl6 (a := y.to.sip) (b := mark.sip) (n := y.to.sbits) (m := mark.sbits) (by rw [hyd.2.len, hmk.2.len])
   have hO : OwnS 74 40 (.slice (some ⟨bN, 0, none⟩) (y :: ys).length cN) (y :: ys).length (insC (y :: ys)) [(bN, .cells (insC (y :: ys) ++ junk).toArray 74 (0, 0))] := .inr ⟨bN, cN, junk, rfl, rfl, hxl, hjl, hnc⟩
   have hn0 : 0 < (y :: ys).length := by simp
   clear hxl hjl hnc
   refine gR 6 rfl (Zav rfl (dqF (by omega)) (gR 2 rfl (ZaZ (gR 3 rfl (ZcD (ι := Unit) ⟨fun _ => (marked && decide (ZbL y.to mark < 0)) = false, fun _ => [(12, .slice (some ⟨bN, 0, none⟩) (y :: ys).length cN), (4, .bool marked), (6, .pointer (some ⟨b6, 0, none⟩)), (7, .pointer (some ⟨b7, 0, none⟩)), (8, .pointer (some ⟨b8, 0, none⟩)), (10, .pointer (some ⟨b10, 0, none⟩))], fun _ => [[(bN, .cells (insC (y :: ys) ++ junk).toArray 74 (0, 0))], [(b10, .cells inZ.toArray 74 (0, 0))], [(b8, .cells (dvC mark).toArray 67 (0, 0))], [(b7, .cells (ipC dst).toArray 63 (0, 0))], [(b6, .cells (ipC src).toArray 63 (0, 0))]]⟩ ?_ ?_)))))
   ·cases marked
    ·refine gR 1 rfl ?_
     exact ZaG 15 145 rfl (by kernel_rfl) (fR 15 rfl (Zap rfl rfl (gR 4 rfl (Za6 () rfl (fun a F => F.only [12, 4, 6, 7, 8, 10] rfl) (sX 17179869183 rfl)))))
    ·by_cases k : ZbL y.to mark < 0
     ·refine gR 1 rfl ?_
      refine ZaG 15 145 rfl (by kernel_rfl) (fR 7 rfl (Zbb rfl rfl (by omega) (by omega) (fR 1 rfl (ZaN 0 rfl rfl (by with_reducible assumption) ?_))))
      refine ZaN 2 rfl rfl (ZaO ‹_›) ?_
      refine ZaH rfl rfl (fun w M => ZdH _ _ ‹_› ‹_› _) ?_
      refine fR 3 rfl (Zap rfl rfl (gR 2 rfl (ZaE rfl (dqT (by omega)) (gR 2 rfl (g_v (fun a w F M R r => Zaw F rfl ‹_› r) ?_)))))
      refine Zas 1 rfl rfl (Zaj ‹_›) (ZaY _) rfl (Zag (by rw [Zaj ‹_›];first | rfl | rw [Zaj ‹_›])) rfl ?_
      refine gR 4 rfl (g_jR (gR 1 rfl (Zby 1 rfl rfl rfl rfl (Zbi ‹_›) rfl fun w M => ?_)))
      exact ZdO (Zka (by simp [k])) M.ext
     ·refine gR 1 rfl ?_
      refine ZaG 15 145 rfl (by kernel_rfl) (fR 7 rfl (Zbb rfl rfl (by omega) (by omega) (fR 1 rfl (ZaN 0 rfl rfl (by with_reducible assumption) ?_))))
      refine ZaN 2 rfl rfl (ZaO ‹_›) ?_
      refine ZaH rfl rfl (fun w M => ZdH _ _ ‹_› ‹_› _) ?_
      exact fR 3 rfl (Zap rfl rfl (gR 2 rfl (Zav rfl (dqF (by omega)) (gR 1 rfl (Za6 () (by simp [k]) (fun a F => F.only [12, 4, 6, 7, 8, 10] rfl) (sX 17179869183 rfl))))))
   rintro _ hk
   rw [ZiB hk]
   clear hk
   refine gR 4 rfl (Zbk rfl rfl (by omega) (by omega) (Zah 0 rfl rfl (by with_reducible assumption) ?_))
   refine Zat fun b15 => Zas 0 rfl rfl (Zaj ‹_›) (ZaY _) rfl (Zag (by rw [Zaj ‹_›];first | rfl | rw [Zaj ‹_›])) rfl ?_
   refine gR 3 rfl (ZcD (ι := InsV) ⟨fun c => IsIn c ∧ endN (if (marked && ZhW y.to mark) = true then (y :: ys).find? (fun e => decide (e.to = mark)) else some (ZgP (y :: ys) y)) = endN (some c), fun _ => [(15, .pointer (some ⟨b15, 0, none⟩)), (10, .pointer (some ⟨b10, 0, none⟩))], fun c => [[(b15, .cells (inC c).toArray 74 (0, 0))], [(b10, .cells inZ.toArray 74 (0, 0))]]⟩ ?_ ?_)
   ·refine gR 1 rfl ?_
    refine ZcD (ι := Unit) ⟨fun _ => True, fun _ => [(114, .bool (marked && ZhW y.to mark)), (15, .pointer (some ⟨b15, 0, none⟩)), (12, .slice (some ⟨bN, 0, none⟩) (y :: ys).length cN), (4, .bool marked), (6, .pointer (some ⟨b6, 0, none⟩)), (7, .pointer (some ⟨b7, 0, none⟩)), (8, .pointer (some ⟨b8, 0, none⟩)), (10, .pointer (some ⟨b10, 0, none⟩))], fun _ => [[(b15, .cells (inC y).toArray 74 (0, 0))], [(bN, .cells (insC (y :: ys) ++ junk).toArray 74 (0, 0))], [(b10, .cells inZ.toArray 74 (0, 0))], [(b8, .cells (dvC mark).toArray 67 (0, 0))], [(b7, .cells (ipC dst).toArray 63 (0, 0))], [(b6, .cells (ipC src).toArray 63 (0, 0))]]⟩ ?_ ?_
    ·unfold ZhW
     cases marked
     ·refine ZaG 21 145 rfl (by kernel_rfl) ?_
      exact fR 21 rfl (Zap rfl rfl (gR 1 rfl (Za6 () trivial (fun a F => F.only [114, 15, 12, 4, 6, 7, 8, 10] rfl) (sX 17179869183 rfl))))
     ·cases d1 : (decide (y.to.dip = mark.dip) && decide (y.to.dbits = mark.dbits))
      ·rw [d1] at q1
       refine ZaG 21 145 rfl (by kernel_rfl) (fR 3 rfl (Zbb rfl rfl (by omega) (by omega) (fR 2 rfl (ZaN 1 rfl rfl (by with_reducible assumption) ?_))))
       refine fR 1 rfl (ZaN 3 rfl rfl (Zb9 ‹_›) ?_)
       refine Zfi rfl rfl ‹_› ‹_› ‹_› ?_
       exact fR 11 rfl (Zap rfl rfl (gR 1 rfl (Za6 () trivial (fun a F => F.only [114, 15, 12, 4, 6, 7, 8, 10] rfl) (sX 17179869183 rfl))))
      ·rw [d1] at q1
       cases d2 : (decide (y.to.sip = mark.sip) && decide (y.to.sbits = mark.sbits))
       ·rw [d2] at q2
        refine ZaG 21 145 rfl (by kernel_rfl) (fR 3 rfl (Zbb rfl rfl (by omega) (by omega) (fR 2 rfl (ZaN 1 rfl rfl (by with_reducible assumption) ?_))))
        refine fR 1 rfl (ZaN 3 rfl rfl (Zb9 ‹_›) ?_)
        refine Zfi rfl rfl ‹_› ‹_› ‹_› ?_
        refine fR 3 rfl (Zbb rfl rfl (by omega) (by omega) (fR 2 rfl (ZaN 1 rfl rfl (by with_reducible assumption) ?_)))
        refine fR 1 rfl (ZaN 3 rfl rfl (ZcP ‹_›) ?_)
        refine Zfi rfl rfl ‹_› ‹_› ‹_› ?_
        exact fR 1 rfl (Zap rfl rfl (gR 1 rfl (Za6 () trivial (fun a F => F.only [114, 15, 12, 4, 6, 7, 8, 10] rfl) (sX 17179869183 rfl))))
       ·rw [d2] at q2
        refine ZaG 21 145 rfl (by kernel_rfl) (fR 3 rfl (Zbb rfl rfl (by omega) (by omega) (fR 2 rfl (ZaN 1 rfl rfl (by with_reducible assumption) ?_))))
        refine fR 1 rfl (ZaN 3 rfl rfl (Zb9 ‹_›) ?_)
        refine Zfi rfl rfl ‹_› ‹_› ‹_› ?_
        refine fR 3 rfl (Zbb rfl rfl (by omega) (by omega) (fR 2 rfl (ZaN 1 rfl rfl (by with_reducible assumption) ?_)))
        refine fR 1 rfl (ZaN 3 rfl rfl (ZcP ‹_›) ?_)
        refine Zfi rfl rfl ‹_› ‹_› ‹_› ?_
        exact fR 1 rfl (Zap rfl rfl (gR 1 rfl (Za6 () trivial (fun a F => F.only [114, 15, 12, 4, 6, 7, 8, 10] rfl) (sX 17179869183 rfl))))
    rintro _ _
    clear q1 q2 g2 g3 g4 g5 g6 m3 m4 m5 m6
    cases hsm : (marked && ZhW y.to mark)
    ·dsimp only
     rw [if_neg (by simp)]
     refine gR 10 rfl (Za1 (ι := Nat × InsV) ⟨fun (i, c) => (y :: ys).length - i, fun (i, c) => i ≤ (y :: ys).length ∧ c = ZgP ((y :: ys).take i) y, fun (i, c) => [(127, .int .i64 i), (126, .int .i64 (y :: ys).length), (125, .slice (some ⟨bN, 0, none⟩) (y :: ys).length cN), (15, .pointer (some ⟨b15, 0, none⟩)), (10, .pointer (some ⟨b10, 0, none⟩))], fun (i, c) => [[(b15, .cells (inC c).toArray 74 (0, 0))], [(bN, .cells (insC (y :: ys) ++ junk).toArray 74 (0, 0))], [(b10, .cells inZ.toArray 74 (0, 0))]]⟩ (0, y) ⟨by omega, rfl⟩ (fun a F => F.only [127, 126, 125, 15, 10] rfl) (by repeat (first | exact .refl _ | apply sC2 | apply sC1)) ?_)
     rintro ⟨j, c⟩ ⟨hj, hc⟩
     dsimp only
     have cI : IsIn c := by rw [hc];exact Zlh (fun x hx => hnI x (List.mem_of_mem_take hx)) hyv
     by_cases hlt_j : j < (y :: ys).length
     ·have gi : seg (insC (y :: ys) ++ junk) (0 + (j : Int).toNat * 40) 40 = some (inC (y :: ys)[j]) := ZfM hsz junk hlt_j (by omega)
      have xI := hnI _ (List.getElem_mem hlt_j)
      have hch := ZiN (y := y) hlt_j
      rw [← hc] at hch
      obtain ⟨x, hx0⟩ : ∃ x, x = (y :: ys)[j] := ⟨_, rfl⟩
      rw [← hx0] at gi xI hch
      clear hc hx0
      by_cases k5 : x.own.met < c.own.met
      ·rw [if_pos k5] at hch
       refine gR 6 rfl (ZaE rfl (dqT (by omega)) (gR 6 rfl (Zbk rfl rfl (by omega) (by omega) (Zah 1 rfl rfl (by with_reducible assumption) ?_))))
       refine Zat fun b19 => Zas 0 rfl rfl (Zaj ‹_›) (ZaY _) rfl (Zag (by rw [Zaj ‹_›];first | rfl | rw [Zaj ‹_›])) rfl ?_
       refine gR 6 rfl (Zai 0 rfl rfl (ZbC ‹_›) ?_)
       refine gR 2 rfl (Zai 1 rfl rfl (ZbC ‹_›) ?_)
       refine gR 3 rfl (ZaE rfl (dqT (by omega)) (gR 1 rfl (Zah 0 rfl rfl (Zbi ‹_›) ?_)))
       refine Zas 1 rfl rfl (Zaj ‹_›) (ZaY _) rfl (Zag (by rw [Zaj ‹_›];first | rfl | rw [Zaj ‹_›])) rfl ?_
       exact gR 4 rfl (ZaK rfl rfl (Zax (by omega) (by omega)) (gR 2 rfl (Zar (j + 1, x) ⟨by omega, hch.symm⟩ (by dsimp only;omega) (fun a F => F.only [127, 126, 125, 15, 10] rfl) (sX 17179869182 rfl))))
      ·rw [if_neg k5] at hch
       refine gR 6 rfl (ZaE rfl (dqT (by omega)) (gR 6 rfl (Zbk rfl rfl (by omega) (by omega) (Zah 1 rfl rfl (by with_reducible assumption) ?_))))
       refine Zat fun b19 => Zas 0 rfl rfl (Zaj ‹_›) (ZaY _) rfl (Zag (by rw [Zaj ‹_›];first | rfl | rw [Zaj ‹_›])) rfl ?_
       refine gR 6 rfl (Zai 0 rfl rfl (ZbC ‹_›) ?_)
       refine gR 2 rfl (Zai 1 rfl rfl (ZbC ‹_›) ?_)
       exact gR 3 rfl (Zav rfl (dqF (by omega)) (gR 4 rfl (ZaK rfl rfl (Zax (by omega) (by omega)) (gR 2 rfl (Zar (j + 1, c) ⟨by omega, hch.symm⟩ (by dsimp only;omega) (fun a F => F.only [127, 126, 125, 15, 10] rfl) (sX 17179869182 rfl))))))
     ·have hje : j = (y :: ys).length := by omega
      rw [hje, List.take_length] at hc
      exact gR 6 rfl (Zav rfl (dqF (by omega)) (gR 2 rfl (ZaZ (gR 1 rfl (Za6 c ⟨cI, by rw [hc]⟩ (fun a F => F.only [15, 10] rfl) (by (try dsimp only);repeat (first | exact .refl _ | with_reducible exact sC0 _ | with_reducible apply sC2 | apply sC1)))))))
    ·dsimp only
     rw [if_pos rfl]
     cases hgv : getV (y :: ys) mark with
     | none =>
      have hG : ∀ w, Mem [] W w _ → Cal Tryz.prog 55 _ w _ := fun w M => ZnF (y :: ys) hnI _ mark hmk w (hO.slAt (l := List.flatten ([[(b15, .cells (inC y).toArray 74 (0, 0))], [(bN, .cells (insC (y :: ys) ++ junk).toArray 74 (0, 0))], [(b10, .cells inZ.toArray 74 (0, 0))], [(b8, .cells (dvC mark).toArray 67 (0, 0))], [(b7, .cells (ipC dst).toArray 63 (0, 0))], [(b6, .cells (ipC src).toArray 63 (0, 0))]])) M (fun p hp => by simp at hp;simp [hp])) (by omega)
      rw [hgv] at hG
      simp only [Option.getD_none, Option.isSome_none] at hG
      refine gR 5 rfl (Zah 3 rfl rfl (ZaO ‹_›) ?_)
      refine Zad rfl rfl hG (gR 3 rfl (Zat fun b16 => Zas 0 rfl rfl (Zaj ‹_›) (ZaY _) rfl (Zag (by rw [Zaj ‹_›];first | rfl | rw [Zaj ‹_›])) rfl ?_))
      refine gR 13 rfl (g_v (fun a w F M R r => Zaw F rfl ‹_› r) ?_)
      refine Zas 3 rfl rfl (Zaj ‹_›) (ZaY _) rfl (Zag (by rw [Zaj ‹_›];first | rfl | rw [Zaj ‹_›])) rfl ?_
      refine gR 5 rfl (g_jR (gR 1 rfl (Zby 3 rfl rfl rfl rfl (Zbi ‹_›) rfl fun w M => ?_)))
      exact ZdO (show endN (getV (y :: ys) mark) = _ by rw [hgv];rfl) M.ext
     | some d =>
      have hG : ∀ w, Mem [] W w _ → Cal Tryz.prog 55 _ w _ := fun w M => ZnF (y :: ys) hnI _ mark hmk w (hO.slAt (l := List.flatten ([[(b15, .cells (inC y).toArray 74 (0, 0))], [(bN, .cells (insC (y :: ys) ++ junk).toArray 74 (0, 0))], [(b10, .cells inZ.toArray 74 (0, 0))], [(b8, .cells (dvC mark).toArray 67 (0, 0))], [(b7, .cells (ipC dst).toArray 63 (0, 0))], [(b6, .cells (ipC src).toArray 63 (0, 0))]])) M (fun p hp => by simp at hp;simp [hp])) (by omega)
      rw [hgv] at hG
      simp only [Option.getD_some, Option.isSome_some] at hG
      have dI : IsIn d := hnI _ (List.mem_of_find?_eq_some hgv)
      have hgv' : endN ((y :: ys).find? (fun e => decide (e.to = mark))) = endN (some d) := congrArg endN hgv
      refine gR 5 rfl (Zah 3 rfl rfl (ZaO ‹_›) ?_)
      refine Zad rfl rfl hG (gR 3 rfl (Zat fun b16 => Zas 0 rfl rfl (Zaj ‹_›) (ZaY _) rfl (Zag (by rw [Zaj ‹_›];first | rfl | rw [Zaj ‹_›])) rfl ?_))
      refine gR 14 rfl (Zah 0 rfl rfl (Zbi ‹_›) ?_)
      refine Zas 1 rfl rfl (Zaj ‹_›) (ZaY _) rfl (Zag (by rw [Zaj ‹_›];first | rfl | rw [Zaj ‹_›])) rfl ?_
      exact gR 1 rfl (Za6 d ⟨dI, hgv'⟩ (fun a F => F.only [15, 10] rfl) (by (try dsimp only);repeat (first | exact .refl _ | with_reducible exact sC0 _ | with_reducible apply sC2 | apply sC1)))
   rintro c ⟨cI, hE⟩
   rw [hE]
   by_cases k9 : c.nb = 0
   ·have k8 : (!decide (c.nb = 0)) = false := by simp [k9]
    refine gR 4 rfl (Zah 0 rfl rfl (Zbi ‹_›) ?_)
    refine Zad rfl rfl (fun w M => Zio _ ‹_› _) ?_
    refine gR 3 rfl (ZaE rfl (notT ‹_›) ?_)
    refine gR 2 rfl (g_v (fun a w F M R r => Zaw F rfl ‹_› r) ?_)
    refine Zas 1 rfl rfl (Zaj ‹_›) (ZaY _) rfl (Zag (by rw [Zaj ‹_›];first | rfl | rw [Zaj ‹_›])) rfl ?_
    refine gR 5 rfl (Zby 1 rfl rfl rfl rfl (Zbi ‹_›) rfl fun w M => ?_)
    exact ZdO (by unfold endN;simp [k9]) M.ext
   ·have k8 : (!decide (c.nb = 0)) = true := by simp [k9]
    refine gR 4 rfl (Zah 0 rfl rfl (Zbi ‹_›) ?_)
    refine Zad rfl rfl (fun w M => Zio _ ‹_› _) ?_
    refine gR 3 rfl (Zav rfl (notF ‹_›) ?_)
    refine gR 4 rfl (Zah 0 rfl rfl (Zbi ‹_›) ?_)
    refine Zas 1 rfl rfl (Zaj ‹_›) (ZaY _) rfl (Zag (by rw [Zaj ‹_›];first | rfl | rw [Zaj ‹_›])) rfl ?_
    refine gR 4 rfl (Zby 1 rfl rfl rfl rfl (Zbi ‹_›) rfl fun w M => ?_)
    exact ZdO (by unfold endN;simp [k9]) M.ext
theorem Zoe (l : List InsV) (hx : ∀ x ∈ l, IsIn x) (v : Value) (src dst : List Int) (hs : IsIP src) (hd : IsIP dst) (mark : DstV) (hmk : IsDv mark) (marked : Bool) (W : World) (hS : SlAt W 40 v l.length (insC l)) :
  Cal Tryz.prog 130 [v, .agg (ipC src).toArray, .agg (ipC dst).toArray, .agg (dvC mark).toArray, .bool marked].toArray W fun r w' => r = .tuple [.agg (inC (Zdx l src dst mark marked).1).toArray, .int .i64 (Zdx l src dst mark marked).2].toArray ∧ Ext [] W w' := by
 obtain ⟨q, cap, rfl, _⟩ := id hS
 have hm := hS.memB [] (by simp)
 have l3 := hs.len
 have l4 := hd.len
 have a1 : seg (ipC src) 0 16 = some (ipC src) := Zbw (ZaU hs.len)
 have a2 : seg (ipC dst) 0 16 = some (ipC dst) := Zbw (ZaU hd.len)
 have hz : Za2 [(0, 35), (35, 1), (36, 2), (38, 1), (39, 1)] inZ [] = some (inC in0) := rfl
 have hi0 := ZgH
 refine Zao (n := 152) (S := []) Zal Zak Tryz.func130 rfl rfl rfl (gR 2 rfl (ZaA rfl rfl fun b6 => ZaA rfl rfl fun b7 => ZaA rfl rfl fun b8 => Zat fun b10 => gR 4 rfl (ZcD (ι := Unit) ⟨fun _ => ZcJ l = true ∧ Zdx l src dst mark marked = Zkb (ZfQ l src dst) mark marked, fun _ => [(0, .slice q l.length cap), (4, .bool marked), (6, .pointer (some ⟨b6, 0, none⟩)), (7, .pointer (some ⟨b7, 0, none⟩)), (8, .pointer (some ⟨b8, 0, none⟩)), (10, .pointer (some ⟨b10, 0, none⟩))], fun _ => [[(b10, .cells inZ.toArray 74 (0, 0))], [(b8, .cells (dvC mark).toArray 67 (0, 0))], [(b7, .cells (ipC dst).toArray 63 (0, 0))], [(b6, .cells (ipC src).toArray 63 (0, 0))]]⟩ ?_ ?_)))
 ·refine gR 3 rfl ?_
  refine Zad rfl rfl (fun w M => Zik _ ‹_› _ _ ((by assumption : SlAt _ _ _ _ _).later M.ext)) ?_
  refine gR 2 rfl (Zan 22 rfl (fun h1 => ?_) (fun h1 => ?_))
  ·replace h1 := Zaa h1
   refine gR 12 rfl (g_v (fun a w F M R r => Zaw F rfl ‹_› r) ?_)
   refine Zas 0 rfl rfl (Zaj ‹_›) (ZaY _) rfl (Zag (by rw [Zaj ‹_›];first | rfl | rw [Zaj ‹_›])) rfl ?_
   refine gR 4 rfl (g_jR (gR 1 rfl (Zby 0 rfl rfl rfl rfl (Zbi ‹_›) rfl fun w M => ?_)))
   exact ZdO (by unfold Zdx;simp [*]) M.ext
  ·replace h1 := Zac h1
   refine gR 2 rfl (Zan 24 rfl (fun h2 => ?_) (fun h2 => ?_))
   ·refine Zah 1 rfl rfl (ZaO ‹_›) ?_
    refine Zad rfl rfl (fun w M => ZcI _ ‹_› _) ?_
    refine gR 5 rfl (g_if rfl (fun h3 => ?_) (fun h3 => ?_))
    ·replace h3 := Zaa h3
     refine gR 2 rfl (g_v (fun a w F M R r => Zaw F rfl ‹_› r) ?_)
     refine Zas 0 rfl rfl (Zaj ‹_›) (ZaY _) rfl (Zag (by rw [Zaj ‹_›];first | rfl | rw [Zaj ‹_›])) rfl ?_
     refine gR 4 rfl (g_jR (gR 1 rfl (Zby 0 rfl rfl rfl rfl (Zbi ‹_›) rfl fun w M => ?_)))
     exact ZdO (by unfold Zdx;simp [*]) M.ext
    ·replace h3 := Zac h3
     refine gR 1 rfl ?_
     exact Za6 () ⟨by assumption, by unfold Zdx;simp [*]⟩ (fun a F => F.only [0, 4, 6, 7, 8, 10] rfl) (sX 17179869183 rfl)
   ·refine gR 9 rfl ?_
    exact Za6 () ⟨by assumption, by unfold Zdx;simp [*]⟩ (fun a F => F.only [0, 4, 6, 7, 8, 10] rfl) (sX 17179869183 rfl)
 rintro _ ⟨hv, hL⟩
 have hl512 := (ZcW.1 hv).1
 rw [hL]
 refine gR 15 rfl (ZcO ?_)
 refine Za1 (ι := Nat × (List InsV) × Value × (List (Nat × Obj))) ⟨fun (i, near, u, es) => l.length - i, fun (i, near, u, es) => i ≤ l.length ∧ (OwnS 74 40 u near.length (insC near) es) ∧ (near = ZfQ (l.take i) src dst), fun (i, near, u, es) => [(33, .int .i64 i), (32, .int .i64 l.length), (31, .slice q l.length cap), (12, u), (4, .bool marked), (6, .pointer (some ⟨b6, 0, none⟩)), (7, .pointer (some ⟨b7, 0, none⟩)), (8, .pointer (some ⟨b8, 0, none⟩)), (10, .pointer (some ⟨b10, 0, none⟩))], fun (i, near, u, es) => [es, [(b10, .cells inZ.toArray 74 (0, 0))], [(b8, .cells (dvC mark).toArray 67 (0, 0))], [(b7, .cells (ipC dst).toArray 63 (0, 0))], [(b6, .cells (ipC src).toArray 63 (0, 0))]]⟩ (0, [], _, []) ⟨by omega, OwnS.nilL _ _ _, rfl⟩ (fun a F => F.only [33, 32, 31, 12, 4, 6, 7, 8, 10] rfl) (sX 17179869183 rfl) ?_
 rintro ⟨i, near, u, es⟩ ⟨hi_i, hOs, hnr⟩
 dsimp only
 by_cases hlt_i : i < l.length
 ·obtain ⟨b, o, cs, t', fz, rfl, hb, hs⟩ := hm (by omega)
  obtain ⟨x, hx0⟩ : ∃ x, x = l[i] := ⟨_, rfl⟩
  have hxm : x ∈ l := by rw [hx0];exact List.getElem_mem hlt_i
  have hxi : IsIn x := hx _ hxm
  have f1 : seg cs (o + (i : Int).toNat * 40) 40 = some (inC x) := by rw [hx0];exact Za0 (Zb5 hx) hs hlt_i (by omega)
  have hx0' := hx0
  clear hx0
  have hst := Ziz (src := src) (dst := dst) hlt_i
  rw [← hnr, ← hx0'] at hst
  have hnI : ∀ y ∈ near, IsIn y := by rw [hnr];exact ZeT fun y hy => hx y (List.mem_of_mem_take hy)
  have hnl : near.length ≤ 512 := by
   have := ZfP (src := src) (dst := dst) (l := l.take i)
   rw [← hnr, List.length_take] at this
   omega
  have hxd : IsDv x.to := hxi.1
  have f2 := Zaj hxi
  clear hnr hx0' hL
  have l1 := hxd.1.len
  have l2 := hxd.2.len
  refine gR 6 rfl (ZaE rfl (dqT (by omega)) (gR 6 rfl (Zbk rfl rfl (by omega) (by omega) (ZbF rfl ‹_› (by with_reducible assumption) ?_))))
  refine Zat fun b14 => Zas 0 rfl rfl (Zaj ‹_›) (ZaY _) rfl (Zag (by rw [Zaj ‹_›];first | rfl | rw [Zaj ‹_›])) rfl ?_
  refine gR 7 rfl (Zah 0 rfl rfl (Zhw ‹_›) ?_)
  refine Zah 4 rfl rfl (by with_reducible assumption) ?_
  refine Zad rfl rfl (fun w M => Zc3 _ _ ‹_› _ ‹_› _) ?_
  refine gR 2 rfl (Zan 43 rfl (fun h1 => ?_) (fun h1 => ?_))
  ·replace h1 := Zaa h1
   exact gR 15 rfl (ZaK rfl rfl (Zax (by omega) (by omega)) (gR 2 rfl (Zar (i + 1, near, u, es) ⟨by omega, hOs, by rw [hst, Zqf ‹_›]⟩ (by dsimp only;omega) (fun a F => F.only [33, 32, 31, 12, 4, 6, 7, 8, 10] rfl) (sX 17179869182 rfl))))
  replace h1 := Zac h1
  refine gR 2 rfl (Zah 0 rfl rfl (Zhv ‹_›) ?_)
  refine Zah 5 rfl rfl (by with_reducible assumption) ?_
  refine Zad rfl rfl (fun w M => Zc3 _ _ ‹_› _ ‹_› _) ?_
  refine gR 4 rfl (g_if rfl (fun h2 => ?_) (fun h2 => ?_))
  ·replace h2 := Zaa h2
   exact gR 5 rfl (ZaK rfl rfl (Zax (by omega) (by omega)) (gR 2 rfl (Zar (i + 1, near, u, es) ⟨by omega, hOs, by rw [hst, Zqe ‹_›]⟩ (by dsimp only;omega) (fun a F => F.only [33, 32, 31, 12, 4, 6, 7, 8, 10] rfl) (sX 17179869182 rfl))))
  replace h2 := Zac h2
  refine gR 3 rfl ?_
  have hmt : Zci x.to src dst = true := by unfold Zci;simp [*]
  ·cases near with
   | nil =>
    have hns : ZdY src dst [] x = [x] := by unfold ZdY;rw [hmt];rfl
    obtain ⟨pz, cz, rfl⟩ := hOs.slice
    refine gR 1 rfl (ZaG 13 152 rfl (by kernel_rfl) (fR 13 rfl (Zap rfl rfl (gR 6 rfl (ZaG 13 152 rfl (by kernel_rfl) (fR 13 rfl (Zap rfl rfl (gR 5 rfl (Zah 0 rfl rfl (Zbi ‹_›) ?_)))))))))
    refine g_bs rfl rfl rfl (ZbY ‹_›) (fun b79 => ?_)
    refine ZbI 2 0 (enc := inC) rfl rfl ‹_› rfl rfl (Zaj ‹_›) (by omega) (fun _ => rfl) (fun v80 es80 hO80 => ?_) (ZaY _)
    refine gR 5 rfl (ZaK rfl rfl (Zax (by omega) (by omega)) (gR 2 rfl ?_))
    exact Zar (i + 1, _, _, _) ⟨by omega, by assumption, by rw [hst, hns];rfl⟩ (by dsimp only;omega) (fun a F => F.only [33, 32, 31, 12, 4, 6, 7, 8, 10] rfl) (sX 17179869180 rfl)
   | cons y ys =>
    rcases hOs with ⟨_, h0, _, _⟩ | ⟨bN, cN, junk, rfl, rfl, hxl, hjl, hnc⟩
    ·simp at h0
    have hyv := hnI y (by simp)
    have hyd : IsDv y.to := hyv.1
    have hsz : ∀ z ∈ y :: ys, (inC z).length = 40 := Zb5 hnI
    have g1 : seg (insC (y :: ys) ++ junk) (0 + (0 : Int).toNat * 40) 40 = some (inC y) := ZfM hsz junk (show 0 < (y :: ys).length by simp) (by simp)
    have g2 : seg (insC (y :: ys) ++ junk) (0 + (0 : Int).toNat * 40 + 0) 35 = some (dvC y.to) := ZbP g1 (Zcy hyv) (by omega)
    have hO : OwnS 74 40 (.slice (some ⟨bN, 0, none⟩) (y :: ys).length cN) (y :: ys).length (insC (y :: ys)) [(bN, .cells (insC (y :: ys) ++ junk).toArray 74 (0, 0))] := .inr ⟨bN, cN, junk, rfl, rfl, hxl, hjl, hnc⟩
    have hn0 : 0 < (y :: ys).length := by simp
    have hns0 : ZdY src dst (y :: ys) x = if 0 < ZbL x.to y.to then [x] else if ZbL x.to y.to = 0 then y :: ys ++ [x] else y :: ys := by unfold ZdY;rw [hmt];rfl
    clear hxl hjl hnc hsz
    refine gR 1 rfl (ZaG 13 152 rfl (by kernel_rfl) (fR 4 rfl (ZaX 54 rfl (dqT (by omega)) (fR 1 rfl (ZaN 0 rfl rfl (Zcy ‹_›) ?_)))))
    refine fR 1 rfl (Zbb rfl rfl (by omega) (by omega) (fR 1 rfl (ZaN 1 rfl rfl (by with_reducible assumption) ?_)))
    refine ZaH rfl rfl (fun w M => Ze7 _ _ ‹_› ‹_› _) ?_
    refine fR 2 rfl (Zap rfl rfl (gR 2 rfl (g_if rfl (fun h1 => ?_) (fun h1 => ?_))))
    ·replace h1 := dqU h1
     refine gR 5 rfl (ZaG 13 152 rfl (by kernel_rfl) (fR 13 rfl (Zap rfl rfl (gR 5 rfl (Zah 0 rfl rfl (Zbi ‹_›) ?_)))))
     refine g_bs rfl rfl rfl (ZbY ‹_›) (fun b79 => ?_)
     refine ZcO ?_;refine ZbI 0 1 (enc := inC) rfl rfl (OwnS.nilL _ _ _) rfl rfl (Zaj ‹_›) (by (simp only [List.length_nil];omega)) (fun _ => rfl) (fun v80 es80 hO80 => ?_) (ZaY _)
     refine gR 5 rfl (ZaK rfl rfl (Zax (by omega) (by omega)) (gR 2 rfl ?_))
     exact Zar (i + 1, _, _, _) ⟨by omega, by assumption, by rw [hst, hns0, if_pos (show 0 < ZbL x.to y.to by assumption)];rfl⟩ (by dsimp only;omega) (fun a F => F.only [33, 32, 31, 12, 4, 6, 7, 8, 10] rfl) (by (try dsimp only);repeat (first | exact .refl _ | with_reducible exact sC0 _ | with_reducible apply sC2 | apply sC1))
    ·replace h1 := dqV h1
     refine gR 3 rfl (ZaG 13 152 rfl (by kernel_rfl) (fR 5 rfl (ZaN 0 rfl rfl (Zcy ‹_›) ?_)))
     refine fR 1 rfl (Zbb rfl rfl (by omega) (by omega) (fR 1 rfl (ZaN 1 rfl rfl (by with_reducible assumption) ?_)))
     refine ZaH rfl rfl (fun w M => Ze7 _ _ ‹_› ‹_› _) ?_
     refine fR 2 rfl (Zap rfl rfl (gR 2 rfl (g_if rfl (fun h2 => ?_) (fun h2 => ?_))))
     ·replace h2 := dqU h2
      refine gR 2 rfl (Zah 0 rfl rfl (Zbi ‹_›) ?_)
      refine g_bs rfl rfl rfl (ZbY ‹_›) (fun b79 => ?_)
      refine ZbI 2 0 (enc := inC) rfl rfl ‹_› rfl rfl (Zaj ‹_›) (by omega) (fun _ => rfl) (fun v80 es80 hO80 => ?_) (ZaY _)
      exact gR 5 rfl (ZaK rfl rfl (Zax (by omega) (by omega)) (gR 2 rfl (Zar (i + 1, _, _, _) ⟨by omega, by assumption, by rw [hst, hns0, if_neg (show ¬ 0 < ZbL x.to y.to by assumption), if_pos (show ZbL x.to y.to = 0 by assumption)]⟩ (by dsimp only;omega) (fun a F => F.only [33, 32, 31, 12, 4, 6, 7, 8, 10] rfl) (sX 17179869180 rfl))))
     ·replace h2 := dqV h2
      exact gR 4 rfl (ZaK rfl rfl (Zax (by omega) (by omega)) (gR 2 rfl (Zar (i + 1, _, _, _) ⟨by omega, by assumption, by rw [hst, hns0, if_neg (show ¬ 0 < ZbL x.to y.to by assumption), if_neg (show ¬ ZbL x.to y.to = 0 by assumption)]⟩ (by dsimp only;omega) (fun a F => F.only [33, 32, 31, 12, 4, 6, 7, 8, 10] rfl) (sX 17179869182 rfl))))
 ·have hil : i = l.length := by omega
  rw [hil, List.take_length] at hnr
  have hnI : ∀ y ∈ near, IsIn y := by rw [hnr];exact ZeT hx
  have hnl : near.length ≤ 512 := by
   have := ZfP (src := src) (dst := dst) (l := l)
   rw [← hnr] at this
   omega
  rw [← hnr]
  clear hnr hm hL hil
  cases near with
  | nil =>
   obtain ⟨pz, cz, rfl⟩ := hOs.slice
   refine gR 6 rfl (Zav rfl (dqF (by omega)) (gR 2 rfl (ZaZ (gR 4 rfl (ZaG 15 152 rfl (by kernel_rfl) (fR 15 rfl (Zap rfl rfl (gR 5 rfl (g_v (fun a w F M R r => Zaw F rfl ‹_› r) ?_)))))))))
   refine Zas 1 rfl rfl (Zaj ‹_›) (ZaY _) rfl (Zag (by rw [Zaj ‹_›];first | rfl | rw [Zaj ‹_›])) rfl ?_
   refine gR 5 rfl (Zby 1 rfl rfl rfl rfl (Zbi ‹_›) rfl fun w M => ?_)
   exact ZdO rfl M.ext
  | cons y ys =>
   rcases hOs with ⟨_, h0, _, _⟩ | ⟨bN, cN, junk, rfl, rfl, hxl, hjl, hnc⟩
   ·simp at h0
   have hyv := hnI y (by simp)
   have hyd : IsDv y.to := hyv.1
   have hsz : ∀ z ∈ y :: ys, (inC z).length = 40 := Zb5 hnI
   have g1 : seg (insC (y :: ys) ++ junk) (0 + (0 : Int).toNat * 40) 40 = some (inC y) := ZfM hsz junk (show 0 < (y :: ys).length by simp) (by simp)
   have g2 : seg (insC (y :: ys) ++ junk) (0 + (0 : Int).toNat * 40 + 0) 35 = some (dvC y.to) := ZbP g1 (Zcy hyv) (by omega)
   have g3 : seg (insC (y :: ys) ++ junk) (0 + (0 : Int).toNat * 40 + 0 + 0) 17 = some (pfC y.to.dip y.to.dbits) := ZbP g1 (Zhw hyv) (by omega)
   have g4 : seg (insC (y :: ys) ++ junk) (0 + (0 : Int).toNat * 40 + 0 + 17) 17 = some (pfC y.to.sip y.to.sbits) := ZbP g1 (Zhv hyv) (by omega)
   have g5 := Zdm hyd.1.len y.to.dbits
   have g6 := Zdm hyd.2.len y.to.sbits
   have m3 := Zb9 hmk
   have m4 := ZcP hmk
   have m5 := Zdm hmk.1.len mark.dbits
   have m6 := Zdm hmk.2.len mark.sbits
   have q1 := Zl6 (a := y.to.dip) (b := mark.dip) (n := y.to.dbits) (m := mark.dbits) (by rw [hyd.1.len, hmk.1.len])
   have q2 := Zl6 (a := y.to.sip) (b := mark.sip) (n := y.to.sbits) (m := mark.sbits) (by rw [hyd.2.len, hmk.2.len])
   have hO : OwnS 74 40 (.slice (some ⟨bN, 0, none⟩) (y :: ys).length cN) (y :: ys).length (insC (y :: ys)) [(bN, .cells (insC (y :: ys) ++ junk).toArray 74 (0, 0))] := .inr ⟨bN, cN, junk, rfl, rfl, hxl, hjl, hnc⟩
   have hn0 : 0 < (y :: ys).length := by simp
   clear hxl hjl hnc
   refine gR 6 rfl (Zav rfl (dqF (by omega)) (gR 2 rfl (ZaZ (gR 3 rfl (ZcD (ι := Unit) ⟨fun _ => (marked && decide (ZbL y.to mark < 0)) = false, fun _ => [(12, .slice (some ⟨bN, 0, none⟩) (y :: ys).length cN), (4, .bool marked), (6, .pointer (some ⟨b6, 0, none⟩)), (7, .pointer (some ⟨b7, 0, none⟩)), (8, .pointer (some ⟨b8, 0, none⟩)), (10, .pointer (some ⟨b10, 0, none⟩))], fun _ => [[(bN, .cells (insC (y :: ys) ++ junk).toArray 74 (0, 0))], [(b10, .cells inZ.toArray 74 (0, 0))], [(b8, .cells (dvC mark).toArray 67 (0, 0))], [(b7, .cells (ipC dst).toArray 63 (0, 0))], [(b6, .cells (ipC src).toArray 63 (0, 0))]]⟩ ?_ ?_)))))
   ·cases marked
    ·refine gR 1 rfl ?_
     exact ZaG 15 152 rfl (by kernel_rfl) (fR 15 rfl (Zap rfl rfl (gR 4 rfl (Za6 () rfl (fun a F => F.only [12, 4, 6, 7, 8, 10] rfl) (sX 17179869183 rfl)))))
    ·by_cases k : ZbL y.to mark < 0
     ·refine gR 1 rfl ?_
      refine ZaG 15 152 rfl (by kernel_rfl) (fR 7 rfl (Zbb rfl rfl (by omega) (by omega) (fR 1 rfl (ZaN 0 rfl rfl (by with_reducible assumption) ?_))))
      refine ZaN 2 rfl rfl (ZaO ‹_›) ?_
      refine ZaH rfl rfl (fun w M => Ze7 _ _ ‹_› ‹_› _) ?_
      refine fR 3 rfl (Zap rfl rfl (gR 2 rfl (ZaE rfl (dqT (by omega)) (gR 2 rfl (g_v (fun a w F M R r => Zaw F rfl ‹_› r) ?_)))))
      refine Zas 1 rfl rfl (Zaj ‹_›) (ZaY _) rfl (Zag (by rw [Zaj ‹_›];first | rfl | rw [Zaj ‹_›])) rfl ?_
      refine gR 4 rfl (g_jR (gR 1 rfl (Zby 1 rfl rfl rfl rfl (Zbi ‹_›) rfl fun w M => ?_)))
      exact ZdO (Zka (by simp [k])) M.ext
     ·refine gR 1 rfl ?_
      refine ZaG 15 152 rfl (by kernel_rfl) (fR 7 rfl (Zbb rfl rfl (by omega) (by omega) (fR 1 rfl (ZaN 0 rfl rfl (by with_reducible assumption) ?_))))
      refine ZaN 2 rfl rfl (ZaO ‹_›) ?_
      refine ZaH rfl rfl (fun w M => Ze7 _ _ ‹_› ‹_› _) ?_
      exact fR 3 rfl (Zap rfl rfl (gR 2 rfl (Zav rfl (dqF (by omega)) (gR 1 rfl (Za6 () (by simp [k]) (fun a F => F.only [12, 4, 6, 7, 8, 10] rfl) (sX 17179869183 rfl))))))
   rintro _ hk
   rw [ZiB hk]
   clear hk
   refine gR 4 rfl (Zbk rfl rfl (by omega) (by omega) (Zah 0 rfl rfl (by with_reducible assumption) ?_))
   refine Zat fun b15 => Zas 0 rfl rfl (Zaj ‹_›) (ZaY _) rfl (Zag (by rw [Zaj ‹_›];first | rfl | rw [Zaj ‹_›])) rfl ?_
   refine gR 3 rfl (ZcD (ι := InsV) ⟨fun c => IsIn c ∧ endN (if (marked && ZhW y.to mark) = true then (y :: ys).find? (fun e => decide (e.to = mark)) else some (ZgP (y :: ys) y)) = endN (some c), fun _ => [(15, .pointer (some ⟨b15, 0, none⟩)), (10, .pointer (some ⟨b10, 0, none⟩))], fun c => [[(b15, .cells (inC c).toArray 74 (0, 0))], [(b10, .cells inZ.toArray 74 (0, 0))]]⟩ ?_ ?_)
   ·refine gR 1 rfl ?_
    refine ZcD (ι := Unit) ⟨fun _ => True, fun _ => [(121, .bool (marked && ZhW y.to mark)), (15, .pointer (some ⟨b15, 0, none⟩)), (12, .slice (some ⟨bN, 0, none⟩) (y :: ys).length cN), (4, .bool marked), (6, .pointer (some ⟨b6, 0, none⟩)), (7, .pointer (some ⟨b7, 0, none⟩)), (8, .pointer (some ⟨b8, 0, none⟩)), (10, .pointer (some ⟨b10, 0, none⟩))], fun _ => [[(b15, .cells (inC y).toArray 74 (0, 0))], [(bN, .cells (insC (y :: ys) ++ junk).toArray 74 (0, 0))], [(b10, .cells inZ.toArray 74 (0, 0))], [(b8, .cells (dvC mark).toArray 67 (0, 0))], [(b7, .cells (ipC dst).toArray 63 (0, 0))], [(b6, .cells (ipC src).toArray 63 (0, 0))]]⟩ ?_ ?_
    ·unfold ZhW
     cases marked
     ·refine ZaG 21 152 rfl (by kernel_rfl) ?_
      exact fR 21 rfl (Zap rfl rfl (gR 1 rfl (Za6 () trivial (fun a F => F.only [121, 15, 12, 4, 6, 7, 8, 10] rfl) (sX 17179869183 rfl))))
     ·cases d1 : (decide (y.to.dip = mark.dip) && decide (y.to.dbits = mark.dbits))
      ·rw [d1] at q1
       refine ZaG 21 152 rfl (by kernel_rfl) (fR 3 rfl (Zbb rfl rfl (by omega) (by omega) (fR 2 rfl (ZaN 1 rfl rfl (by with_reducible assumption) ?_))))
       refine fR 1 rfl (ZaN 3 rfl rfl (Zb9 ‹_›) ?_)
       refine Zfi rfl rfl ‹_› ‹_› ‹_› ?_
       exact fR 11 rfl (Zap rfl rfl (gR 1 rfl (Za6 () trivial (fun a F => F.only [121, 15, 12, 4, 6, 7, 8, 10] rfl) (sX 17179869183 rfl))))
      ·rw [d1] at q1
       cases d2 : (decide (y.to.sip = mark.sip) && decide (y.to.sbits = mark.sbits))
       ·rw [d2] at q2
        refine ZaG 21 152 rfl (by kernel_rfl) (fR 3 rfl (Zbb rfl rfl (by omega) (by omega) (fR 2 rfl (ZaN 1 rfl rfl (by with_reducible assumption) ?_))))
        refine fR 1 rfl (ZaN 3 rfl rfl (Zb9 ‹_›) ?_)
        refine Zfi rfl rfl ‹_› ‹_› ‹_› ?_
        refine fR 3 rfl (Zbb rfl rfl (by omega) (by omega) (fR 2 rfl (ZaN 1 rfl rfl (by with_reducible assumption) ?_)))
        refine fR 1 rfl (ZaN 3 rfl rfl (ZcP ‹_›) ?_)
        refine Zfi rfl rfl ‹_› ‹_› ‹_› ?_
        exact fR 1 rfl (Zap rfl rfl (gR 1 rfl (Za6 () trivial (fun a F => F.only [121, 15, 12, 4, 6, 7, 8, 10] rfl) (sX 17179869183 rfl))))
       ·rw [d2] at q2
        refine ZaG 21 152 rfl (by kernel_rfl) (fR 3 rfl (Zbb rfl rfl (by omega) (by omega) (fR 2 rfl (ZaN 1 rfl rfl (by with_reducible assumption) ?_))))
        refine fR 1 rfl (ZaN 3 rfl rfl (Zb9 ‹_›) ?_)
        refine Zfi rfl rfl ‹_› ‹_› ‹_› ?_
        refine fR 3 rfl (Zbb rfl rfl (by omega) (by omega) (fR 2 rfl (ZaN 1 rfl rfl (by with_reducible assumption) ?_)))
        refine fR 1 rfl (ZaN 3 rfl rfl (ZcP ‹_›) ?_)
        refine Zfi rfl rfl ‹_› ‹_› ‹_› ?_
        exact fR 1 rfl (Zap rfl rfl (gR 1 rfl (Za6 () trivial (fun a F => F.only [121, 15, 12, 4, 6, 7, 8, 10] rfl) (sX 17179869183 rfl))))
    rintro _ _
    clear q1 q2 g2 g3 g4 g5 g6 m3 m4 m5 m6
    cases hsm : (marked && ZhW y.to mark)
    ·dsimp only
     rw [if_neg (by simp)]
     refine gR 10 rfl (Za1 (ι := Nat × InsV) ⟨fun (i, c) => (y :: ys).length - i, fun (i, c) => i ≤ (y :: ys).length ∧ c = ZgP ((y :: ys).take i) y, fun (i, c) => [(134, .int .i64 i), (133, .int .i64 (y :: ys).length), (132, .slice (some ⟨bN, 0, none⟩) (y :: ys).length cN), (15, .pointer (some ⟨b15, 0, none⟩)), (10, .pointer (some ⟨b10, 0, none⟩))], fun (i, c) => [[(b15, .cells (inC c).toArray 74 (0, 0))], [(bN, .cells (insC (y :: ys) ++ junk).toArray 74 (0, 0))], [(b10, .cells inZ.toArray 74 (0, 0))]]⟩ (0, y) ⟨by omega, rfl⟩ (fun a F => F.only [134, 133, 132, 15, 10] rfl) (by repeat (first | exact .refl _ | apply sC2 | apply sC1)) ?_)
     rintro ⟨j, c⟩ ⟨hj, hc⟩
     dsimp only
     have cI : IsIn c := by rw [hc];exact Zlh (fun x hx => hnI x (List.mem_of_mem_take hx)) hyv
     by_cases hlt_j : j < (y :: ys).length
     ·have gi : seg (insC (y :: ys) ++ junk) (0 + (j : Int).toNat * 40) 40 = some (inC (y :: ys)[j]) := ZfM hsz junk hlt_j (by omega)
      have xI := hnI _ (List.getElem_mem hlt_j)
      have hch := ZiN (y := y) hlt_j
      rw [← hc] at hch
      obtain ⟨x, hx0⟩ : ∃ x, x = (y :: ys)[j] := ⟨_, rfl⟩
      rw [← hx0] at gi xI hch
      clear hc hx0
      by_cases k5 : x.own.met < c.own.met
      ·rw [if_pos k5] at hch
       refine gR 6 rfl (ZaE rfl (dqT (by omega)) (gR 6 rfl (Zbk rfl rfl (by omega) (by omega) (Zah 1 rfl rfl (by with_reducible assumption) ?_))))
       refine Zat fun b18 => Zas 0 rfl rfl (Zaj ‹_›) (ZaY _) rfl (Zag (by rw [Zaj ‹_›];first | rfl | rw [Zaj ‹_›])) rfl ?_
       refine gR 6 rfl (Zai 0 rfl rfl (ZbC ‹_›) ?_)
       refine gR 2 rfl (Zai 1 rfl rfl (ZbC ‹_›) ?_)
       refine gR 3 rfl (ZaE rfl (dqT (by omega)) (gR 1 rfl (Zah 0 rfl rfl (Zbi ‹_›) ?_)))
       refine Zas 1 rfl rfl (Zaj ‹_›) (ZaY _) rfl (Zag (by rw [Zaj ‹_›];first | rfl | rw [Zaj ‹_›])) rfl ?_
       exact gR 4 rfl (ZaK rfl rfl (Zax (by omega) (by omega)) (gR 2 rfl (Zar (j + 1, x) ⟨by omega, hch.symm⟩ (by dsimp only;omega) (fun a F => F.only [134, 133, 132, 15, 10] rfl) (sX 17179869182 rfl))))
      ·rw [if_neg k5] at hch
       refine gR 6 rfl (ZaE rfl (dqT (by omega)) (gR 6 rfl (Zbk rfl rfl (by omega) (by omega) (Zah 1 rfl rfl (by with_reducible assumption) ?_))))
       refine Zat fun b18 => Zas 0 rfl rfl (Zaj ‹_›) (ZaY _) rfl (Zag (by rw [Zaj ‹_›];first | rfl | rw [Zaj ‹_›])) rfl ?_
       refine gR 6 rfl (Zai 0 rfl rfl (ZbC ‹_›) ?_)
       refine gR 2 rfl (Zai 1 rfl rfl (ZbC ‹_›) ?_)
       exact gR 3 rfl (Zav rfl (dqF (by omega)) (gR 4 rfl (ZaK rfl rfl (Zax (by omega) (by omega)) (gR 2 rfl (Zar (j + 1, c) ⟨by omega, hch.symm⟩ (by dsimp only;omega) (fun a F => F.only [134, 133, 132, 15, 10] rfl) (sX 17179869182 rfl))))))
     ·have hje : j = (y :: ys).length := by omega
      rw [hje, List.take_length] at hc
      exact gR 6 rfl (Zav rfl (dqF (by omega)) (gR 2 rfl (ZaZ (gR 1 rfl (Za6 c ⟨cI, by rw [hc]⟩ (fun a F => F.only [15, 10] rfl) (by (try dsimp only);repeat (first | exact .refl _ | with_reducible exact sC0 _ | with_reducible apply sC2 | apply sC1)))))))
    ·dsimp only
     rw [if_pos rfl]
     have hcl : ∀ w, Mem [] W w (List.flatten [[(b15, .cells (inC y).toArray 74 (0, 0))], [(bN, .cells (insC (y :: ys) ++ junk).toArray 74 (0, 0))], [(b10, .cells inZ.toArray 74 (0, 0))], [(b8, .cells (dvC mark).toArray 67 (0, 0))], [(b7, .cells (ipC dst).toArray 63 (0, 0))], [(b6, .cells (ipC src).toArray 63 (0, 0))]]) → ∀ w' (e : InsV), Ext [] w w' → e ∈ y :: ys → Cal Tryz.prog 222 [.agg (inC e).toArray, .pointer (some ⟨b8, 0, none⟩)].toArray w' fun v w'' => v = .bool (decide (e.to = mark)) ∧ Ext [] w' w'' := fun w M w' e E he =>
      Zof e (hnI e he) mark hmk w' ((M.later E).at_ _ (Zae (l := [[(b15, .cells (inC y).toArray 74 (0, 0))], [(bN, .cells (insC (y :: ys) ++ junk).toArray 74 (0, 0))], [(b10, .cells inZ.toArray 74 (0, 0))], [(b8, .cells (dvC mark).toArray 67 (0, 0))], [(b7, .cells (ipC dst).toArray 63 (0, 0))], [(b6, .cells (ipC src).toArray 63 (0, 0))]]) (i := 3) rfl))
     refine gR 5 rfl (g_v (fun a w F M R r => Zgk (F.evs (xs := []) rfl) (F.evs (xs := [.tmp 8]) rfl) r) ?_)
     refine Zad rfl rfl (fun w M => Zqx (ls := y :: ys) w (hO.slAt M (fun p hp => by simp at hp;simp [hp])) hnI (by omega) 222 [.pointer (some ⟨b8, 0, none⟩)] (fun e => decide (e.to = mark)) (hcl w M)) ?_
     rcases ZmS (p := fun e : InsV => decide (e.to = mark)) (ls := y :: ys) with ⟨h1, h2⟩ | ⟨i, hi, h1, h2⟩
     ·rw [h1]
      refine gR 13 rfl (g_v (fun a w F M R r => Zaw F rfl ‹_› r) ?_)
      refine Zas 2 rfl rfl (Zaj ‹_›) (ZaY _) rfl (Zag (by rw [Zaj ‹_›];first | rfl | rw [Zaj ‹_›])) rfl ?_
      refine gR 5 rfl (g_jR (gR 1 rfl (Zby 2 rfl rfl rfl rfl (Zbi ‹_›) rfl fun w M => ?_)))
      exact ZdO (by rw [h2];rfl) M.ext
     ·rw [h1]
      have gi : seg (insC (y :: ys) ++ junk) (0 + (i : Int).toNat * 40) 40 = some (inC (y :: ys)[i]) := ZfM hsz junk hi (by omega)
      have cI := hnI _ (List.getElem_mem hi)
      obtain ⟨c, hc⟩ : ∃ c, c = (y :: ys)[i] := ⟨_, rfl⟩
      rw [← hc] at gi cI h2
      refine gR 16 rfl (Zbk rfl rfl (by omega) (by omega) (Zah 1 rfl rfl (by with_reducible assumption) ?_))
      refine Zas 0 rfl rfl (Zaj ‹_›) (ZaY _) rfl (Zag (by rw [Zaj ‹_›];first | rfl | rw [Zaj ‹_›])) rfl ?_
      exact gR 1 rfl (Za6 c ⟨cI, by rw [h2]⟩ (fun a F => F.only [15, 10] rfl) (by (try dsimp only);repeat (first | exact .refl _ | with_reducible exact sC0 _ | with_reducible apply sC2 | apply sC1)))
   rintro c ⟨cI, hE⟩
   rw [hE]
   by_cases k9 : c.nb = 0
   ·have k8 : (!decide (c.nb = 0)) = false := by simp [k9]
    refine gR 4 rfl (Zah 0 rfl rfl (Zbi ‹_›) ?_)
    refine Zad rfl rfl (fun w M => Zhh _ ‹_› _) ?_
    refine gR 3 rfl (ZaE rfl (notT ‹_›) ?_)
    refine gR 2 rfl (g_v (fun a w F M R r => Zaw F rfl ‹_› r) ?_)
    refine Zas 1 rfl rfl (Zaj ‹_›) (ZaY _) rfl (Zag (by rw [Zaj ‹_›];first | rfl | rw [Zaj ‹_›])) rfl ?_
    refine gR 5 rfl (Zby 1 rfl rfl rfl rfl (Zbi ‹_›) rfl fun w M => ?_)
    exact ZdO (by unfold endN;simp [k9]) M.ext
   ·have k8 : (!decide (c.nb = 0)) = true := by simp [k9]
    refine gR 4 rfl (Zah 0 rfl rfl (Zbi ‹_›) ?_)
    refine Zad rfl rfl (fun w M => Zhh _ ‹_› _) ?_
    refine gR 3 rfl (Zav rfl (notF ‹_›) ?_)
    refine gR 4 rfl (Zah 0 rfl rfl (Zbi ‹_›) ?_)
    refine Zas 1 rfl rfl (Zaj ‹_›) (ZaY _) rfl (Zag (by rw [Zaj ‹_›];first | rfl | rw [Zaj ‹_›])) rfl ?_
    refine gR 4 rfl (Zby 1 rfl rfl rfl rfl (Zbi ‹_›) rfl fun w M => ?_)
    exact ZdO (by unfold endN;simp [k9]) M.ext
theorem Zji (x y : DstV) (hx : IsDv x) (hy : IsDv y) (W : World) : Cal Tryz.prog 128 [.agg (dvC x).toArray, .agg (dvC y).toArray].toArray W fun v w' => v = .int .i64 (ZbL x y) ∧ Ext [] W w' := by
 have a1 := Zbf hx
 have a2 := Zbr hx
 have c1 := Zbf hy
 have c2 := Zbr hy
 have hr : ZbL x y = orV [cmpV x.dbits y.dbits, cmpV x.sbits y.sbits] := by
  simp only [ZbL, orV, orI]
  repeat' split
  all_goals first | rfl | (rename_i h;exact h) | (rename_i h;exact h.symm) | simp_all [cmpI, cmpV]
 rw [hr]
 refine Zao (n := 21) (S := []) Zal Zak Tryz.func128 rfl rfl rfl (gR 2 rfl (ZaA rfl rfl fun b2 => ZaA rfl rfl fun b3 => gR 4 rfl (ZaG 15 21 rfl (by kernel_rfl) (fR 2 rfl (ZaW 1 rfl rfl (Zbf ‹_›) ?_)))))
 refine fR 2 rfl (ZaW 0 rfl rfl (Zbf ‹_›) ?_)
 refine ZaH rfl rfl (fun w M => Zg3 _ _ _) (fR 2 rfl (ZaW 1 rfl rfl (Zbr ‹_›) ?_))
 refine fR 2 rfl (ZaW 0 rfl rfl (Zbr ‹_›) ?_)
 refine ZaH rfl rfl (fun w M => Zg3 _ _ _) (ZmT rfl rfl rfl rfl (fun b19 => ?_))
 exact Zad rfl rfl (fun w M => or_c (b := _) [cmpV x.dbits y.dbits, cmpV x.sbits y.sbits] 2 rfl (by omega) _ (M.at_ _ (Zae (i := 0) rfl))) (gR 4 rfl (Zab rfl rfl rfl fun w M => ⟨rfl, M.ext⟩))
theorem Zrr (t : DstV) (ht : IsDv t) (src dst : List Int) (hs : IsIP src) (hd : IsIP dst) {b9 b8 : Nat} (W : World) (h9 : W.heap[b9]? = some (.cells (ipC dst).toArray 63 (0, 0))) (h8 : W.heap[b8]? = some (.cells (ipC src).toArray 63 (0, 0))) : Cal Tryz.prog 126 ([Value.agg (dvC t).toArray] ++ [Value.pointer (some ⟨b9, 0, none⟩), Value.pointer (some ⟨b8, 0, none⟩)]).toArray W fun v w' => v = .bool (Zci t src dst) ∧ Ext [] W w' := by
 have g9 : ∀ w', Ext [] W w' → w'.heap[b9]? = some (.cells (ipC dst).toArray 63 (0, 0)) := fun w' E => Zcz E h9
 have g8 : ∀ w', Ext [] W w' → w'.heap[b8]? = some (.cells (ipC src).toArray 63 (0, 0)) := fun w' E => Zcz E h8
 have e1 : seg (ipC src) 0 16 = some (ipC src) := Zbw (ZaU hs.len)
 have e2 : seg (ipC dst) 0 16 = some (ipC dst) := Zbw (ZaU hd.len)
 have l1 := ht.1.len
 have l2 := ht.2.len
 have l3 := hs.len
 have l4 := hd.len
 simp only [List.cons_append, List.nil_append]
 unfold Zci
 refine Zao (n := 15) (S := []) Zal Zak Tryz.func126 rfl rfl rfl ?_
 cases h1 : Zbu t.dip t.dbits dst
 ·refine gR 2 rfl ?_
  refine ZaA rfl rfl fun b3 => gR 6 rfl (Zah 0 rfl rfl (Zb9 ‹_›) ?_)
  refine ZbF rfl ‹_› (by with_reducible assumption) ?_
  refine Zad rfl rfl (fun w M => Zc3 _ _ ‹_› _ ‹_› _) ?_
  refine gR 1 rfl (ZaQ 9 rfl ‹_› ?_)
  exact gR 9 rfl (Zab rfl rfl rfl fun w M => ⟨rfl, M.ext⟩)
 ·cases h2 : Zbu t.sip t.sbits src
  ·refine gR 2 rfl ?_
   refine ZaA rfl rfl fun b3 => gR 6 rfl (Zah 0 rfl rfl (Zb9 ‹_›) ?_)
   refine ZbF rfl ‹_› (by with_reducible assumption) ?_
   refine Zad rfl rfl (fun w M => Zc3 _ _ ‹_› _ ‹_› _) ?_
   refine gR 1 rfl (ZaQ 9 rfl ‹_› ?_)
   refine gR 1 rfl (Zah 0 rfl rfl (ZcP ‹_›) ?_)
   refine ZbF rfl ‹_› (by with_reducible assumption) ?_
   refine Zad rfl rfl (fun w M => Zc3 _ _ ‹_› _ ‹_› _) ?_
   exact gR 5 rfl (Zab rfl rfl rfl fun w M => ⟨by simp [*], M.ext⟩)
  ·refine gR 2 rfl ?_
   refine ZaA rfl rfl fun b3 => gR 6 rfl (Zah 0 rfl rfl (Zb9 ‹_›) ?_)
   refine ZbF rfl ‹_› (by with_reducible assumption) ?_
   refine Zad rfl rfl (fun w M => Zc3 _ _ ‹_› _ ‹_› _) ?_
   refine gR 1 rfl (ZaQ 9 rfl ‹_› ?_)
   refine gR 1 rfl (Zah 0 rfl rfl (ZcP ‹_›) ?_)
   refine ZbF rfl ‹_› (by with_reducible assumption) ?_
   refine Zad rfl rfl (fun w M => Zc3 _ _ ‹_› _ ‹_› _) ?_
   exact gR 5 rfl (Zab rfl rfl rfl fun w M => ⟨by simp [*], M.ext⟩)
theorem ZtP (y : InsV) (hy : IsIn y) (w : DstV) (hw : IsDv w) (src dst : List Int) (hs : IsIP src) (hd : IsIP dst) {b15 b16 b9 b8 : Nat} (W : World) (h15 : W.heap[b15]? = some (.cells [Value.func (.func 126) #[] #[.pointer (some ⟨b9, 0, none⟩), .pointer (some ⟨b8, 0, none⟩)]].toArray 145 (0, 0))) (h16 : W.heap[b16]? = some (.cells (dvC w).toArray 67 (0, 0))) (h9 : W.heap[b9]? = some (.cells (ipC dst).toArray 63 (0, 0))) (h8 : W.heap[b8]? = some (.cells (ipC src).toArray 63 (0, 0))) : Cal Tryz.prog 129 ([Value.agg (inC y).toArray] ++ [Value.pointer (some ⟨b15, 0, none⟩), Value.pointer (some ⟨b16, 0, none⟩)]).toArray W fun v w' => v = .bool (nrV w src dst y) ∧ Ext [] W w' := by
 have g15 : ∀ w', Ext [] W w' → w'.heap[b15]? = some (.cells [Value.func (.func 126) #[] #[.pointer (some ⟨b9, 0, none⟩), .pointer (some ⟨b8, 0, none⟩)]].toArray 145 (0, 0)) := fun w' E => Zcz E h15
 have g16 : ∀ w', Ext [] W w' → w'.heap[b16]? = some (.cells (dvC w).toArray 67 (0, 0)) := fun w' E => Zcz E h16
 have n15 : nth [Value.func (.func 126) #[] #[.pointer (some ⟨b9, 0, none⟩), .pointer (some ⟨b8, 0, none⟩)]] 0 = some (Value.func (.func 126) #[] #[.pointer (some ⟨b9, 0, none⟩), .pointer (some ⟨b8, 0, none⟩)]) := rfl
 have yd : IsDv y.to := hy.1
 have e3 := ZaO hw
 simp only [List.cons_append, List.nil_append]
 unfold nrV
 refine Zao (n := 16) (S := []) Zal Zak Tryz.func129 rfl rfl rfl (gR 2 rfl (ZaA rfl rfl fun b3 => gR 5 rfl (Zkg rfl ‹_› (by with_reducible assumption) ?_)))
 refine gR 1 rfl (Zah 0 rfl rfl (Zcy ‹_›) ?_)
 refine ZgZ (v := .bool (Zci y.to src dst)) rfl rfl (fun w2 M => Zrr y.to yd src dst hs hd w2 (Zcz M.ext h9) (Zcz M.ext h8)) ?_
 cases h1 : Zci y.to src dst
 ·refine gR 11 rfl ?_
  exact Zab rfl rfl rfl fun w M => ⟨rfl, M.ext⟩
 ·cases h2 : decide (0 < ZbL y.to w)
  ·refine gR 2 rfl ?_
   refine Zah 0 rfl rfl (Zcy ‹_›) ?_
   refine ZbF rfl ‹_› (by with_reducible assumption) ?_
   refine Zad rfl rfl (fun w M => Zji _ _ ‹_› ‹_› _) ?_
   exact gR 6 rfl (Zab rfl rfl rfl fun w M => ⟨by simp [*], M.ext⟩)
  ·refine gR 2 rfl ?_
   refine Zah 0 rfl rfl (Zcy ‹_›) ?_
   refine ZbF rfl ‹_› (by with_reducible assumption) ?_
   refine Zad rfl rfl (fun w M => Zji _ _ ‹_› ‹_› _) ?_
   exact gR 6 rfl (Zab rfl rfl rfl fun w M => ⟨by simp [*], M.ext⟩)
theorem ZmJ (s : RtV) (x : RtX) (hs : IsRt s) (now : Int) (src dst : List Int) (hsi : IsIP src) (hdi : IsIP dst) (mark : DstV) (hmk : IsDv mark) (marked : Bool) (W : World) (h : RtAt W s x) : Cal Tryz.prog 47 [.agg (rtC s x).toArray, .int .i64 now, .agg (ipC src).toArray, .agg (ipC dst).toArray, .agg (dvC mark).toArray, .bool marked].toArray W fun r w' => r = .tuple #[.int .u64 (fwdV s now src dst mark marked).1, .agg (dvC (fwdV s now src dst mark marked).2.1).toArray, .int .i64 (fwdV s now src dst mark marked).2.2] ∧ Ext [] W w' := by
 obtain ⟨v6, v7, v8, v9, v10, v11, v12⟩ := x
 obtain ⟨a6, a7, a8, a9, a10, a11, a12⟩ := id h
 dsimp only at a6 a7 a8 a9 a10 a11 a12
 obtain ⟨q6, c6, rfl, _⟩ := id a6
 obtain ⟨q7, c7, rfl, _⟩ := id a7
 obtain ⟨q8, c8, rfl, _⟩ := id a8
 obtain ⟨q9, c9, rfl, _⟩ := id a9
 obtain ⟨q10, c10, rfl, _⟩ := id a10
 obtain ⟨q11, c11, rfl, _⟩ := id a11
 obtain ⟨q12, c12, rfl, _⟩ := id a12
 obtain ⟨i6, i7, i8, i9, i10, i11, i12, iq⟩ := id hs
 have m6 := a6.memB [] (by simp)
 have m10 := a10.memB [] (by simp)
 have l3 := hsi.len
 have l4 := hdi.len
 have e1 : seg (ipC src) 0 16 = some (ipC src) := Zbw (ZaU hsi.len)
 have e2 : seg (ipC dst) 0 16 = some (ipC dst) := Zbw (ZaU hdi.len)
 have hz : Za2 [(0, 17), (17, 17), (34, 1)] dvZ [] = some (dvC dvN) := rfl
 have hdN := ZgJ
 refine Zao (n := 109) (S := []) Zal Zak Tryz.func47 rfl rfl rfl (gR 2 rfl (ZaA rfl rfl fun b6 => ZaA rfl rfl fun b8 => ZaA rfl rfl fun b9 => ZaA rfl rfl fun b10 => gR 1 rfl (Zat fun b13 => gR 4 rfl ?_)))
 refine ZcD (ι := Unit) ⟨fun _ => ZaR s = true ∧ (marked && !Zcs mark) = false, fun _ => [(1, .int .i64 now), (5, .bool marked), (6, .pointer (some ⟨b6, 0, none⟩)), (8, .pointer (some ⟨b8, 0, none⟩)), (9, .pointer (some ⟨b9, 0, none⟩)), (10, .pointer (some ⟨b10, 0, none⟩)), (13, .pointer (some ⟨b13, 0, none⟩))], fun _ => [[(b13, Obj.cells (dvZ).toArray 67 (0, 0))], [(b10, Obj.cells (dvC mark).toArray 67 (0, 0))], [(b9, Obj.cells (ipC dst).toArray 63 (0, 0))], [(b8, Obj.cells (ipC src).toArray 63 (0, 0))], [(b6, Obj.cells (rtC s ⟨.slice q6 s.og.length c6, .slice q7 s.aj.length c7, .slice q8 s.sr.length c8, .slice q9 s.ro.length c9, .slice q10 s.ins.length c10, .slice q11 s.rq.length c11, .slice q12 s.av.length c12⟩).toArray 53 (0, 0))]]⟩ ?_ ?_
 ·refine gR 2 rfl ?_
  refine Zah 4 rfl rfl rfl ?_
  refine Zad (v := .bool (ZaR s)) rfl rfl (fun w M => Zij s _ hs w (h.later M.ext)) ?_
  cases hv : ZaR s
  ·refine gR 14 rfl ?_
   refine g_v (fun a w F M R r => Zaw F rfl ‹_› r) ?_
   refine gR 1 rfl (Zas 0 rfl rfl (Zaz ‹_›) (Zbq _) rfl (Zag (by rw [Zaz ‹_›];first | rfl | rw [Zaz ‹_›])) rfl ?_)
   refine gR 4 rfl (g_jR (gR 1 rfl (Zcb 0 rfl rfl rfl rfl (ZaO ‹_›) rfl rfl fun w M => ?_)))
   exact ZcS (Zrs hv) M.ext
  ·refine gR 4 rfl ?_
   refine Zan 28 rfl (fun h1 => ?_) (fun h1 => ?_)
   ·refine Zah 1 rfl rfl (ZaO ‹_›) ?_
    refine Zad rfl rfl (fun w M => ZcI _ ‹_› _) ?_
    refine gR 5 rfl (g_if rfl (fun h2 => ?_) (fun h2 => ?_))
    ·replace h2 := Zaa h2
     refine gR 2 rfl (g_v (fun a w F M R r => Zaw F rfl ‹_› r) ?_)
     refine gR 1 rfl (Zas 0 rfl rfl (Zaz ‹_›) (Zbq _) rfl (Zag (by rw [Zaz ‹_›];first | rfl | rw [Zaz ‹_›])) rfl ?_)
     refine gR 4 rfl (g_jR (gR 1 rfl (Zcb 0 rfl rfl rfl rfl (ZaO ‹_›) rfl rfl fun w M => ?_)))
     exact ZcS (ZoC ‹_› ‹_›) M.ext
    ·replace h2 := Zac h2
     exact gR 1 rfl (Za6 () ⟨rfl, by simp [*]⟩ (fun a F => F.only [1, 5, 6, 8, 9, 10, 13] rfl) (sX 17179869183 rfl))
   ·exact gR 9 rfl (Za6 () ⟨rfl, by simp [*]⟩ (fun a F => F.only [1, 5, 6, 8, 9, 10, 13] rfl) (sX 17179869183 rfl))
 rintro _ ⟨hv, hmm⟩
 have hvo := (ZeH hv).1
 have hvi := (ZeH hv).2.1
 have hil := Zed hvi
 have hol : s.og.length ≤ 8 := (ZcB.1 hvo).1
 cases ht : Za5 now
 ·refine gR 5 rfl ?_
  refine Zad rfl rfl (fun w M => Zc8 _ _) (gR 3 rfl (ZaE rfl (notT ‹_›) ?_))
  refine gR 2 rfl (g_v (fun a w F M R r => Zaw F rfl ‹_› r) ?_)
  refine gR 1 rfl (Zas 0 rfl rfl (Zaz ‹_›) (Zbq _) rfl (Zag (by rw [Zaz ‹_›];first | rfl | rw [Zaz ‹_›])) rfl ?_)
  refine gR 5 rfl (Zcb 0 rfl rfl rfl rfl (ZaO ‹_›) rfl rfl fun w M => ?_)
  exact ZcS (ZoA hv hmm ht) M.ext
 by_cases hq : now < s.quiet
 ·have hq1 := dqT hq
  refine gR 5 rfl (Zad rfl rfl (fun w M => Zc8 _ _) (gR 3 rfl (Zav rfl (notF ‹_›) ?_)))
  refine gR 7 rfl (Zai 4 rfl rfl rfl (gR 3 rfl (ZaE rfl (dqT (by omega)) (gR 2 rfl (g_v (fun a w F M R r => Zaw F rfl ‹_› r) ?_)))))
  refine gR 1 rfl (Zas 0 rfl rfl (Zaz ‹_›) (Zbq _) rfl (Zag (by rw [Zaz ‹_›];first | rfl | rw [Zaz ‹_›])) rfl ?_)
  refine gR 5 rfl (Zcb 0 rfl rfl rfl rfl (ZaO ‹_›) rfl rfl fun w M => ?_)
  exact ZcS (Zl0 hv hmm ht hq) M.ext
 have hq1 := dqF hq
 rw [ZoB hv hmm ht hq]
 refine gR 5 rfl (Zad rfl rfl (fun w M => Zc8 _ _) (gR 3 rfl (Zav rfl (notF ‹_›) ?_)))
 refine gR 7 rfl (Zai 4 rfl rfl rfl (gR 3 rfl (Zav rfl (dqF (by omega)) (gR 4 rfl (ZqB (us := [.pointer (some ⟨b9, 0, none⟩), .pointer (some ⟨b8, 0, none⟩)]) rfl rfl (Zat fun b15 => Zb8 0 rfl rfl rfl rfl rfl rfl (gR 4 rfl (Zat fun b16 => gR 6 rfl (Zai 6 rfl rfl rfl (gR 5 rfl ?_))))))))))
 clear hq hq1 ht hmm hvo
 refine Za1 (ι := Nat × DstV) ⟨fun (i, ow) => s.og.length - i, fun (i, ow) => i ≤ s.og.length ∧ (ow = Zlb s src dst i) ∧ (IsDv ow), fun (i, ow) => [(48, .int .i64 i), (47, .int .i64 s.og.length), (46, .slice q6 s.og.length c6), (5, .bool marked), (6, .pointer (some ⟨b6, 0, none⟩)), (8, .pointer (some ⟨b8, 0, none⟩)), (9, .pointer (some ⟨b9, 0, none⟩)), (10, .pointer (some ⟨b10, 0, none⟩)), (13, .pointer (some ⟨b13, 0, none⟩)), (15, .pointer (some ⟨b15, 0, none⟩)), (16, .pointer (some ⟨b16, 0, none⟩))], fun (i, ow) => [[(b16, Obj.cells (dvC ow).toArray 67 (0, 0))], [(b15, Obj.cells ([Value.func (.func 126) #[] #[.pointer (some ⟨b9, 0, none⟩), .pointer (some ⟨b8, 0, none⟩)]]).toArray 145 (0, 0))], [(b13, Obj.cells (dvZ).toArray 67 (0, 0))], [(b10, Obj.cells (dvC mark).toArray 67 (0, 0))], [(b9, Obj.cells (ipC dst).toArray 63 (0, 0))], [(b8, Obj.cells (ipC src).toArray 63 (0, 0))], [(b6, Obj.cells (rtC s ⟨.slice q6 s.og.length c6, .slice q7 s.aj.length c7, .slice q8 s.sr.length c8, .slice q9 s.ro.length c9, .slice q10 s.ins.length c10, .slice q11 s.rq.length c11, .slice q12 s.av.length c12⟩).toArray 53 (0, 0))]]⟩ (0, dvN) ⟨by omega, rfl, ZgJ⟩ (fun a F => F.only [48, 47, 46, 5, 6, 8, 9, 10, 13, 15, 16] rfl) (sX 17179869183 rfl) ?_
 rintro ⟨i, ow⟩ ⟨hi_i, hw, hwd⟩
 dsimp only
 by_cases hlt_i : i < s.og.length
 ·obtain ⟨b, o, cs, t', fz, rfl, hb, hs⟩ := m6 (by omega)
  obtain ⟨x, hx0⟩ : ∃ x, x = s.og[i] := ⟨_, rfl⟩
  have hxm : x ∈ s.og := by rw [hx0];exact List.getElem_mem hlt_i
  have hxi : IsOg x := i6 _ hxm
  have f1 : seg cs (o + (i : Int).toNat * 34) 34 = some (ogC x) := by rw [hx0];exact Za0 (ZdK i6) hs hlt_i (by omega)
  replace hx0 := hx0.symm
  have xd : IsDv (orgD s.self x) := ZkS hxi
  have hst := ZiI (src := src) (dst := dst) hlt_i hx0
  rw [← hw] at hst
  clear hw hx0
  refine gR 6 rfl (ZaE rfl (dqT (by omega)) (gR 6 rfl (Zbk rfl rfl (by omega) (by omega) (ZbF rfl ‹_› (by with_reducible assumption) ?_))))
  refine Zat fun b18 => Zas 0 rfl rfl (Zbl ‹_›) (ZcT _) rfl (Zag (by rw [Zbl ‹_›];first | rfl | rw [Zbl ‹_›])) rfl ?_
  refine gR 5 rfl (Zai 7 rfl rfl rfl (Zah 0 rfl rfl (Zdr ‹_›) ?_))
  refine Zad rfl rfl (fun w M => Zhp _ _ ‹_› _) ?_
  refine Zat fun b19 => Zas 0 rfl rfl (Zaz ‹_›) (Zbq _) rfl (Zag (by rw [Zaz ‹_›];first | rfl | rw [Zaz ‹_›])) rfl ?_
  refine gR 4 rfl (Zai 3 rfl rfl rfl (Zah 0 rfl rfl (ZaO ‹_›) ?_))
  refine ZgZ (v := .bool (Zci (orgD s.self x) src dst)) rfl rfl (fun w2 M => Zrr (orgD s.self x) xd src dst hsi hdi w2 (M.at_ _ (Zae (i := 6) rfl)) (M.at_ _ (Zae (i := 7) rfl))) (gR 1 rfl (Zan 59 rfl (fun h1 => ?_) (fun h1 => ?_)))
  ·refine gR 1 rfl (Zai 2 rfl rfl (Zdz ‹_›) ?_)
   refine gR 2 rfl (Zan 63 rfl (fun h2 => ?_) (fun h2 => ?_))
   ·replace h2 := dqU h2
    refine gR 10 rfl (Zah 0 rfl rfl (ZaO ‹_›) ?_)
    refine Zas 2 rfl rfl (Zaz ‹_›) (Zbq _) rfl (Zag (by rw [Zaz ‹_›];first | rfl | rw [Zaz ‹_›])) rfl ?_
    refine gR 4 rfl (ZaK rfl rfl (Zax (by omega) (by omega)) (gR 2 rfl ?_))
    exact Zar (i + 1, orgD s.self x) ⟨by dsimp only;omega, by rw [hst, Zou ‹_› (show ow.rt = 0 by assumption)], xd⟩ (by dsimp only;omega) (fun a F => F.only [48, 47, 46, 5, 6, 8, 9, 10, 13, 15, 16] rfl) (sX 17179869180 rfl)
   ·replace h2 := dqV h2
    refine Zah 0 rfl rfl (ZaO ‹_›) ?_
    refine Zah 2 rfl rfl (ZaO ‹_›) ?_
    refine Zad rfl rfl (fun w M => Zji _ _ ‹_› ‹_› _) ?_
    refine gR 5 rfl (g_if rfl (fun h3 => ?_) (fun h3 => ?_))
    ·replace h3 := dqU h3
     refine gR 1 rfl (Zah 0 rfl rfl (ZaO ‹_›) ?_)
     refine Zas 2 rfl rfl (Zaz ‹_›) (Zbq _) rfl (Zag (by rw [Zaz ‹_›];first | rfl | rw [Zaz ‹_›])) rfl ?_
     refine gR 4 rfl (ZaK rfl rfl (Zax (by omega) (by omega)) (gR 2 rfl ?_))
     exact Zar (i + 1, orgD s.self x) ⟨by dsimp only;omega, by rw [hst, Zos ‹_› (show 0 < ZbL (orgD s.self x) ow by assumption)], xd⟩ (by dsimp only;omega) (fun a F => F.only [48, 47, 46, 5, 6, 8, 9, 10, 13, 15, 16] rfl) (sX 17179869180 rfl)
    ·replace h3 := dqV h3
     refine gR 4 rfl (ZaK rfl rfl (Zax (by omega) (by omega)) (gR 2 rfl ?_))
     exact Zar (i + 1, ow) ⟨by dsimp only;omega, by rw [hst, Zot (show ¬ ow.rt = 0 by assumption) (show ¬ 0 < ZbL (orgD s.self x) ow by assumption)], hwd⟩ (by dsimp only;omega) (fun a F => F.only [48, 47, 46, 5, 6, 8, 9, 10, 13, 15, 16] rfl) (sX 17179869180 rfl)
  ·refine gR 17 rfl (ZaK rfl rfl (Zax (by omega) (by omega)) (gR 2 rfl ?_))
   exact Zar (i + 1, ow) ⟨by dsimp only;omega, by rw [hst, Zrq ‹_›], hwd⟩ (by dsimp only;omega) (fun a F => F.only [48, 47, 46, 5, 6, 8, 9, 10, 13, 15, 16] rfl) (sX 17179869180 rfl)
 ·have hil2 : i = s.og.length := by omega
  rw [hil2, Zkf] at hw
  rw [← hw]
  clear hw hil2
  refine gR 6 rfl (Zav rfl (dqF (by omega)) (gR 2 rfl (ZaZ (gR 4 rfl (ZqB (us := [.pointer (some ⟨b15, 0, none⟩), .pointer (some ⟨b16, 0, none⟩)]) rfl rfl (gR 4 rfl (gR 1 rfl ?_)))))))
  refine ZcD (ι := Unit) ⟨fun _ => True, fun _ => [(81, .bool (decide (ow.rt = 0) || s.ins.any (nrV ow src dst))), (5, .bool marked), (6, .pointer (some ⟨b6, 0, none⟩)), (8, .pointer (some ⟨b8, 0, none⟩)), (9, .pointer (some ⟨b9, 0, none⟩)), (10, .pointer (some ⟨b10, 0, none⟩)), (13, .pointer (some ⟨b13, 0, none⟩)), (15, .pointer (some ⟨b15, 0, none⟩)), (16, .pointer (some ⟨b16, 0, none⟩))], fun _ => [[(b16, Obj.cells (dvC ow).toArray 67 (0, 0))], [(b15, Obj.cells ([Value.func (.func 126) #[] #[.pointer (some ⟨b9, 0, none⟩), .pointer (some ⟨b8, 0, none⟩)]]).toArray 145 (0, 0))], [(b13, Obj.cells (dvZ).toArray 67 (0, 0))], [(b10, Obj.cells (dvC mark).toArray 67 (0, 0))], [(b9, Obj.cells (ipC dst).toArray 63 (0, 0))], [(b8, Obj.cells (ipC src).toArray 63 (0, 0))], [(b6, Obj.cells (rtC s ⟨.slice q6 s.og.length c6, .slice q7 s.aj.length c7, .slice q8 s.sr.length c8, .slice q9 s.ro.length c9, .slice q10 s.ins.length c10, .slice q11 s.rq.length c11, .slice q12 s.av.length c12⟩).toArray 53 (0, 0))]]⟩ ?_ ?_
  ·cases hc : decide (ow.rt = 0)
   ·refine gR 2 rfl ?_
    refine Zai 0 rfl rfl (Zdz ‹_›) ?_
    refine gR 2 rfl (ZaQ 76 rfl ‹_› ?_)
    exact gR 1 rfl (Zai 6 rfl rfl rfl (gR 1 rfl (Zad (v := .bool (s.ins.any (nrV ow src dst))) rfl rfl (fun w2 M => ZrA s.ins i10 _ w2 (a10.later M.ext) hil _ _ (nrV ow src dst) fun w3 y E hy => ZtP y (i10 y hy) ow hwd src dst hsi hdi w3 (Zcz E (M.at_ _ (Zae (i := 1) rfl))) (Zcz E (M.at_ _ (Zae (i := 0) rfl))) (Zcz E (M.at_ _ (Zae (i := 4) rfl))) (Zcz E (M.at_ _ (Zae (i := 5) rfl)))) (gR 2 rfl (Za6 () trivial (fun a F => F.only [81, 5, 6, 8, 9, 10, 13, 15, 16] rfl) (sX 17179869183 rfl))))))
   ·refine gR 2 rfl ?_
    refine Zai 0 rfl rfl (Zdz ‹_›) ?_
    refine gR 2 rfl (ZaQ 76 rfl ‹_› ?_)
    exact gR 6 rfl (Za6 () trivial (fun a F => F.only [81, 5, 6, 8, 9, 10, 13, 15, 16] rfl) (sX 17179869183 rfl))
  rintro _ _
  cases hca : (decide (ow.rt = 0) || s.ins.any (nrV ow src dst))
  ·rw [if_neg (by simp)]
   refine gR 9 rfl (Zan 101 rfl (fun h1 => ?_) (fun h1 => ?_))
   ·refine Zah 0 rfl rfl (ZaO ‹_›) ?_
    refine Zah 3 rfl rfl (ZaO ‹_›) ?_
    refine Zad rfl rfl (fun w M => Zji _ _ ‹_› ‹_› _) ?_
    refine gR 4 rfl (g_if rfl (fun h2 => ?_) (fun h2 => ?_))
    ·replace h2 := dqU h2
     refine gR 2 rfl (g_v (fun a w F M R r => Zaw F rfl ‹_› r) ?_)
     refine gR 1 rfl (Zas 2 rfl rfl (Zaz ‹_›) (Zbq _) rfl (Zag (by rw [Zaz ‹_›];first | rfl | rw [Zaz ‹_›])) rfl ?_)
     refine gR 5 rfl (Zcb 2 rfl rfl rfl rfl (ZaO ‹_›) rfl rfl fun w M => ?_)
     exact ZcS (show fwdO ow mark marked = _ by unfold fwdO;simp [*]) M.ext
    ·replace h2 := dqV h2
     refine gR 3 rfl (ZaG 2 109 rfl (by kernel_rfl) (ZaN 0 rfl rfl (ZaO ‹_›) ?_))
     refine fR 1 rfl (Zap rfl rfl (Zas 2 rfl rfl (Zaz ‹_›) (Zbq _) rfl (Zag (by rw [Zaz ‹_›];first | rfl | rw [Zaz ‹_›])) rfl ?_))
     refine gR 4 rfl (Zcb 2 rfl rfl rfl rfl (ZaO ‹_›) rfl rfl fun w M => ?_)
     exact ZcS (show fwdO ow mark marked = _ by unfold fwdO;simp [*]) M.ext
   ·refine gR 11 rfl (ZaG 2 109 rfl (by kernel_rfl) (ZaN 0 rfl rfl (ZaO ‹_›) ?_))
    refine fR 1 rfl (Zap rfl rfl (Zas 2 rfl rfl (Zaz ‹_›) (Zbq _) rfl (Zag (by rw [Zaz ‹_›];first | rfl | rw [Zaz ‹_›])) rfl ?_))
    refine gR 4 rfl (Zcb 2 rfl rfl rfl rfl (ZaO ‹_›) rfl rfl fun w M => ?_)
    exact ZcS (show fwdO ow mark marked = _ by unfold fwdO;simp [*]) M.ext
  ·rw [if_pos rfl]
   refine gR 5 rfl (Zai 6 rfl rfl rfl (Zah 5 rfl rfl (by with_reducible assumption) ?_))
   refine Zah 4 rfl rfl (by with_reducible assumption) ?_
   refine Zah 3 rfl rfl (ZaO ‹_›) ?_
   refine gR 1 rfl (Zad (v := .tuple [.agg (inC (Zdx s.ins src dst mark marked).1).toArray, .int .i64 (Zdx s.ins src dst mark marked).2].toArray) rfl rfl (fun w2 M => Zoe s.ins i10 _ src dst hsi hdi mark hmk marked w2 (a10.later M.ext)) ?_)
   have hli := Zje i10 (src := src) (dst := dst) (mark := mark) (marked := marked)
   generalize Zdx s.ins src dst mark marked = r at hli ⊢
   obtain ⟨y, e⟩ := r
   dsimp only at hli ⊢
   by_cases he : e = 0
   ·have he1 := dqT he
    have he2 : (!decide (e = 0)) = false := by simp [he]
    refine gR 3 rfl (Zat fun b21 => Zas 0 rfl rfl (Zaj ‹_›) (ZaY _) rfl (Zag (by rw [Zaj ‹_›];first | rfl | rw [Zaj ‹_›])) rfl ?_)
    refine gR 10 rfl (Zav rfl (bneF (by omega)) (gR 3 rfl (ZaG 5 109 rfl (by kernel_rfl) (fR 1 rfl (ZaW 0 rfl rfl (ZgO ‹_›) ?_)))))
    refine fR 1 rfl (ZaN 0 rfl rfl (Zcy ‹_›) ?_)
    refine fR 1 rfl (Zap rfl rfl ?_)
    refine Zas 3 rfl rfl (Zaz (And.left ‹_›)) (Zbq _) rfl (Zag (by rw [Zaz (And.left ‹_›)];first | rfl | rw [Zaz ‹_›])) rfl ?_
    refine gR 5 rfl (Zcb 3 rfl rfl rfl rfl (ZaO (And.left ‹_›)) rfl rfl fun w M => ?_)
    exact ZcS (by unfold fwdN;rw [if_pos he]) M.ext
   ·have he1 := dqF he
    have he2 : (!decide (e = 0)) = true := by simp [he]
    refine gR 3 rfl (Zat fun b21 => Zas 0 rfl rfl (Zaj ‹_›) (ZaY _) rfl (Zag (by rw [Zaj ‹_›];first | rfl | rw [Zaj ‹_›])) rfl ?_)
    refine gR 10 rfl (ZaE rfl (bne_iff_ne.2 (by omega)) (gR 2 rfl (g_v (fun a w F M R r => Zaw F rfl ‹_› r) ?_)))
    refine gR 2 rfl (Zas 3 rfl rfl (Zaz ‹_›) (Zbq _) rfl (Zag (by rw [Zaz ‹_›];first | rfl | rw [Zaz ‹_›])) rfl ?_)
    refine gR 6 rfl (Zcb 3 rfl rfl rfl rfl (ZaO ‹_›) rfl rfl fun w M => ?_)
    exact ZcS (by unfold fwdN;rw [if_neg he]) M.ext
theorem ZjO (s : RtV) (x : RtX) (now : Int) (W : World) : Cal Tryz.prog 131 [.agg (rtC s x).toArray, .int .i64 now].toArray W fun v w' => v = .bool (decide (now < s.quiet)) ∧ Ext [] W w' := by
 cases h1 : decide (now < s.quiet)
 ·refine Zao (n := 9) (S := []) Zal Zak Tryz.func131 rfl rfl rfl ?_
  exact gR 2 rfl (ZaA rfl rfl fun b2 => gR 7 rfl (Zai 0 rfl rfl rfl (gR 5 rfl (Zab rfl rfl rfl fun w M => ⟨by simp [*], M.ext⟩))))
 ·refine Zao (n := 9) (S := []) Zal Zak Tryz.func131 rfl rfl rfl ?_
  exact gR 2 rfl (ZaA rfl rfl fun b2 => gR 7 rfl (Zai 0 rfl rfl rfl (gR 5 rfl (Zab rfl rfl rfl fun w M => ⟨by simp [*], M.ext⟩))))
theorem Zmv (s : RtV) (x : RtX) (hs : IsRt s) (now : Int) (src dst : List Int) (hsi : IsIP src) (hdi : IsIP dst) (mark : DstV) (hmk : IsDv mark) (marked : Bool) (W : World) (h : RtAt W s x) : Cal Tryz.prog 48 [.agg (rtC s x).toArray, .int .i64 now, .agg (ipC src).toArray, .agg (ipC dst).toArray, .agg (dvC mark).toArray, .bool marked].toArray W fun r w' => r = .tuple #[.int .u64 (fwdV s now src dst mark marked).1, .agg (dvC (fwdV s now src dst mark marked).2.1).toArray, .int .i64 (fwdV s now src dst mark marked).2.2] ∧ Ext [] W w' := by
 obtain ⟨v6, v7, v8, v9, v10, v11, v12⟩ := x
 obtain ⟨a6, a7, a8, a9, a10, a11, a12⟩ := id h
 dsimp only at a6 a7 a8 a9 a10 a11 a12
 obtain ⟨q6, c6, rfl, _⟩ := id a6
 obtain ⟨q7, c7, rfl, _⟩ := id a7
 obtain ⟨q8, c8, rfl, _⟩ := id a8
 obtain ⟨q9, c9, rfl, _⟩ := id a9
 obtain ⟨q10, c10, rfl, _⟩ := id a10
 obtain ⟨q11, c11, rfl, _⟩ := id a11
 obtain ⟨q12, c12, rfl, _⟩ := id a12
 obtain ⟨i6, i7, i8, i9, i10, i11, i12, iq⟩ := id hs
 have m6 := a6.memB [] (by simp)
 have m10 := a10.memB [] (by simp)
 have l3 := hsi.len
 have l4 := hdi.len
 have e1 : seg (ipC src) 0 16 = some (ipC src) := Zbw (ZaU hsi.len)
 have e2 : seg (ipC dst) 0 16 = some (ipC dst) := Zbw (ZaU hdi.len)
 have hz : Za2 [(0, 17), (17, 17), (34, 1)] dvZ [] = some (dvC dvN) := rfl
 have hdN := ZgJ
 refine Zao (n := 134) (S := []) Zal Zak Tryz.func48 rfl rfl rfl (gR 2 rfl (ZaA rfl rfl fun b6 => ZaA rfl rfl fun b8 => ZaA rfl rfl fun b9 => ZaA rfl rfl fun b10 => gR 1 rfl (Zat fun b13 => gR 4 rfl ?_)))
 refine ZcD (ι := Unit) ⟨fun _ => ZaR s = true ∧ (marked && !Zcs mark) = false, fun _ => [(1, .int .i64 now), (5, .bool marked), (6, .pointer (some ⟨b6, 0, none⟩)), (8, .pointer (some ⟨b8, 0, none⟩)), (9, .pointer (some ⟨b9, 0, none⟩)), (10, .pointer (some ⟨b10, 0, none⟩)), (13, .pointer (some ⟨b13, 0, none⟩))], fun _ => [[(b13, Obj.cells (dvZ).toArray 67 (0, 0))], [(b10, Obj.cells (dvC mark).toArray 67 (0, 0))], [(b9, Obj.cells (ipC dst).toArray 63 (0, 0))], [(b8, Obj.cells (ipC src).toArray 63 (0, 0))], [(b6, Obj.cells (rtC s ⟨.slice q6 s.og.length c6, .slice q7 s.aj.length c7, .slice q8 s.sr.length c8, .slice q9 s.ro.length c9, .slice q10 s.ins.length c10, .slice q11 s.rq.length c11, .slice q12 s.av.length c12⟩).toArray 53 (0, 0))]]⟩ ?_ ?_
 ·refine gR 2 rfl ?_
  refine Zah 4 rfl rfl rfl ?_
  refine Zad (v := .bool (ZaR s)) rfl rfl (fun w M => ZgC s _ hs w (h.later M.ext)) ?_
  cases hv : ZaR s
  ·refine gR 14 rfl ?_
   refine g_v (fun a w F M R r => Zaw F rfl ‹_› r) ?_
   refine gR 1 rfl (Zas 0 rfl rfl (Zaz ‹_›) (Zbq _) rfl (Zag (by rw [Zaz ‹_›];first | rfl | rw [Zaz ‹_›])) rfl ?_)
   refine gR 4 rfl (g_jR (gR 1 rfl (Zcb 0 rfl rfl rfl rfl (ZaO ‹_›) rfl rfl fun w M => ?_)))
   exact ZcS (Zrs hv) M.ext
  ·refine gR 4 rfl ?_
   refine Zan 29 rfl (fun h1 => ?_) (fun h1 => ?_)
   ·refine Zah 1 rfl rfl (ZaO ‹_›) ?_
    refine Zad rfl rfl (fun w M => Zbg _ ‹_› _) ?_
    refine gR 5 rfl (g_if rfl (fun h2 => ?_) (fun h2 => ?_))
    ·replace h2 := Zaa h2
     refine gR 2 rfl (g_v (fun a w F M R r => Zaw F rfl ‹_› r) ?_)
     refine gR 1 rfl (Zas 0 rfl rfl (Zaz ‹_›) (Zbq _) rfl (Zag (by rw [Zaz ‹_›];first | rfl | rw [Zaz ‹_›])) rfl ?_)
     refine gR 4 rfl (g_jR (gR 1 rfl (Zcb 0 rfl rfl rfl rfl (ZaO ‹_›) rfl rfl fun w M => ?_)))
     exact ZcS (ZoC ‹_› ‹_›) M.ext
    ·replace h2 := Zac h2
     exact gR 1 rfl (Za6 () ⟨rfl, by simp [*]⟩ (fun a F => F.only [1, 5, 6, 8, 9, 10, 13] rfl) (sX 17179869183 rfl))
   ·exact gR 9 rfl (Za6 () ⟨rfl, by simp [*]⟩ (fun a F => F.only [1, 5, 6, 8, 9, 10, 13] rfl) (sX 17179869183 rfl))
 rintro _ ⟨hv, hmm⟩
 have hvo := (ZeH hv).1
 have hvi := (ZeH hv).2.1
 have hil := Zed hvi
 have hol : s.og.length ≤ 8 := (ZcB.1 hvo).1
 cases ht : Za5 now
 ·refine gR 5 rfl ?_
  refine Zad rfl rfl (fun w M => Zbd _ _) (gR 3 rfl (ZaE rfl (notT ‹_›) ?_))
  refine gR 2 rfl (g_v (fun a w F M R r => Zaw F rfl ‹_› r) ?_)
  refine gR 1 rfl (Zas 0 rfl rfl (Zaz ‹_›) (Zbq _) rfl (Zag (by rw [Zaz ‹_›];first | rfl | rw [Zaz ‹_›])) rfl ?_)
  refine gR 5 rfl (Zcb 0 rfl rfl rfl rfl (ZaO ‹_›) rfl rfl fun w M => ?_)
  exact ZcS (ZoA hv hmm ht) M.ext
 by_cases hq : now < s.quiet
 ·have hq1 := dqT hq
  refine gR 5 rfl (Zad rfl rfl (fun w M => Zbd _ _) (gR 3 rfl (Zav rfl (notF ‹_›) ?_)))
  refine gR 5 rfl (Zah 4 rfl rfl rfl ?_)
  refine gR 1 rfl (Zad rfl rfl (fun w M => ZjO _ _ _ _) (gR 2 rfl (ZaE rfl (dqT (by omega)) (gR 2 rfl (g_v (fun a w F M R r => Zaw F rfl ‹_› r) ?_)))))
  refine gR 1 rfl (Zas 0 rfl rfl (Zaz ‹_›) (Zbq _) rfl (Zag (by rw [Zaz ‹_›];first | rfl | rw [Zaz ‹_›])) rfl ?_)
  refine gR 5 rfl (Zcb 0 rfl rfl rfl rfl (ZaO ‹_›) rfl rfl fun w M => ?_)
  exact ZcS (Zl0 hv hmm ht hq) M.ext
 have hq1 := dqF hq
 rw [ZoB hv hmm ht hq]
 refine gR 5 rfl (Zad rfl rfl (fun w M => Zbd _ _) (gR 3 rfl (Zav rfl (notF ‹_›) ?_)))
 refine gR 5 rfl (Zah 4 rfl rfl rfl ?_)
 refine gR 1 rfl (Zad rfl rfl (fun w M => ZjO _ _ _ _) (gR 2 rfl (Zav rfl (dqF (by omega)) (gR 4 rfl (Zat fun b15 => gR 6 rfl (Zai 5 rfl rfl rfl (gR 5 rfl ?_)))))))
 clear hq hq1 ht hmm hvo
 refine Za1 (ι := Nat × DstV) ⟨fun (i, ow) => s.og.length - i, fun (i, ow) => i ≤ s.og.length ∧ (ow = Zlb s src dst i) ∧ (IsDv ow), fun (i, ow) => [(47, .int .i64 i), (46, .int .i64 s.og.length), (45, .slice q6 s.og.length c6), (5, .bool marked), (6, .pointer (some ⟨b6, 0, none⟩)), (8, .pointer (some ⟨b8, 0, none⟩)), (9, .pointer (some ⟨b9, 0, none⟩)), (10, .pointer (some ⟨b10, 0, none⟩)), (13, .pointer (some ⟨b13, 0, none⟩)), (15, .pointer (some ⟨b15, 0, none⟩))], fun (i, ow) => [[(b15, Obj.cells (dvC ow).toArray 67 (0, 0))], [(b13, Obj.cells (dvZ).toArray 67 (0, 0))], [(b10, Obj.cells (dvC mark).toArray 67 (0, 0))], [(b9, Obj.cells (ipC dst).toArray 63 (0, 0))], [(b8, Obj.cells (ipC src).toArray 63 (0, 0))], [(b6, Obj.cells (rtC s ⟨.slice q6 s.og.length c6, .slice q7 s.aj.length c7, .slice q8 s.sr.length c8, .slice q9 s.ro.length c9, .slice q10 s.ins.length c10, .slice q11 s.rq.length c11, .slice q12 s.av.length c12⟩).toArray 53 (0, 0))]]⟩ (0, dvN) ⟨by omega, rfl, ZgJ⟩ (fun a F => F.only [47, 46, 45, 5, 6, 8, 9, 10, 13, 15] rfl) (sX 17179869183 rfl) ?_
 rintro ⟨i, ow⟩ ⟨hi_i, hw, hwd⟩
 dsimp only
 by_cases hlt_i : i < s.og.length
 ·obtain ⟨b, o, cs, t', fz, rfl, hb, hs⟩ := m6 (by omega)
  obtain ⟨x, hx0⟩ : ∃ x, x = s.og[i] := ⟨_, rfl⟩
  have hxm : x ∈ s.og := by rw [hx0];exact List.getElem_mem hlt_i
  have hxi : IsOg x := i6 _ hxm
  have f1 : seg cs (o + (i : Int).toNat * 34) 34 = some (ogC x) := by rw [hx0];exact Za0 (ZdK i6) hs hlt_i (by omega)
  replace hx0 := hx0.symm
  have xd : IsDv (orgD s.self x) := ZkS hxi
  have hst := ZiI (src := src) (dst := dst) hlt_i hx0
  rw [← hw] at hst
  clear hw hx0
  refine gR 6 rfl (ZaE rfl (dqT (by omega)) (gR 6 rfl (Zbk rfl rfl (by omega) (by omega) (ZbF rfl ‹_› (by with_reducible assumption) ?_))))
  refine Zat fun b17 => Zas 0 rfl rfl (Zbl ‹_›) (ZcT _) rfl (Zag (by rw [Zbl ‹_›];first | rfl | rw [Zbl ‹_›])) rfl ?_
  refine gR 5 rfl (Zai 6 rfl rfl rfl (Zah 0 rfl rfl (Zdr ‹_›) ?_))
  refine Zad rfl rfl (fun w M => Zex _ _ ‹_› _) ?_
  refine Zat fun b18 => Zas 0 rfl rfl (Zaz ‹_›) (Zbq _) rfl (Zag (by rw [Zaz ‹_›];first | rfl | rw [Zaz ‹_›])) rfl ?_
  refine gR 4 rfl (Zah 0 rfl rfl (ZaO ‹_›) ?_)
  refine Zah 6 rfl rfl (by with_reducible assumption) ?_
  refine Zah 5 rfl rfl (by with_reducible assumption) ?_
  refine Zad rfl rfl (fun w M => Zhs _ ‹_› _ _ ‹_› ‹_› _) ?_
  refine gR 1 rfl (Zan 59 rfl (fun h1 => ?_) (fun h1 => ?_))
  ·refine gR 1 rfl (Zai 2 rfl rfl (Zdz ‹_›) ?_)
   refine gR 2 rfl (Zan 63 rfl (fun h2 => ?_) (fun h2 => ?_))
   ·replace h2 := dqU h2
    refine gR 10 rfl (Zah 0 rfl rfl (ZaO ‹_›) ?_)
    refine Zas 2 rfl rfl (Zaz ‹_›) (Zbq _) rfl (Zag (by rw [Zaz ‹_›];first | rfl | rw [Zaz ‹_›])) rfl ?_
    refine gR 4 rfl (ZaK rfl rfl (Zax (by omega) (by omega)) (gR 2 rfl ?_))
    exact Zar (i + 1, orgD s.self x) ⟨by dsimp only;omega, by rw [hst, Zou ‹_› (show ow.rt = 0 by assumption)], xd⟩ (by dsimp only;omega) (fun a F => F.only [47, 46, 45, 5, 6, 8, 9, 10, 13, 15] rfl) (sX 17179869180 rfl)
   ·replace h2 := dqV h2
    refine Zah 0 rfl rfl (ZaO ‹_›) ?_
    refine Zah 2 rfl rfl (ZaO ‹_›) ?_
    refine Zad rfl rfl (fun w M => ZdH _ _ ‹_› ‹_› _) ?_
    refine gR 5 rfl (g_if rfl (fun h3 => ?_) (fun h3 => ?_))
    ·replace h3 := dqU h3
     refine gR 1 rfl (Zah 0 rfl rfl (ZaO ‹_›) ?_)
     refine Zas 2 rfl rfl (Zaz ‹_›) (Zbq _) rfl (Zag (by rw [Zaz ‹_›];first | rfl | rw [Zaz ‹_›])) rfl ?_
     refine gR 4 rfl (ZaK rfl rfl (Zax (by omega) (by omega)) (gR 2 rfl ?_))
     exact Zar (i + 1, orgD s.self x) ⟨by dsimp only;omega, by rw [hst, Zos ‹_› (show 0 < ZbL (orgD s.self x) ow by assumption)], xd⟩ (by dsimp only;omega) (fun a F => F.only [47, 46, 45, 5, 6, 8, 9, 10, 13, 15] rfl) (sX 17179869180 rfl)
    ·replace h3 := dqV h3
     refine gR 4 rfl (ZaK rfl rfl (Zax (by omega) (by omega)) (gR 2 rfl ?_))
     exact Zar (i + 1, ow) ⟨by dsimp only;omega, by rw [hst, Zot (show ¬ ow.rt = 0 by assumption) (show ¬ 0 < ZbL (orgD s.self x) ow by assumption)], hwd⟩ (by dsimp only;omega) (fun a F => F.only [47, 46, 45, 5, 6, 8, 9, 10, 13, 15] rfl) (sX 17179869180 rfl)
  ·refine gR 17 rfl (ZaK rfl rfl (Zax (by omega) (by omega)) (gR 2 rfl ?_))
   exact Zar (i + 1, ow) ⟨by dsimp only;omega, by rw [hst, Zrq ‹_›], hwd⟩ (by dsimp only;omega) (fun a F => F.only [47, 46, 45, 5, 6, 8, 9, 10, 13, 15] rfl) (sX 17179869180 rfl)
 ·have hil2 : i = s.og.length := by omega
  rw [hil2, Zkf] at hw
  rw [← hw]
  clear hw hil2
  refine gR 6 rfl (Zav rfl (dqF (by omega)) (gR 2 rfl (ZaZ (gR 11 rfl (Zai 5 rfl rfl rfl (gR 5 rfl ?_))))))
  refine Za1 (ι := Nat × Bool) ⟨fun (j, bn) => s.ins.length - j, fun (j, bn) => j ≤ s.ins.length ∧ (bn = (!decide (ow.rt = 0) && (s.ins.take j).any (nrV ow src dst))), fun (j, bn) => [(75, .int .i64 j), (74, .int .i64 s.ins.length), (73, .slice q10 s.ins.length c10), (19, .bool bn), (5, .bool marked), (6, .pointer (some ⟨b6, 0, none⟩)), (8, .pointer (some ⟨b8, 0, none⟩)), (9, .pointer (some ⟨b9, 0, none⟩)), (10, .pointer (some ⟨b10, 0, none⟩)), (13, .pointer (some ⟨b13, 0, none⟩)), (15, .pointer (some ⟨b15, 0, none⟩))], fun (j, bn) => [[(b15, Obj.cells (dvC ow).toArray 67 (0, 0))], [(b13, Obj.cells (dvZ).toArray 67 (0, 0))], [(b10, Obj.cells (dvC mark).toArray 67 (0, 0))], [(b9, Obj.cells (ipC dst).toArray 63 (0, 0))], [(b8, Obj.cells (ipC src).toArray 63 (0, 0))], [(b6, Obj.cells (rtC s ⟨.slice q6 s.og.length c6, .slice q7 s.aj.length c7, .slice q8 s.sr.length c8, .slice q9 s.ro.length c9, .slice q10 s.ins.length c10, .slice q11 s.rq.length c11, .slice q12 s.av.length c12⟩).toArray 53 (0, 0))]]⟩ (0, false) ⟨by omega, by simp⟩ (fun a F => F.only [75, 74, 73, 19, 5, 6, 8, 9, 10, 13, 15] rfl) (sX 17179869183 rfl) ?_
  rintro ⟨j, bn⟩ ⟨hi_j, hb2⟩
  dsimp only
  by_cases hlt_j : j < s.ins.length
  ·obtain ⟨bj, oj, cj, t', fj, rfl, hbj, hj2⟩ := m10 (by omega)
   obtain ⟨y, hy0⟩ : ∃ y, y = s.ins[j] := ⟨_, rfl⟩
   have hym : y ∈ s.ins := by rw [hy0];exact List.getElem_mem hlt_j
   have hyi : IsIn y := i10 _ hym
   have f2 : seg cj (oj + (j : Int).toNat * 40) 40 = some (inC y) := by rw [hy0];exact Za0 (Zb5 i10) hj2 hlt_j (by omega)
   replace hy0 := hy0.symm
   have yd : IsDv y.to := hyi.1
   have hst := Zsc hlt_j hy0 hb2
   clear hy0
   cases bn
   ·refine gR 6 rfl ?_
    refine ZaE rfl (dqT (by omega)) (gR 6 rfl (Zbk rfl rfl (by omega) (by omega) (ZbF rfl ‹_› (by with_reducible assumption) ?_)))
    refine Zat fun b21 => Zas 0 rfl rfl (Zaj ‹_›) (ZaY _) rfl (Zag (by rw [Zaj ‹_›];first | rfl | rw [Zaj ‹_›])) rfl ?_
    refine gR 6 rfl (Zai 1 rfl rfl (Zdz ‹_›) ?_)
    refine gR 2 rfl (Zan 84 rfl (fun h1 => ?_) (fun h1 => ?_))
    ·replace h1 := ZbE h1
     refine gR 1 rfl (Zah 0 rfl rfl (Zcy ‹_›) ?_)
     refine Zah 5 rfl rfl (by with_reducible assumption) ?_
     refine Zah 4 rfl rfl (by with_reducible assumption) ?_
     refine Zad rfl rfl (fun w M => Zhs _ ‹_› _ _ ‹_› ‹_› _) ?_
     refine gR 2 rfl (Zan 91 rfl (fun h2 => ?_) (fun h2 => ?_))
     ·refine gR 1 rfl (Zah 0 rfl rfl (Zcy ‹_›) ?_)
      refine Zah 1 rfl rfl (ZaO ‹_›) ?_
      refine Zad rfl rfl (fun w M => ZdH _ _ ‹_› ‹_› _) ?_
      refine gR 8 rfl (ZaK rfl rfl (Zax (by omega) (by omega)) (gR 2 rfl ?_))
      exact Zar (j + 1, decide (0 < ZbL y.to ow)) ⟨by dsimp only;omega, by rw [← hst, dqF (show ¬ ow.rt = 0 by assumption), ZtC ‹_›];rfl⟩ (by dsimp only;omega) (fun a F => F.only [75, 74, 73, 19, 5, 6, 8, 9, 10, 13, 15] rfl) (sX 17179869182 rfl)
     ·refine gR 12 rfl (ZaK rfl rfl (Zax (by omega) (by omega)) (gR 2 rfl ?_))
      exact Zar (j + 1, false) ⟨by dsimp only;omega, by rw [← hst, Zut ‹_›];simp⟩ (by dsimp only;omega) (fun a F => F.only [75, 74, 73, 19, 5, 6, 8, 9, 10, 13, 15] rfl) (sX 17179869182 rfl)
    ·replace h1 := ZaV h1
     refine gR 19 rfl (ZaK rfl rfl (Zax (by omega) (by omega)) (gR 2 rfl ?_))
     exact Zar (j + 1, false) ⟨by dsimp only;omega, by rw [← hst, dqT (show ow.rt = 0 by assumption)];rfl⟩ (by dsimp only;omega) (fun a F => F.only [75, 74, 73, 19, 5, 6, 8, 9, 10, 13, 15] rfl) (sX 17179869182 rfl)
   ·refine gR 6 rfl ?_
    refine ZaE rfl (dqT (by omega)) (gR 6 rfl (Zbk rfl rfl (by omega) (by omega) (ZbF rfl ‹_› (by with_reducible assumption) ?_)))
    refine Zat fun b21 => Zas 0 rfl rfl (Zaj ‹_›) (ZaY _) rfl (Zag (by rw [Zaj ‹_›];first | rfl | rw [Zaj ‹_›])) rfl ?_
    refine gR 28 rfl (ZaK rfl rfl (Zax (by omega) (by omega)) (gR 2 rfl ?_))
    exact Zar (j + 1, true) ⟨by dsimp only;omega, by rw [← hst];rfl⟩ (by dsimp only;omega) (fun a F => F.only [75, 74, 73, 19, 5, 6, 8, 9, 10, 13, 15] rfl) (sX 17179869182 rfl)
  ·have hjl : j = s.ins.length := by omega
   rw [hjl, List.take_length] at hb2
   clear hjl
   refine gR 6 rfl (Zav rfl (dqF (by omega)) (gR 2 rfl (ZaZ (gR 3 rfl (gR 1 rfl ?_)))))
   refine ZcD (ι := Bool) ⟨fun b => b = !(decide (ow.rt = 0) || s.ins.any (nrV ow src dst)), fun b => [(106, .bool b), (5, .bool marked), (6, .pointer (some ⟨b6, 0, none⟩)), (8, .pointer (some ⟨b8, 0, none⟩)), (9, .pointer (some ⟨b9, 0, none⟩)), (10, .pointer (some ⟨b10, 0, none⟩)), (13, .pointer (some ⟨b13, 0, none⟩)), (15, .pointer (some ⟨b15, 0, none⟩))], fun _ => [[(b15, Obj.cells (dvC ow).toArray 67 (0, 0))], [(b13, Obj.cells (dvZ).toArray 67 (0, 0))], [(b10, Obj.cells (dvC mark).toArray 67 (0, 0))], [(b9, Obj.cells (ipC dst).toArray 63 (0, 0))], [(b8, Obj.cells (ipC src).toArray 63 (0, 0))], [(b6, Obj.cells (rtC s ⟨.slice q6 s.og.length c6, .slice q7 s.aj.length c7, .slice q8 s.sr.length c8, .slice q9 s.ro.length c9, .slice q10 s.ins.length c10, .slice q11 s.rq.length c11, .slice q12 s.av.length c12⟩).toArray 53 (0, 0))]]⟩ ?_ ?_
   ·cases hc : decide (ow.rt = 0)
    ·cases hk : s.ins.any (nrV ow src dst)
     ·rw [hc, hk] at hb2
      subst hb2
      refine gR 2 rfl (Zai 0 rfl rfl (Zdz ‹_›) ?_)
      refine gR 2 rfl (ZaQ 103 rfl (notT ‹_›) ?_)
      exact gR 4 rfl (Za6 true (by rfl) (fun a F => F.only [106, 5, 6, 8, 9, 10, 13, 15] rfl) (sX 17179869183 rfl))
     ·rw [hc, hk] at hb2
      subst hb2
      refine gR 2 rfl (Zai 0 rfl rfl (Zdz ‹_›) ?_)
      refine gR 2 rfl (ZaQ 103 rfl (notT ‹_›) ?_)
      exact gR 4 rfl (Za6 false (by rfl) (fun a F => F.only [106, 5, 6, 8, 9, 10, 13, 15] rfl) (sX 17179869183 rfl))
    ·rw [hc] at hb2
     subst hb2
     refine gR 2 rfl (Zai 0 rfl rfl (Zdz ‹_›) ?_)
     refine gR 2 rfl (ZaQ 103 rfl (notF ‹_›) ?_)
     exact gR 4 rfl (Za6 false (by rfl) (fun a F => F.only [106, 5, 6, 8, 9, 10, 13, 15] rfl) (sX 17179869183 rfl))
   rintro b hb
   cases hca : (decide (ow.rt = 0) || s.ins.any (nrV ow src dst))
   ·rw [hca] at hb
    subst hb
    rw [if_neg (by simp)]
    refine gR 7 rfl (Zan 108 rfl (fun h1 => ?_) (fun h1 => ?_))
    ·refine Zah 0 rfl rfl (ZaO ‹_›) ?_
     refine Zah 2 rfl rfl (ZaO ‹_›) ?_
     refine Zad rfl rfl (fun w M => ZdH _ _ ‹_› ‹_› _) ?_
     refine gR 4 rfl (g_if rfl (fun h2 => ?_) (fun h2 => ?_))
     ·replace h2 := dqU h2
      refine gR 2 rfl (g_v (fun a w F M R r => Zaw F rfl ‹_› r) ?_)
      refine gR 1 rfl (Zas 1 rfl rfl (Zaz ‹_›) (Zbq _) rfl (Zag (by rw [Zaz ‹_›];first | rfl | rw [Zaz ‹_›])) rfl ?_)
      refine gR 6 rfl (Zcb 1 rfl rfl rfl rfl (ZaO ‹_›) rfl rfl fun w M => ?_)
      exact ZcS (show fwdO ow mark marked = _ by unfold fwdO;simp [*]) M.ext
     ·replace h2 := dqV h2
      refine gR 3 rfl (ZaG 2 134 rfl (by kernel_rfl) (ZaN 0 rfl rfl (ZaO ‹_›) ?_))
      refine fR 1 rfl (Zap rfl rfl (Zas 1 rfl rfl (Zaz ‹_›) (Zbq _) rfl (Zag (by rw [Zaz ‹_›];first | rfl | rw [Zaz ‹_›])) rfl ?_))
      refine gR 5 rfl (Zcb 1 rfl rfl rfl rfl (ZaO ‹_›) rfl rfl fun w M => ?_)
      exact ZcS (show fwdO ow mark marked = _ by unfold fwdO;simp [*]) M.ext
    ·refine gR 11 rfl (ZaG 2 134 rfl (by kernel_rfl) (ZaN 0 rfl rfl (ZaO ‹_›) ?_))
     refine fR 1 rfl (Zap rfl rfl (Zas 1 rfl rfl (Zaz ‹_›) (Zbq _) rfl (Zag (by rw [Zaz ‹_›];first | rfl | rw [Zaz ‹_›])) rfl ?_))
     refine gR 5 rfl (Zcb 1 rfl rfl rfl rfl (ZaO ‹_›) rfl rfl fun w M => ?_)
     exact ZcS (show fwdO ow mark marked = _ by unfold fwdO;simp [*]) M.ext
   ·rw [hca] at hb
    subst hb
    rw [if_pos rfl]
    refine gR 7 rfl (Zai 5 rfl rfl rfl (Zah 4 rfl rfl (by with_reducible assumption) ?_))
    refine Zah 3 rfl rfl (by with_reducible assumption) ?_
    refine Zah 2 rfl rfl (ZaO ‹_›) ?_
    refine gR 1 rfl (Zad (v := .tuple [.agg (inC (Zdx s.ins src dst mark marked).1).toArray, .int .i64 (Zdx s.ins src dst mark marked).2].toArray) rfl rfl (fun w2 M => ZnE s.ins i10 _ src dst hsi hdi mark hmk marked w2 (a10.later M.ext)) ?_)
    have hli := Zje i10 (src := src) (dst := dst) (mark := mark) (marked := marked)
    generalize Zdx s.ins src dst mark marked = r at hli ⊢
    obtain ⟨y, e⟩ := r
    dsimp only at hli ⊢
    by_cases he : e = 0
    ·have he1 := dqT he
     have he2 : (!decide (e = 0)) = false := by simp [he]
     refine gR 3 rfl (Zat fun b22 => Zas 0 rfl rfl (Zaj ‹_›) (ZaY _) rfl (Zag (by rw [Zaj ‹_›];first | rfl | rw [Zaj ‹_›])) rfl ?_)
     refine gR 10 rfl (Zav rfl (bneF (by omega)) (gR 3 rfl (ZaG 5 134 rfl (by kernel_rfl) (fR 1 rfl (ZaW 0 rfl rfl (ZgO ‹_›) ?_)))))
     refine fR 1 rfl (ZaN 0 rfl rfl (Zcy ‹_›) ?_)
     refine fR 1 rfl (Zap rfl rfl ?_)
     refine Zas 2 rfl rfl (Zaz (And.left ‹_›)) (Zbq _) rfl (Zag (by rw [Zaz (And.left ‹_›)];first | rfl | rw [Zaz ‹_›])) rfl ?_
     refine gR 4 rfl (Zcb 2 rfl rfl rfl rfl (ZaO (And.left ‹_›)) rfl rfl fun w M => ?_)
     exact ZcS (by unfold fwdN;rw [if_pos he]) M.ext
    ·have he1 := dqF he
     have he2 : (!decide (e = 0)) = true := by simp [he]
     refine gR 3 rfl (Zat fun b22 => Zas 0 rfl rfl (Zaj ‹_›) (ZaY _) rfl (Zag (by rw [Zaj ‹_›];first | rfl | rw [Zaj ‹_›])) rfl ?_)
     refine gR 10 rfl (ZaE rfl (bne_iff_ne.2 (by omega)) (gR 2 rfl (g_v (fun a w F M R r => Zaw F rfl ‹_› r) ?_)))
     refine gR 2 rfl (Zas 2 rfl rfl (Zaz ‹_›) (Zbq _) rfl (Zag (by rw [Zaz ‹_›];first | rfl | rw [Zaz ‹_›])) rfl ?_)
     refine gR 5 rfl (Zcb 2 rfl rfl rfl rfl (ZaO ‹_›) rfl rfl fun w M => ?_)
     exact ZcS (by unfold fwdN;rw [if_neg he]) M.ext
end Go.Proofs.YtfhkmgcalcfibaaGreat

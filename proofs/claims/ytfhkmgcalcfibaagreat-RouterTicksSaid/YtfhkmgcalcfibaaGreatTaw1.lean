/-
  Texts joined.
-/
import Derived.WalkKit
import Derived.OrdersIn
import Derived.RangeFuncLeaves
import Derived.RangeFuncNested
import Derived.StillTail
import Derived.ProofKit
import Derived.OpenShut
import Derived.WideKeyArgs
import Derived.Deep.DeepHandedRow
import Derived.Lib.LaidTab
import Derived.Deep.Slices
import Derived.Shelf.Vars
import Derived.Test.YtfhkmgcalcfibaaGreatRows
import Derived.Laws.IdiomStrings
import Derived.Shelf.SlSortCmp.WholeK
import Derived.Shelf.SlSortCmp.NoneTotal
import Derived.Test.YtfhkmgcalcfibaaGreatProg
set_option linter.unusedVariables false
set_option linter.unusedSimpArgs false
set_option maxHeartbeats 64000000
namespace Go.Proofs.YtfhkmgcalcfibaaGreat
open Go.RowKit
open Go.Proofs.Tryz (prog)
variable {P:Program}{Q:Exit->Act->World->Prop}{R:Value->World->Prop}{S:List Nat}{W W0 w w':World}{a:Act}{af:Array Edge}{args:Array Value}{b d i ix n off sz:Nat}{c x y:Operand}{cs vs xs ys:List Value}{df:List Deferred}{f:FuncId}{fn:Func}{fr:List (Nat × Value)}{fz:Nat × Nat}{k k':IntKind}{m:Int}{o:Oper}{op:Op}{os:Array Oper}{p:Prop}{pos:String}{r:Option Nat}{re:List Oper}{t t' ty:TypeId}{ts:Array TypeId}{v xv:Value}
theorem dqT [Decidable p](h:p):decide p=true:=decide_eq_true h
theorem dqF [Decidable p](h:¬p):decide p=false:=decide_eq_false h
theorem dqU [Decidable p](h:decide p=true):p:=of_decide_eq_true h
theorem dqV [Decidable p](h:decide p=false):¬p:=of_decide_eq_false h
section
abbrev sC2:= @List.Sublist.cons_cons
abbrev sC1:= @List.Sublist.cons
abbrev sC0:= @List.nil_sublist
theorem Qt [Decidable p](h:p:=by omega):decide p=true:=dqT h
theorem Qu [Decidable p](h:¬p:=by omega):decide p=false:=dqF h
theorem Q0(h:p:=by omega):p:=h
theorem Q1(h:p:=by repeat constructor):p:=h
theorem Q2(h:p:=by first|assumption|rfl):p:=h
theorem Q3(h:p:=by with_reducible assumption):p:=h
theorem Q4(h:p:=by first|omega|(simp only[List.length_nil];omega)):p:=h
theorem Q5(h:p:=by simp):p:=h
theorem Q6(h:p:=by dsimp only;omega):p:=h
theorem Q7(h:p:=by kernel_rfl):p:=h
theorem Q8(h:p:=by first|assumption|trivial|exact And.left (by assumption)):p:=h
theorem Q9(h:p:=by first|assumption|trivial|exact And.left (by assumption)|exact⟨by assumption,trivial⟩):p:=h
theorem Qa(h:p:=by repeat (first|exact .refl _|apply sC2|apply sC1)):p:=h
theorem Qb(h:p:=by(try dsimp only);repeat (first|exact .refl _|with_reducible exact sC0 _|with_reducible apply sC2|apply sC1)):p:=h
theorem Qc(h:p:=by repeat (first|exact .refl _|apply sC1)):p:=h
theorem Qd(h:p:=by assumption):p:=h
theorem Qe(h:p:=by classical exact List.perm_iff_count.2 λ_=>by simp only[List.count_append,List.count_cons,List.count_nil,Nat.add_zero,Nat.zero_add]<;>ac_rfl):p:=h
theorem Qf(h:p:=by(try dsimp only[RtE.row,List.cons_append,List.nil_append]);repeat (first|exact .refl _|exact sC0 _|with_reducible apply sC2|apply sC1)):p:=h
theorem Qg(h:p:=by first|assumption|(unfold req1;simp[*];done)|(unfold req1;simp[*]<;>omega)|(unfold req1;simp;omega)):p:=h
theorem Qh(h:p:=by first|assumption|(unfold adj1;simp[*];done)|(unfold adj1;simp[*]<;>omega)|(unfold adj1;simp;omega)):p:=h
theorem Qi(h:p:=by first|assumption|(unfold org1;simp[*];done)|(unfold org1;simp[*]<;>omega)|(unfold org1;simp;omega)):p:=h
theorem Qj(h:p:=by first|assumption|(unfold rou1;simp[*];done)|(unfold rou1 finD inf;simp[*])):p:=h
theorem Qk(h:p:=by first|assumption|(unfold src1;simp[*];done)|(unfold src1 finD inf;simp[*])):p:=h
theorem Ql(h:p:=by first|assumption|(unfold ava1;simp[*];done)|(unfold ava1 finD inf;simp[*])):p:=h
theorem Qm(h:p:=by first|assumption|(unfold ins1;simp[*];done)|(unfold ins1 finD inf;simp[*])):p:=h
theorem Qn(h:p:=by rw[Zdy (by assumption)];first|rfl|rw[Zdy (by assumption)]):p:=h
theorem Qo(h:p:=by rw[Zbu (by assumption)];first|rfl|rw[Zbu (by assumption)]):p:=h
theorem Qp(h:p:=by rw[Zb1 (by assumption)];first|rfl|rw[Zb1 (by assumption)]):p:=h
abbrev EN:=List (Nat×Obj)
abbrev FN:=List (Nat×Value)
def FW(r:Option Nat):Fence:= {fn:=λ_=>True,depth:=none,alive:=false,round:=r}
/-! ### frames -/
def look:FN->Nat->Option Value
 |[],_=>none
 |(k,v)::r,t=>match Nat.beq k t with
  |true=>some v
  |false=>look r t
structure Frm(a:Act)(n:Nat)(df:List Deferred)(fr:FN):Prop where
 size:a.tmps.size=n
 defers:a.defers=df
 at_:∀t v,look fr t=some v->a.tmps.getD t undef=v
def Ev(fr:FN):Operand->Option Value
 | .tmp t=>look fr t
 | .const v=>some v
 | .global g=>some (.pointer (some ⟨g,0,none⟩))
 | .func f=>some (.func (.func f) #[] #[])
theorem Frm.e{a:Act}{n:Nat}{df:List Deferred}{fr:FN}(F:Frm a n df fr){x:Operand}{v:Value}(h:Ev fr x=some v):a.eval x=v:=by
 cases x with
 |tmp t=>exact F.at_ t v h
 |const u=>simpa[Ev,Act.eval] using h
 |global g=>simpa[Ev,Act.eval] using h
 |func f=>simpa[Ev,Act.eval] using h
theorem Zgr(fr:FN)(d t:Nat)(v:Value):look ((d,v)::fr) t=if d=t then some v else look fr t:=by
 simp only[look]
 by_cases h:d=t
 ·subst h;simp
 ·have:Nat.beq d t=false:=by
   cases hb:Nat.beq d t with
   |false=>rfl
   |true=>exact absurd (Nat.eq_of_beq_eq_true hb) h
  simp[this,h]
theorem Frm.put{fr:FN}(F:Frm a n df fr)(v:Value)(hd:Nat.blt d n=true):Frm (a.put (some d) v) n df ((d,v)::fr):=by
 have hd':d<n:=Nat.le_of_ble_eq_true hd
 refine⟨by simp[Act.put,F.size],by simp[Act.put,F.defers],λt u h=>?_⟩
 rw[Zgr] at h
 simp only[Act.put]
 by_cases e:d=t
 ·subst e
  simp only[if_true,Option.some.injEq] at h
  subst h
  have:d<a.tmps.size:=by rw[F.size];exact hd'
  simp[Array.getElem?_setIfInBounds,this]
 ·rw[if_neg e] at h
  have:=F.at_ t u h
  simpa[Array.getElem?_setIfInBounds,e] using this
def keep:List Nat->FN->FN
 |[],_=>[]
 |t::ts,fr=>match look fr t with
  |some v=>(t,v)::keep ts fr
  |none=>keep ts fr
theorem ZqJ(ts:List Nat)(fr:FN)(t:Nat)(v:Value)(h:look (keep ts fr) t=some v):look fr t=some v:=by
 induction ts with
 |nil=>simp[keep,look] at h
 |cons x ts ih=>
  simp only[keep] at h
  cases hx:look fr x with
  |none=>rw[hx] at h;exact ih h
  |some u=>
   rw[hx] at h
   simp only[Zgr] at h
   by_cases e:x=t
   ·subst e;simp at h;rw[hx,h]
   ·rw[if_neg e] at h;exact ih h
theorem Frm.keep{fr:FN}(F:Frm a n df fr)(ts:List Nat):Frm a n df (keep ts fr):=
 ⟨F.size,F.defers,λt v h=>F.at_ t v (ZqJ ts fr t v h)⟩
def Zgt:List Nat->FN->Option FN
 |[],_=>some []
 |t::ts,fr=>match look fr t,Zgt ts fr with
  |some v,some r=>some ((t,v)::r)
  | _,_=>none
theorem Zjd:∀(ts:List Nat)(fr r:FN),Zgt ts fr=some r->keep ts fr=r
 |[],_,_,h=>by simpa[Zgt,keep] using h
 |t::ts,fr,r,h=>by
  simp only[Zgt] at h
  cases hx:look fr t with
  |none=>simp[hx] at h
  |some u=>
   cases hk:Zgt ts fr with
   |none=>simp[hx,hk] at h
   |some q=>
    simp only[hx,hk,Option.some.injEq] at h
    simp only[keep,hx,Zjd ts fr q hk,h]
theorem Frm.only{fr r:FN}(F:Frm a n df fr)(ts:List Nat)(h:Zgt ts fr=some r):Frm a n df r:=by
 rw[<-Zjd ts fr r h];exact F.keep ts
/-! ### worlds -/
structure Ext(S:List Nat)(w w':World):Prop where
 os:w'.os=w.os
 tape:w'.tape=w.tape
 output:w'.output=w.output
 size:w.heap.size<=w'.heap.size
 dr:w.drawn<=w'.drawn
 block:∀k,k<w.heap.size->k∉S->w'.heap[k]? =w.heap[k]?
theorem Ext.refl(S:List Nat)(w:World):Ext S w w:=⟨rfl,rfl,rfl,Nat.le_refl _,Nat.le_refl _,λ_ _ _=>rfl⟩
theorem Ext.trans{a b c:World}(h:Ext S a b)(k:Ext S b c):Ext S a c:=
 ⟨k.os.trans h.os,k.tape.trans h.tape,k.output.trans h.output,Nat.le_trans h.size k.size,Nat.le_trans h.dr k.dr,λi hi hs=>(k.block i (Nat.lt_of_lt_of_le hi h.size) hs).trans (h.block i hi hs)⟩
theorem Ext.mono{S S':List Nat}{a b:World}(h:Ext S a b)(hS:∀k,k∈S->k∈S'):Ext S' a b:=
 ⟨h.os,h.tape,h.output,h.size,h.dr,λk hk hs=>h.block k hk (λhm=>hs (hS k hm))⟩
theorem Ext.any{a b:World}(h:Ext [] a b):Ext S a b:=h.mono (λ_ hk=>by cases hk)
theorem Ext.fresh{S T:List Nat}{a b:World}(h:Ext T a b)(hS:∀k,k∈T->k∈S∨a.heap.size<=k):Ext S a b:=
 ⟨h.os,h.tape,h.output,h.size,h.dr,λk hk hs=>h.block k hk (λhm=>(hS k hm).elim hs (λhge=>by omega))⟩
theorem Ext.drawn(w:World)(d:Nat)(h:w.drawn<=d):Ext [] w {w with drawn:=d}:=⟨rfl,rfl,rfl,Nat.le_refl _,h,λ_ _ _=>rfl⟩
theorem Ext.alloc(w:World)(o:Obj):Ext [] w (w.alloc o):=⟨rfl,rfl,rfl,by simp,Nat.le_refl _,λk hk _=>Below.heap_alloc _ _ _ hk⟩
theorem Ext.setCell(w:World)(p:Addr)(u:Value):Ext [p.block] w (w.setCell p u):=
 ⟨rfl,rfl,rfl,by simp[World.setCell],by simp[World.setCell],λk _ hs=>Below.heap_setCell _ _ _ _ (by simpa using hs)⟩
structure Mem(S:List Nat)(W0 w:World)(l:EN):Prop where
 ext:Ext S W0 w
 at_:∀p∈l,w.heap[p.1]? =some p.2
 nd:(l.map (·.1)).Nodup
 own:∀p∈l,p.1∈S∨W0.heap.size<=p.1
theorem Mem.nil(h:Ext S W0 w):Mem S W0 w []:=⟨h,by simp,by simp,by simp⟩
theorem Mem.start(S:List Nat)(W0:World):Mem S W0 W0 []:= .nil (Ext.refl S W0)
inductive Has:EN->Nat->Obj->Prop
 |here {b:Nat} {o:Obj} {l:EN}:Has ((b,o)::l) b o
 |there {p:Nat×Obj} {b:Nat} {o:Obj} {l:EN} (h:Has l b o):Has (p::l) b o
theorem Has.mem{l:EN}{b:Nat}{o:Obj}(h:Has l b o):(b,o)∈l:=by
 induction h with
 |here=>simp
 |there _ ih=>exact List.mem_cons_of_mem _ ih
inductive Upd:EN->Nat->Obj->Obj->EN->Prop
 |here {b:Nat} {o o':Obj} {l:EN}:Upd ((b,o)::l) b o o' ((b,o')::l)
 |there {p:Nat×Obj} {b:Nat} {o o':Obj} {l l':EN} (h:Upd l b o o' l'):Upd (p::l) b o o' (p::l')
theorem Upd.has{l l':EN}{b:Nat}{o o':Obj}(h:Upd l b o o' l'):Has l b o:=by
 induction h with
 |here=>exact .here
 |there _ ih=>exact .there ih
theorem Upd.keys{l l':EN}{b:Nat}{o o':Obj}(h:Upd l b o o' l'):l'.map (·.1)=l.map (·.1):=by
 induction h with
 |here=>rfl
 |there _ ih=>simp[ih]
theorem Upd.mem{l l':EN}{b:Nat}{o o':Obj}(h:Upd l b o o' l')(nd:(l.map (·.1)).Nodup):∀p∈l',p=(b,o')∨(p∈l/\p.1≠b):=by
 induction h with
 |here=>
  intro p hp
  simp only[List.map_cons,List.nodup_cons] at nd
  rcases List.mem_cons.1 hp with rfl|hp
  ·exact .inl rfl
  ·exact .inr ⟨List.mem_cons_of_mem _ hp,λe=>nd.1 (e▸List.mem_map_of_mem hp)⟩
 |there hu ih=>
  intro p hp
  simp only[List.map_cons,List.nodup_cons] at nd
  rcases List.mem_cons.1 hp with rfl|hp
  ·exact .inr ⟨List.mem_cons_self,λe=>nd.1 (by rw[e];exact List.mem_map_of_mem hu.has.mem)⟩
  ·rcases ih nd.2 p hp with h|⟨h,h'⟩
   ·exact .inl h
   ·exact .inr ⟨List.mem_cons_of_mem _ h,h'⟩
theorem Mem.heap{l:EN}(M:Mem S W0 w l){o:Obj}(h:Has l b o):w.heap[b]? =some o:=M.at_ _ h.mem
theorem Mem.lt{l:EN}(M:Mem S W0 w l){p:Nat×Obj}(h:p∈l):p.1<w.heap.size:=(Array.getElem?_eq_some_iff.1 (M.at_ _ h)).1
theorem Mem.later{l:EN}(M:Mem S W0 w l)(h:Ext [] w w'):Mem S W0 w' l:=
 ⟨M.ext.trans h.any,λp hp=>(h.block _ (M.lt hp) Q5).trans (M.at_ p hp),M.nd,M.own⟩
theorem Mem.alloc{l:EN}(M:Mem S W0 w l)(o:Obj):Mem S W0 (w.alloc o) ((w.heap.size,o)::l):=by
 have M':=M.later (Ext.alloc w o)
 refine⟨M'.ext,λp hp=>?_,?_,λp hp=>?_⟩
 ·rcases List.mem_cons.1 hp with rfl|hp
  ·exact heap_alloc_new w o
  ·exact M'.at_ p hp
 ·simp only[List.map_cons,List.nodup_cons]
  refine⟨λhm=>?_,M.nd⟩
  obtain⟨q,hq,e⟩:=List.mem_map.1 hm
  have:=M.lt hq
  omega
 ·rcases List.mem_cons.1 hp with rfl|hp
  ·exact .inr M.ext.size
  ·exact M.own p hp
theorem Mem.cons{l:EN}(M:Mem S W0 w l){o:Obj}(hb:w.heap[b]? =some o)(hn:∀p∈l,p.1≠b)(ho:b∈S∨W0.heap.size<=b):Mem S W0 w ((b,o)::l):=by
 refine⟨M.ext,λp hp=>?_,?_,λp hp=>?_⟩
 ·rcases List.mem_cons.1 hp with rfl|hp
  ·exact hb
  ·exact M.at_ p hp
 ·simp only[List.map_cons,List.nodup_cons]
  refine⟨λhm=>?_,M.nd⟩
  obtain⟨q,hq,e⟩:=List.mem_map.1 hm
  exact hn q hq e
 ·rcases List.mem_cons.1 hp with rfl|hp
  ·exact ho
  ·exact M.own p hp
theorem Mem.turned{l l':EN}(M:Mem S W0 w l){o o':Obj}(hu:Upd l b o o' l')(h:Ext [b] w w')(hb:w'.heap[b]? =some o'):Mem S W0 w' l':=by
 have hm:=hu.has.mem
 have hown:=M.own _ hm
 refine⟨?_,λp hp=>?_,by rw[hu.keys];exact M.nd,λp hp=>?_⟩
 ·refine⟨h.os.trans M.ext.os,h.tape.trans M.ext.tape,h.output.trans M.ext.output,Nat.le_trans M.ext.size h.size,Nat.le_trans M.ext.dr h.dr,λk hk hs=>?_⟩
  refine(h.block k (Nat.lt_of_lt_of_le hk M.ext.size) ?_).trans (M.ext.block k hk hs)
  simp only[List.mem_singleton]
  rintro rfl
  rcases hown with h1|h1
  ·exact hs h1
  ·exact absurd hk (Nat.not_lt.2 h1)
 ·rcases hu.mem M.nd p hp with rfl|⟨hp',hne⟩
  ·exact hb
  ·exact(h.block p.1 (M.lt hp') (by simpa using hne)).trans (M.at_ p hp')
 ·rcases hu.mem M.nd p hp with rfl|⟨hp',_⟩
  ·exact hown
  ·exact M.own p hp'
theorem Mem.sub{l l':EN}(M:Mem S W0 w l)(h:l'.Sublist l):Mem S W0 w l':=
 ⟨M.ext,λp hp=>M.at_ p (h.subset hp),M.nd.sublist (h.map _),λp hp=>M.own p (h.subset hp)⟩
def Cal(P:Program)(f:FuncId)(args:Array Value)(w:World)(R:Value->World->Prop):Prop:=
 CallsIn (FW none) 0 P f args w λe w'=>∃v,e= .returned v/\R v w'
theorem Cal.mono{R R':Value->World->Prop}(h:Cal P f args w R)(hr:∀v w',R v w'->R' v w'):Cal P f args w R':=
 CallsIn.mono h λ_ _⟨v,he,r⟩=>⟨v,he,hr _ _ r⟩
theorem Cal.of_calls{R:Ending->World->Prop}{R':Value->World->Prop}(h:Calls P f args w R)(hr:∀e w',R e w'->∃v,e= .returned v/\R' v w'):Cal P f args w R':=
 CallsIn.mono (callsIn_wide.2 h) hr
theorem Cal.calls(h:Cal P f args w R):Calls P f args w λe w'=>∃v,e= .returned v/\R v w':=
 callsIn_wide.1 h
def OpTo(P:Program)(o:Oper)(ρ:Operand->Value)(w:World)(R:Value->World->Prop):Prop:=
 match (execOp ρ o).run P w with
 | .ok (.value v) w'=>R v w'
 | .ok .skip w'=>R undef w'
 | .ok (.enter f args) w'=>Cal P f args w' R
 | .ok (.row row args) w'=>RowsIn (FW none) 0 P row args w' R
 | .ok (.round l f tmps assign body) w'=>RoundIn (FW none) 0 P l f tmps assign body w' λe w''=>∃v,e= .returned v/\R v w''
 | _=>False
theorem OpTo.mono{ρ:Operand->Value}{R R':Value->World->Prop}(h:OpTo P o ρ w R)(hr:∀v w',R v w'->R' v w'):OpTo P o ρ w R':=by
 unfold OpTo at*
 generalize(execOp ρ o).run P w=r at*
 split<;>simp only at h
 ·exact hr _ _ h
 ·exact hr _ _ h
 ·exact h.mono hr
 ·exact RowsIn.mono h hr
 ·exact RoundIn.mono h λ_ _⟨v,he,r⟩=>⟨v,he,hr _ _ r⟩
theorem OpTo.val{ρ:Operand->Value}(h:(execOp ρ o).run P w= .ok (.value v) w')(r:R v w'):OpTo P o ρ w R:=by
 unfold OpTo;rw[h];exact r
theorem OpTo.skip{ρ:Operand->Value}(h:(execOp ρ o).run P w= .ok .skip w')(r:R undef w'):OpTo P o ρ w R:=by
 unfold OpTo;rw[h];exact r
theorem OpTo.enter{ρ:Operand->Value}(h:(execOp ρ o).run P w= .ok (.enter f args) w')(r:Cal P f args w' R):OpTo P o ρ w R:=by
 unfold OpTo;rw[h];exact r
def Zd3:Op->Bool
 | .defer _=>false
 | _=>true
theorem Zgl{K:Act->World->Prop}(hp:Zd3 o.op=true)
  (h:OpTo P o a.eval w λv w'=>K (a.put o.dst v) w'):o.wpIn (FW r) 0 P a w K Q:=by
 refine⟨λ_ _=>trivial,?_⟩
 have hs:o.semAt (FW r).round a.eval=execOp a.eval o:=Oper.semAt_eq _ _ _ λc hc=>by rw[hc] at hp;cases hp
 rw[hs]
 unfold OpTo at h
 generalize(execOp a.eval o).run P w=res at*
 split at h
 ·exact h
 ·exact h
 ·refine⟨λhd=>by simp[FW] at hd,CallsIn.mono (F:=FW r) h ?_⟩
  rintro e w'' ⟨v,rfl,hk⟩
  exact hk
 ·exact⟨λhd=>by simp[FW] at hd,h⟩
 ·refine⟨λhd=>by simp[FW] at hd,RoundIn.mono (F:=FW r) h ?_⟩
  rintro e w'' ⟨v,rfl,hk⟩
  exact hk
 ·exact h.elim
section list
variable {P:Program} {r:Option Nat} {ops:Array Oper} {Q:Exit->Act->World->Prop} {a:Act} {w:World} {n:Nat} {df:List Deferred} {fr:FN} {rest:List Oper}
theorem Zr4(hp:Zd3 op=true)(F:Frm a n df fr)(hlt:Nat.blt d n=true)
  (h:OpTo P ⟨some d,op,ty,pos,af,none⟩ a.eval w λv w'=>∀a',Frm a' n df ((d,v)::fr)->wpListIn (FW r) 0 P ops Q rest a' w'):
  wpListIn (FW r) 0 P ops Q (⟨some d,op,ty,pos,af,none⟩::rest) a w:=
 wpListIn_plain rfl λ_ hK=>Zgl hp (h.mono λv _ hk=>hK _ _ (hk _ (F.put v hlt)))
theorem ZaW(hp:Zd3 op=true)(F:Frm a n df fr)
  (h:OpTo P ⟨none,op,ty,pos,af,none⟩ a.eval w λ_ w'=>∀a',Frm a' n df fr->wpListIn (FW r) 0 P ops Q rest a' w'):
  wpListIn (FW r) 0 P ops Q (⟨none,op,ty,pos,af,none⟩::rest) a w:=
 wpListIn_plain rfl λ_ hK=>Zgl hp (h.mono λ_ _ hk=>hK _ _ (hk _ F))
theorem Zfx{j t:Nat}{b:Bool}(hj:(ops[j]?).bind (·.dst)=some t)(h:a.tmps.getD t undef= .bool b):yielded ops a.tmps j=some b:=by
 simp only[yielded,hj]
 simp only[Array.getD_eq_getD_getElem?] at h
 cases ht:a.tmps[t]? with
 |none=>rw[ht] at h;cases h
 |some u=>rw[ht] at h;simp only[Option.getD_some] at h;subst h;simp[ht]
theorem Zr3{j t:Nat}{b:Bool}(hp:Zd3 op=true)(F:Frm a n df fr)(hlt:Nat.blt d n=true)
  (hj:(ops[j]?).bind (·.dst)=some t) (hb:look fr t=some (.bool b))
  (h:OpTo P ⟨some d,op,ty,pos,af,some (j,b)⟩ a.eval w λv w'=>∀a',Frm a' n df ((d,v)::fr)->wpListIn (FW r) 0 P ops Q rest a' w'):
  wpListIn (FW r) 0 P ops Q (⟨some d,op,ty,pos,af,some (j,b)⟩::rest) a w:=
 wpListIn_step λK hK=>by
  simp only[Region.wanted,Zfx hj (F.at_ t _ hb),BEq.rfl,if_true]
  exact Zgl hp (h.mono λv _ hk=>hK _ _ (hk _ (F.put v hlt)))
def ZeS(b:Bool):Value->Bool
 | .bool c=>c !=b
 | .tuple _=>true
 | _=>false
theorem ZhN{j t:Nat}{b:Bool}{v:Value}(hj:(ops[j]?).bind (·.dst)=some t)(h:a.tmps.getD t undef=v)(ho:ZeS b v=true):(yielded ops a.tmps j==some b)=false:=by
 simp only[yielded,hj]
 simp only[Array.getD_eq_getD_getElem?] at h
 cases ht:a.tmps[t]? with
 |none=>simp[ht]
 |some u=>
  rw[ht] at h;simp only[Option.getD_some] at h;subst h
  simp only[Option.bind_some,ht]
  cases u<;>simp[ZeS] at ho<;>simp
  exact ho
theorem Zpm{j t:Nat}{b:Bool}(F:Frm a n df fr)(hlt:Nat.blt d n=true)
  (hj:(ops[j]?).bind (·.dst)=some t) (hb:look fr t=some v) (ho:ZeS b v=true)
  (h:∀a',Frm a' n df ((d,undef)::fr)->wpListIn (FW r) 0 P ops Q rest a' w):
  wpListIn (FW r) 0 P ops Q (⟨some d,op,ty,pos,af,some (j,b)⟩::rest) a w:=
 wpListIn_step λK hK=>by
  simp only[Region.wanted,ZhN hj (F.at_ t _ hb) ho,Bool.false_eq_true,if_false]
  exact⟨λ_ _=>trivial,hK _ _ (h _ (F.put undef hlt))⟩
theorem sD(F:Frm a n df fr)
  (h:OpTo P ⟨some d,op,ty,pos,af,none⟩ a.eval w λv w'=>∀a',Frm a' n df ((d,v)::fr)->wpListIn (FW r) 0 P ops Q rest a' w')
  (hp:Zd3 op=true:=by rfl) (hlt:Nat.blt d n=true:=by rfl):wpListIn (FW r) 0 P ops Q (⟨some d,op,ty,pos,af,none⟩::rest) a w:=Zr4 hp F hlt h
theorem sG{j t:Nat}{b:Bool}(F:Frm a n df fr)
  (h:OpTo P ⟨some d,op,ty,pos,af,some (j,b)⟩ a.eval w λv w'=>∀a',Frm a' n df ((d,v)::fr)->wpListIn (FW r) 0 P ops Q rest a' w')
  (hp:Zd3 op=true:=by rfl) (hlt:Nat.blt d n=true:=by rfl) (hj:(ops[j]?).bind (·.dst)=some t:=by rfl) (hb:look fr t=some (.bool b):=by rfl):
  wpListIn (FW r) 0 P ops Q (⟨some d,op,ty,pos,af,some (j,b)⟩::rest) a w:=Zr3 hp F hlt hj hb h
end list
section code
variable {P:Program} {r:Option Nat} {Q:Exit->Act->World->Prop} {a:Act} {w:World} {n:Nat} {df:List Deferred} {fr:FN}
abbrev Wp(r:Option Nat)(P:Program)(c:Code)(Q:Exit->Act->World->Prop)(a:Act)(w:World):Prop:=c.wpIn (FW r) 0 P Q a w
theorem Zea{x y:Code}(h:Wp r P x (Exit.then (Wp r P y Q) Q) a w):Wp r P (.seq x y) Q a w:=wpIn_seq h
theorem ZrD(h:Q .normal a w):Wp r P .skip Q a w:=wpIn_skip h
theorem ZmH{id:Nat}{c:Code}(h:Wp r P c (Exit.inBlock id Q) a w):Wp r P (.block id c) Q a w:=wpIn_block h
theorem ZuE{id:Nat}(h:Q (.exit id) a w):Wp r P (.exit id) Q a w:=wpIn_exit h
theorem ZiK(h:Q .ret a w):Wp r P .ret Q a w:=wpIn_ret h
theorem ZdV{id:Nat}{l:List Oper}(h:wpListIn (FW r) 0 P l.toArray Q l a w):Wp r P (.region id l.toArray false) Q a w:=wpIn_region_lit h
theorem ZdS{ops:Array Oper}(h:Q .normal a w):wpListIn (FW r) 0 P ops Q [] a w:=h
theorem c_if{x y:Code}{t:Bool}(F:Frm a n df fr)(hc:Ev fr c=some (.bool t))(ht:t=true->Wp r P x Q a w)(hf:t=false->Wp r P y Q a w):Wp r P (.cond c x y) Q a w:=
 wpIn_cond_split (F.e hc) ht hf
theorem ZrC{x y:Code}{t:Bool}(F:Frm a n df fr)(hc:Ev fr c=some (.bool t))(ht:t=true)(h:Wp r P x Q a w):Wp r P (.cond c x y) Q a w:=
 wpIn_cond_true (by rw[F.e hc,ht]) h
theorem ZmF{x y:Code}{t:Bool}(F:Frm a n df fr)(hc:Ev fr c=some (.bool t))(ht:t=false)(h:Wp r P y Q a w):Wp r P (.cond c x y) Q a w:=
 wpIn_cond_false (by rw[F.e hc,ht]) h
theorem ZbK{c:Code}(I:Nat->Act->World->Prop)(k:Nat)(h0:I k a w)
  (round:∀k a w,I k a w->Wp r P c (Exit.then (λa' w'=>∃k',k'<k/\I k' a' w') Q) a w):Wp r P (.loop c) Q a w:=by
 have key:∀a w,(∃k,I k a w)->∃k,I k a w/\∀j,I j a w->k<=j:=by
  rintro a w ⟨k,hk⟩
  induction k using Nat.strongRecOn with
  | _ k ih=>
   by_cases h:∃j,j<k/\I j a w
   ·obtain⟨j,hj,hI⟩:=h
    exact ih j hj hI
   ·exact⟨k,hk,λj hj=>Nat.not_lt.1 λhlt=>h ⟨j,hlt,hj⟩⟩
 let μ:Act->World->Nat:=λa w=>open Classical in if h:∃k,I k a w then Classical.choose (key a w h) else 0
 refine wpIn_loop (λa w=>∃k,I k a w) μ ⟨k,h0⟩ λa w h=>?_
 have hs:=Classical.choose_spec (key a w h)
 have hμ:μ a w=Classical.choose (key a w h):=dif_pos h
 refine wpIn_mono (round _ a w hs.1) ?_
 rintro e a' w' hq
 cases e with
 |normal=>
  obtain⟨k',hlt,hI⟩:=hq
  refine⟨⟨k',hI⟩,?_⟩
  have hs':=Classical.choose_spec (key a' w' ⟨k',hI⟩)
  have hμ':μ a' w'=Classical.choose (key a' w' ⟨k',hI⟩):=dif_pos ⟨k',hI⟩
  have:=hs'.2 k' hI
  omega
 |exit id=>exact hq
 |goto l=>exact hq
 |ret=>exact hq
 |panic ch=>exact hq
 |outgrown=>exact hq
variable {K:Act->World->Prop}
theorem Zc6(h:K a w):Exit.then K Q .normal a w:=h
theorem ZvH{id:Nat}(h:Q (.exit id) a w):Exit.then K Q (.exit id) a w:=h
theorem ZvI(h:Q .ret a w):Exit.then K Q .ret a w:=h
theorem ZzS(h:Q .normal a w){id:Nat}:Exit.inBlock id Q .normal a w:=h
theorem Zt4{id:Nat}(h:Q .normal a w):Exit.inBlock id Q (.exit id) a w:=by simpa[Exit.inBlock] using h
theorem Zt3{id id':Nat}(hne:Nat.beq id' id=false)(h:Q (.exit id') a w):Exit.inBlock id Q (.exit id') a w:=by
 have:id'≠id:=λe=>by subst e;simp at hne
 simpa[Exit.inBlock,this] using h
theorem Zx7{id:Nat}(h:Q .ret a w):Exit.inBlock id Q .ret a w:=h
end code
/-! ### a function -/
def Zfj:Nat->List Value->FN
 | _,[]=>[]
 |i,v::vs=>(i,v)::Zfj (i+1) vs
theorem Zmj(vs:List Value):∀i t v,look (Zfj i vs) t=some v->i<=t/\vs[t-i]? =some v:=by
 induction vs with
 |nil=>intro i t v h;simp[Zfj,look] at h
 |cons x vs ih=>
  intro i t v h
  rw[Zfj,Zgr] at h
  by_cases e:i=t
  ·subst e;simpa using h
  ·rw[if_neg e] at h
   have:=ih _ _ _ h
   obtain⟨k,rfl⟩:∃k,t=i+1+k:=⟨t-(i+1),Q0⟩
   refine⟨Q0,?_⟩
   have e1:i+1+k-i=k+1:=by omega
   have e2:i+1+k-(i+1)=k:=by omega
   rw[e1];rw[e2] at this
   simpa using this.2
def Post(P:Program)(fn:Func)(R:Value->World->Prop):Exit->Act->World->Prop:=
 bodyPostM (FW none) 0 P fn λe w'=>∃v,e= .returned v/\R v w'
theorem Zmv{c:Code}
  (hf:P.funcs[f]? =some fn) (hb:fn.body=some c) (hn:fn.ntmps=n) (hle:Nat.ble vs.length n=true)
  (h:∀a,Frm a n [] (Zfj 0 vs)->Wp none P c (Post P fn R) a w):Cal P f vs.toArray w R:=by
 refine callsIn_of_wp_marks (F:=FW none) hf hb trivial (h _ ⟨?_,rfl,λt v ht=>?_⟩)
 ·have:=Nat.le_of_ble_eq_true hle
  simp[hn];omega
 ·have:=Zmj vs 0 t v ht
  simp only[Nat.sub_zero] at this
  have hlt:t<vs.length:=by
   rcases Nat.lt_or_ge t vs.length with h|h
   ·exact h
   ·rw[List.getElem?_eq_none h] at this;cases this.2
  have h2:=this.2
  simp only[Array.getD_eq_getD_getElem?]
  rw[Array.getElem?_append_left (by simpa using hlt)]
  simp[h2]
inductive ResV(P:Program)(a:Act)(w:World):ResultVar->Value->Prop
 |tmp {t:Nat} {v:Value} (h:a.eval (.tmp t)=v):ResV P a w (.tmp t) v
 |cell {p:Nat} {ty:TypeId} {ad:Addr} {v:Value} (h:a.eval (.tmp p)= .pointer (some ad)) (hl:(loadVar ty ad).run P w= .ok v w):ResV P a w (.cell p ty) v
inductive ZkC(P:Program)(a:Act)(w:World):List ResultVar->List Value->Prop
 |nil:ZkC P a w [] []
 |cons {rv:ResultVar} {v:Value} {rvs:List ResultVar} {vs:List Value} (h:ResV P a w rv v) (t:ZkC P a w rvs vs):ZkC P a w (rv::rvs) (v::vs)
def Zce:List Value->Value
 |[v]=>v
 |vs=> .tuple vs.toArray
theorem ZlO{P:Program}{fn:Func}{a:Act}{w:World}{rvs:List ResultVar}{vs:List Value}(hr:fn.results=rvs.toArray)(h:ZkC P a w rvs vs):
  (results fn a.tmps).run P w= .ok (Zce vs) w:=by
 have key:∀(g:ResultVar->Sem Value),(∀rv v,ResV P a w rv v->(g rv).run P w=Result.ok v w)->∀(rvs:List ResultVar)(vs:List Value),ZkC P a w rvs vs->(rvs.mapM g).run P w=Result.ok vs w:=by
  intro g hg rvs vs h
  induction h with
  |nil=>simp
  |cons hx _ ih=>simp only[List.mapM_cons,Sem.run_bind,hg _ _ hx,Result.andThen_ok,ih,Sem.run_pure]
 unfold results
 rw[hr,Sem.run_bind,Array.mapM_eq_mapM_toList,Sem.run_map,key _ (λrv v hx=>by cases hx<;>simp_all [Act.eval,asAddr]) rvs vs h]
 match vs with
 |[]=>simp[Zce]
 |[v]=>simp[Zce]
 |v::u::q=>simp[Zce]
theorem ZbX(b o k:Nat):(⟨b,o,none⟩:Addr).add k=⟨b,o+k,none⟩:=by
 unfold Addr.add;split<;>simp_all
def ZrR(P:Program)(t:TypeId):Option (Array Value):=((P.info? t).bind (·.zero)).map Value.cells
def Zqh(P:Program)(t:TypeId):Bool:=match P.underlying t with|some (.struct _)|some (.array _ _)|none=>false| _=>true
def ZmO(P:Program)(t:TypeId)(n:Nat):Bool:=(match P.underlying t with|some (.struct _)|some (.array _ _)=>true| _=>false)&&((P.info? t).map (·.size)==some n)
def ZkH(P:Program)(t:TypeId)(n:Nat):Bool:=(P.info? t).map (·.size)==some n
def ZdU(P:Program)(s:TypeId)(i off:Nat):Bool:=
 match P.underlying s with
 |some (.struct fs)=>match fs[i]? with
  |some f=>f.offset==off&&(match P.info? f.type with|some i=>i.size !=0|none=>false)
  |none=>false
 | _=>false
def Zj6(P:Program)(f:FuncId):Bool:=match P.funcs[f]? with|some fn=>fn.body.isSome&& !(fn.name== "runtime.NumGoroutine")|none=>false
class TU (P : Program) (t : TypeId) (d : outParam TypeDesc) : Prop where h : P.underlying t = some d
class TSz (P : Program) (t : TypeId) (n : outParam Nat) : Prop where h : ZkH P t n = true
class TOne (P : Program) (t : TypeId) : Prop where h : Zqh P t = true
class TAgg (P : Program) (t : TypeId) (n : outParam Nat) : Prop where h : ZmO P t n = true
class ZcD (P : Program) (t : TypeId) (cs : outParam (List Value)) : Prop where h : ZrR P t = some cs.toArray
class TFld (P : Program) (s : TypeId) (i : Nat) (off : outParam Nat) : Prop where h : ZdU P s i off = true
class Zad (P : Program) (f : FuncId) : Prop where h : Zj6 P f = true
class TMix (P : Program) : Prop where h : P.follows .mixedOrders = true
/-! ### leaving a function -/
theorem Zp6{fr:FN}{rvs:List ResultVar}(F:Frm a n [] fr)(hr:fn.results=rvs.toArray)(hv:ZkC P a w rvs vs)(h:R (Zce vs) w):
  LeavesInM (FW none) 0 P fn a.tmps (λe w'=>∃v,e= .returned v/\R v w') a.defers .returning w:=by
 rw[F.defers]
 exact⟨_,ZlO hr hv,_,rfl,h⟩
theorem ZdP{fr:FN}{rvs:List ResultVar}(F:Frm a n [] fr)(hr:fn.results=rvs.toArray)(hv:ZkC P a w rvs vs)(h:R (Zce vs) w):Post P fn R .ret a w:=
 Zp6 F hr hv h
theorem Qq{n t:Nat}(F:Frm a n [] fr)(h:R v w)(hr:fn.results=[ResultVar.tmp t].toArray:=by rfl)(hv:look fr t=some v:=by rfl):Post P fn R .ret a w:=ZdP F hr (.cons (.tmp (F.e hv)) .nil) h
theorem Qr{n t s:Nat}{v u:Value}(F:Frm a n [] fr)(h:R (.tuple [v,u].toArray) w)(hr:fn.results=[ResultVar.tmp t,ResultVar.tmp s].toArray:=by rfl)(hv:look fr t=some v:=by rfl)(hu:look fr s=some u:=by rfl):Post P fn R .ret a w:=ZdP F hr (.cons (.tmp (F.e hv)) (.cons (.tmp (F.e hu)) .nil)) h
theorem ZzV{fr:FN}{rvs:List ResultVar}(F:Frm a n [] fr)(hr:fn.results=rvs.toArray)(hv:ZkC P a w rvs vs)(h:R (Zce vs) w):Post P fn R .normal a w:=
 Zp6 F hr hv h
theorem Ext.putObj(w:World)(b:Nat)(o:Obj):Ext [b] w (w.putObj b o):=
 ⟨rfl,rfl,rfl,by simp[World.putObj],by simp[World.putObj],λk _ hs=>World.putObj_heap_other (by simpa using hs)⟩
section ops
variable {P:Program} {ρ:Operand->Value} {w W0:World} {S:List Nat} {l l':EN} {R:Value->World->Prop} {d:Option Tmp} {ty:TypeId} {pos:String} {af:Array Edge} {g:Option (Nat×Bool)}
theorem Zgm(hx:ρ x=v)(h:R v w):OpTo P ⟨d, .move x,ty,pos,af,g⟩ ρ w R:=OpTo.val (v:=v) (w':=w) (by simp[execOp,hx]) h
theorem ZeU(hx:ρ x=v)(h:R v w):OpTo P ⟨d, .assign x,ty,pos,af,g⟩ ρ w R:=OpTo.val (v:=v) (w':=w) (by simp[execOp,hx]) h
theorem Zqo{b:Bool}{v u:Value}(hc:ρ c= .bool b)(hx:ρ x=v)(hy:ρ y=u)(h:R (if b then v else u) w):OpTo P ⟨d, .pick c x y,ty,pos,af,g⟩ ρ w R:=
 OpTo.val (v:=if b then v else u) (w':=w) (by simp[execOp,hc,hx,hy,asBool]) h
theorem ZvU(hc:ρ c= .bool true)(hx:ρ x=v)(h:R v w):OpTo P ⟨d, .pick c x y,ty,pos,af,g⟩ ρ w R:=
 OpTo.val (v:=v) (w':=w) (by simp[execOp,hc,hx,asBool]) h
theorem ZvV(hc:ρ c= .bool false)(hy:ρ y=v)(h:R v w):OpTo P ⟨d, .pick c x y,ty,pos,af,g⟩ ρ w R:=
 OpTo.val (v:=v) (w':=w) (by simp[execOp,hc,hy,asBool]) h
theorem ZoE{m n s:Int}(hx:ρ x= .int k m)(hy:ρ y= .int k n)(hs:k.wrap (m+n)=s)(h:R (.int k s) w):OpTo P ⟨d, .binOp .add t x y t',ty,pos,af,g⟩ ρ w R:=
 OpTo.val (v:= .int k s) (w':=w) (by simp[execOp,eqGuard,binOp,Op.intArith,hx,hy,hs]) h
theorem Zl4{m n s:Int}(hx:ρ x= .int k m)(hy:ρ y= .int k n)(hs:k.wrap (m-n)=s)(h:R (.int k s) w):OpTo P ⟨d, .binOp .sub t x y t',ty,pos,af,g⟩ ρ w R:=
 OpTo.val (v:= .int k s) (w':=w) (by simp[execOp,eqGuard,binOp,Op.intArith,hx,hy,hs]) h
theorem Zl5{m n s:Int}(hx:ρ x= .int k m)(hy:ρ y= .int k n)(hs:k.wrap (m*n)=s)(h:R (.int k s) w):OpTo P ⟨d, .binOp .mul t x y t',ty,pos,af,g⟩ ρ w R:=
 OpTo.val (v:= .int k s) (w':=w) (by simp[execOp,eqGuard,binOp,Op.intArith,hx,hy,hs]) h
theorem Zk0{m n s:Int}(hx:ρ x= .int k m)(hy:ρ y= .int k n)(h0:n≠0)(hs:k.wrap (m.tdiv n)=s)(h:R (.int k s) w):OpTo P ⟨d, .binOp .quo t x y t',ty,pos,af,g⟩ ρ w R:=
 OpTo.val (v:= .int k s) (w':=w) (by simp[execOp,eqGuard,binOp,Op.intDiv,hx,hy,hs,h0]) h
theorem Zyn{m n s:Int}(hx:ρ x= .int k m)(hy:ρ y= .int k n)(h0:n≠0)(hs:m.tmod n=s)(h:R (.int k s) w):OpTo P ⟨d, .binOp .rem t x y t',ty,pos,af,g⟩ ρ w R:=
 OpTo.val (v:= .int k s) (w':=w) (by simp[execOp,eqGuard,binOp,Op.intDiv,hx,hy,hs,h0]) h
def ZbL(op:BinOp)(k:IntKind)(m n:Int):Int:=
 match op with
 | .and=>k.wrap (BitVec.ofInt k.bits m&&&BitVec.ofInt k.bits n).toNat
 | .or=>k.wrap (BitVec.ofInt k.bits m|||BitVec.ofInt k.bits n).toNat
 | .xor=>k.wrap (BitVec.ofInt k.bits m^^^BitVec.ofInt k.bits n).toNat
 | _=>k.wrap (BitVec.ofInt k.bits m&&& ~~~BitVec.ofInt k.bits n).toNat
theorem vB5(h:p:=by
  subst hs;exact OpTo.val (v:= .int k _) (w':=w) (by simp[execOp,eqGuard,binOp,Op.intBits,hx,hy,ZbL]) h):p:=h
theorem ZsN{m n s:Int}(hx:ρ x= .int k m)(hy:ρ y= .int k n)(hs:ZbL .and k m n=s)(h:R (.int k s) w):OpTo P ⟨d, .binOp .and t x y t',ty,pos,af,g⟩ ρ w R:=vB5
theorem o_or{m n s:Int}(hx:ρ x= .int k m)(hy:ρ y= .int k n)(hs:ZbL .or k m n=s)(h:R (.int k s) w):OpTo P ⟨d, .binOp .or t x y t',ty,pos,af,g⟩ ρ w R:=vB5
theorem ZzY{m n s:Int}(hx:ρ x= .int k m)(hy:ρ y= .int k n)(hs:ZbL .xor k m n=s)(h:R (.int k s) w):OpTo P ⟨d, .binOp .xor t x y t',ty,pos,af,g⟩ ρ w R:=vB5
theorem ZsM{m n s:Int}(hx:ρ x= .int k m)(hy:ρ y= .int k n)(hs:ZbL .andNot k m n=s)(h:R (.int k s) w):OpTo P ⟨d, .binOp .andNot t x y t',ty,pos,af,g⟩ ρ w R:=vB5
theorem vCl(h:p:=by
  have h0':¬n<0:=by omega
  exact OpTo.val (v:= .int k s) (w':=w) (by simp[execOp,eqGuard,binOp,Op.shift,hx,hy,hs,h0']) h):p:=h
theorem Zqn{m n s:Int}(hx:ρ x= .int k m)(hy:ρ y= .int k' n)(h0:0<=n)(hs:k.wrap (m*2^min n.toNat k.bits)=s)(h:R (.int k s) w):OpTo P ⟨d, .binOp .shl t x y t',ty,pos,af,g⟩ ρ w R:=vCl
theorem ZoA{m n s:Int}(hx:ρ x= .int k m)(hy:ρ y= .int k' n)(h0:0<=n)(hs:m.fdiv (2^min n.toNat k.bits)=s)(h:R (.int k s) w):OpTo P ⟨d, .binOp .shr t x y t',ty,pos,af,g⟩ ρ w R:=vCl
theorem ZsL{m n:Int}(hx:ρ x= .int k m)(hy:ρ y= .int k n)(h:R (.bool (m==n)) w):OpTo P ⟨d, .binOp .eql t x y t',ty,pos,af,g⟩ ρ w R:=
 OpTo.val (v:= .bool (m==n)) (w':=w) (by simp[execOp,eqGuard,binOp,Op.intCmp,hx,hy]) h
theorem ZsE{m n:Int}(hx:ρ x= .int k m)(hy:ρ y= .int k n)(h:R (.bool (m !=n)) w):OpTo P ⟨d, .binOp .neq t x y t',ty,pos,af,g⟩ ρ w R:=
 OpTo.val (v:= .bool (m !=n)) (w':=w) (by simp[execOp,eqGuard,binOp,Op.intCmp,hx,hy]) h
theorem ZsF{m n:Int}(hx:ρ x= .int k m)(hy:ρ y= .int k n)(h:R (.bool (decide (m<n))) w):OpTo P ⟨d, .binOp .lss t x y t',ty,pos,af,g⟩ ρ w R:=
 OpTo.val (v:= .bool (decide (m<n))) (w':=w) (by simp[execOp,eqGuard,binOp,Op.intCmp,hx,hy]) h
theorem ZsH{m n:Int}(hx:ρ x= .int k m)(hy:ρ y= .int k n)(h:R (.bool (decide (m<=n))) w):OpTo P ⟨d, .binOp .leq t x y t',ty,pos,af,g⟩ ρ w R:=
 OpTo.val (v:= .bool (decide (m<=n))) (w':=w) (by simp[execOp,eqGuard,binOp,Op.intCmp,hx,hy]) h
theorem ZsI{m n:Int}(hx:ρ x= .int k m)(hy:ρ y= .int k n)(h:R (.bool (decide (n<m))) w):OpTo P ⟨d, .binOp .gtr t x y t',ty,pos,af,g⟩ ρ w R:=
 OpTo.val (v:= .bool (decide (n<m))) (w':=w) (by simp[execOp,eqGuard,binOp,Op.intCmp,hx,hy]) h
theorem ZsJ{m n:Int}(hx:ρ x= .int k m)(hy:ρ y= .int k n)(h:R (.bool (decide (n<=m))) w):OpTo P ⟨d, .binOp .geq t x y t',ty,pos,af,g⟩ ρ w R:=
 OpTo.val (v:= .bool (decide (n<=m))) (w':=w) (by simp[execOp,eqGuard,binOp,Op.intCmp,hx,hy]) h
theorem Zyo{b:Bool}(hx:ρ x= .bool b)(h:R (.bool !b) w):OpTo P ⟨d, .unOp .not t x,ty,pos,af,g⟩ ρ w R:=
 OpTo.val (v:= .bool !b) (w':=w) (by simp[execOp,Op.unary,hx]) h
theorem Zia{s t:TypeId}{ds:TypeDesc}{n m:Int}(hx:ρ x= .int k n) [hs:TU P s ds] [ht:TU P t (.int k')](hm:k'.wrap n=m)(h:R (.int k' m) w):OpTo P ⟨d, .convert s t x,ty,pos,af,g⟩ ρ w R:=
 OpTo.val (v:= .int k' m) (w':=w) (by cases ds<;>simp[execOp,convert,Conv.intToInt,hx,run_underlying hs.h,run_underlying ht.h,hm]) h
theorem ZiE{m n:Int}(hx:ρ x= .int k m)(hy:ρ y= .int k n)(h:R (.int k (if n<m then n else m)) w):OpTo P ⟨d, .call ⟨.builtin .min, #[x,y],ts⟩,ty,pos,af,g⟩ ρ w R:=
 OpTo.val (v:= .int k (if n<m then n else m)) (w':=w) (by simp[execOp,resolve,invoke,builtin,Builtin.min_,Builtin.min2,hx,hy]) h
theorem ZoB{m n:Int}(hx:ρ x= .int k m)(hy:ρ y= .int k n)(h:R (.int k (if m<n then n else m)) w):OpTo P ⟨d, .call ⟨.builtin .max, #[x,y],ts⟩,ty,pos,af,g⟩ ρ w R:=
 OpTo.val (v:= .int k (if m<n then n else m)) (w':=w) (by simp[execOp,resolve,invoke,builtin,Builtin.max_,Builtin.max2,hx,hy]) h
theorem Zl6{t e:TypeId}{p:Option Addr}{n c:Nat}(hx:ρ x= .slice p n c) [ht:TU P t (.slice e)](h:R (.int .i64 n) w):OpTo P ⟨d, .call ⟨.builtin .len, #[x], #[t]⟩,ty,pos,af,g⟩ ρ w R:=
 OpTo.val (v:= .int .i64 n) (w':=w) (by simp[execOp,resolve,invoke,builtin,Builtin.len_,hx,run_underlying ht.h,goInt]) h
theorem Zfa{t:TypeId}{cs:Array Value}(h:ZrR P t=some cs):∃z,z.cells=cs/\(zeroValue t).run P w= .ok z w:=by
 unfold ZrR at h
 cases hi:P.info? t with
 |none=>simp[hi] at h
 |some i=>
  cases hz:i.zero with
  |none=>simp[hi,hz] at h
  |some z=>simp[hi,hz] at h;exact⟨z,h,by simp[zeroValue,typeInfo,hi,hz]⟩
theorem Zay [hz:ZcD P t cs](M:Mem S W0 w l)(h:∀b w',Mem S W0 w' ((b, .cells cs.toArray t (0,0))::l)->R (.pointer (some ⟨b,0,none⟩)) w'):OpTo P ⟨d, .alloc t,ty,pos,af,g⟩ ρ w R:=by
 obtain⟨z,hzc,hr⟩:=Zfa (w:=w) hz.h
 rw[<-hzc] at h
 exact OpTo.val (v:= .pointer (some ⟨w.heap.size,0,none⟩)) (w':=w.alloc (.cells z.cells t)) (by simp[execOp,Instr.alloc,hr,newVar,newRow]) (h _ _ (M.alloc _))
theorem ZjX(M:Mem S W0 w l)(hx:ρ x=v)(hv:v.cells=cs.toArray)(h:∀b w',Mem S W0 w' ((b, .cells cs.toArray t (0,0))::l)->R (.pointer (some ⟨b,0,none⟩)) w'):OpTo P ⟨d, .box t x,ty,pos,af,g⟩ ρ w R:=by
 rw[<-hv] at h
 exact OpTo.val (v:= .pointer (some ⟨w.heap.size,0,none⟩)) (w':=w.alloc (.cells v.cells t)) (by simp[execOp,Instr.box,hx,newVar,newRow]) (h _ _ (M.alloc _))
theorem vCm(h:p:=by
  cases hu:P.underlying t with
  |none=>simp[hu] at h
  |some dsc=>cases dsc<;>simp[hu] at h<;>simp[isAgg,run_underlying hu]):p:=h
theorem Zgc(h:Zqh P t=true):(isAgg t).run P w= .ok false w:=by
 unfold Zqh at h
 exact vCm
theorem Zgd(h:ZmO P t n=true):(isAgg t).run P w= .ok true w:=by
 unfold ZmO at h
 exact vCm
theorem Zdv{t:TypeId}{n:Nat}(h:ZmO P t n=true):(sizeOf t).run P w= .ok n w:=by
 unfold ZmO at h
 simp only[Bool.and_eq_true,beq_iff_eq] at h
 cases hi:P.info? t with
 |none=>simp[hi] at h
 |some i=>simp[hi] at h;simp[sizeOf,typeInfo,hi,h.2]
theorem Zfs{cs:Array Value}(hb:w.heap[b]? =some (.cells cs t fz))(hv:cs[off]? =some v):w.cell? ⟨b,off,none⟩=some v:=by
 simp[World.cell?,hb,hv]
theorem ZdZ{ad:Addr}(ht:Zqh P t=true)(hc:w.cell? ad=some v):(loadVar t ad).run P w= .ok v w:=by
 simp[loadVar,Zgc ht,load,Sem.run,hc]
def seg:List Value->Nat->Nat->Option (List Value)
 | _,0,0=>some []
 |x::xs,0,n+1=>match seg xs 0 n with
  |some ys=>some (x::ys)
  |none=>none
 | _::xs,off+1,n=>seg xs off n
 |[],_,_=>none
theorem Zed:∀(xs:List Value)(off n:Nat)(ys:List Value),seg xs off n=some ys->ys.length=n/\∀j,j<n->xs[off+j]? =ys[j]?
 |xs,0,0,ys,h=>by cases xs<;>simp[seg] at h<;>subst h<;>simp
 |[],0,n+1,ys,h=>by simp[seg] at h
 |[],off+1,n,ys,h=>by cases n<;>simp[seg] at h
 |x::xs,off+1,n,ys,h=>by
  have h':seg xs off n=some ys:=by cases n<;>simpa[seg] using h
  have:=Zed xs off n ys h'
  refine⟨this.1,λj hj=>?_⟩
  rw[show off+1+j=(off+j)+1 by omega,List.getElem?_cons_succ]
  exact this.2 j hj
 |x::xs,0,n+1,ys,h=>by
  simp only[seg] at h
  cases hs:seg xs 0 n with
  |none=>simp[hs] at h
  |some zs=>
   simp only[hs,Option.some.injEq] at h
   subst h
   have:=Zed xs 0 n zs hs
   refine⟨by simp[this.1],λj hj=>?_⟩
   cases j with
   |zero=>simp
   |succ j=>
    have:=this.2 j Q0
    simpa using this
theorem ZfG(xs ys zs:List Value):seg (xs++(ys++zs)) xs.length ys.length=some ys:=by
 induction xs with
 |nil=>
  induction ys with
  |nil=>cases zs<;>simp[seg]
  |cons y ys ih=>simp only[List.nil_append] at ih⊢;simp only[List.cons_append,List.length_cons,List.length_nil,seg] at ih⊢;rw[ih]
 |cons x xs ih=>
  simp only[List.cons_append,List.length_cons]
  rw[seg];exact ih
theorem Zam{cs:Array Value}(ht:ZmO P t n=true)(hb:w.heap[b]? =some (.cells cs t' fz))(hv:seg cs.toList off n=some vs):
  (loadVar t ⟨b,off,none⟩).run P w= .ok (.agg vs.toArray) w:=by
 obtain⟨hl,hat⟩:=Zed _ _ _ _ hv
 have:=run_loadCells_list (P:=P) w ⟨b,off,none⟩ vs (λj v hj=>by
  rw[ZbX]
  refine Zfs hb ?_
  have hlt:j<n:=by rw[<-hl];exact(List.getElem?_eq_some_iff.1 hj).1
  have:=hat j hlt
  rw[hj] at this
  simpa using this)
 rw[hl] at this
 simp[loadVar,Zgd ht,Zdv ht,this]
theorem Zi4{ad:Addr}(hx:ρ x= .pointer (some ad))(hl:(loadVar t ad).run P w= .ok v w)(h:R v w):OpTo P ⟨d, .load t x,ty,pos,af,g⟩ ρ w R:=
 OpTo.val (v:=v) (w':=w) (by simp[execOp,Instr.loadAt,Instr.sureAddr,hx,hl]) h
def nth:List Value->Nat->Option Value
 |[],_=>none
 |x::_,0=>some x
 | _::xs,i+1=>nth xs i
theorem Zcl:∀(xs:List Value)(i:Nat),nth xs i=xs[i]?
 |[],_=>rfl
 | _::_,0=>rfl
 | _::xs,i+1=>by simpa[nth] using Zcl xs i
theorem ZgY [ht:TOne P t](M:Mem S W0 w l)(hx:ρ x= .pointer (some ⟨b,off,none⟩))(hb:Has l b (.cells cs.toArray t' fz))(hv:nth cs off=some v)(h:R v w):OpTo P ⟨d, .load t x,ty,pos,af,g⟩ ρ w R:=
 Zi4 hx (ZdZ ht.h (Zfs (M.heap hb) (by rw[Zcl] at hv;simpa using hv))) h
theorem Zbs [ht:TAgg P t n](M:Mem S W0 w l)(hx:ρ x= .pointer (some ⟨b,off,none⟩))(hb:Has l b (.cells cs.toArray t' fz))(hv:seg cs off n=some vs)(h:R (.agg vs.toArray) w):OpTo P ⟨d, .load t x,ty,pos,af,g⟩ ρ w R:=
 Zi4 hx (Zam ht.h (M.heap hb) (by simpa using hv)) h
theorem run_sizeOf{t:TypeId}{n:Nat}(h:ZkH P t n=true):(sizeOf t).run P w= .ok n w:=by
 unfold ZkH at h
 cases hi:P.info? t with
 |none=>simp[hi] at h
 |some i=>simp[hi] at h;simp[sizeOf,typeInfo,hi,h]
def put:List Value->Nat->List Value->Option (List Value)
 |xs,0,[]=>some xs
 | _::xs,0,y::ys=>match put xs 0 ys with
  |some zs=>some (y::zs)
  |none=>none
 |x::xs,off+1,ys=>match put xs off ys with
  |some zs=>some (x::zs)
  |none=>none
 |[],_,_=>none
def ZbD(xs:List Value)(off:Nat)(ys:List Value):List Value:=xs.take off++(ys++xs.drop (off+ys.length))
theorem ZcZ:∀(xs:List Value)(off:Nat)(ys zs:List Value),put xs off ys=some zs->off+ys.length<=xs.length/\zs=ZbD xs off ys
 |xs,0,[],zs,h=>by simp[put] at h;subst h;simp[ZbD]
 |[],0,y::ys,zs,h=>by simp[put] at h
 |[],off+1,ys,zs,h=>by simp[put] at h
 |x::xs,0,y::ys,zs,h=>by
  simp only[put] at h
  cases hp:put xs 0 ys with
  |none=>simp[hp] at h
  |some us=>
   simp only[hp,Option.some.injEq] at h
   subst h
   obtain⟨h1,rfl⟩:=ZcZ xs 0 ys us hp
   exact⟨by simp at h1⊢;omega,by simp[ZbD,Nat.add_comm]⟩
 |x::xs,off+1,ys,zs,h=>by
  simp only[put] at h
  cases hp:put xs off ys with
  |none=>simp[hp] at h
  |some us=>
   simp only[hp,Option.some.injEq] at h
   subst h
   obtain⟨h1,rfl⟩:=ZcZ xs off ys us hp
   exact⟨by simp at h1⊢;omega,by simp[ZbD,show off+1+ys.length=(off+ys.length)+1 by omega]⟩
theorem ZiY:∀(xs:List Value)(off:Nat)(ys:List Value),off+ys.length<=xs.length->put xs off ys=some (ZbD xs off ys)
 |xs,0,[],_=>by simp[put,ZbD]
 |[],0,y::ys,h=>by simp at h
 |[],off+1,ys,h=>by simp at h
 |x::xs,0,y::ys,h=>by
  simp only[put]
  rw[ZiY xs 0 ys (by simp at h⊢;omega)]
  simp[ZbD,Nat.add_comm]
 |x::xs,off+1,ys,h=>by
  simp only[put]
  rw[ZiY xs off ys (by simp at h;omega)]
  simp[ZbD,show off+1+ys.length=(off+ys.length)+1 by omega]
theorem ZgM(xs:List Value)(off:Nat)(v:Value)(ys:List Value)(h:off<xs.length):ZbD (xs.set off v) (off+1) ys=ZbD xs off (v::ys):=by
 unfold ZbD
 have h1:(xs.set off v).take (off+1)=xs.take off++[v]:=by
  rw[List.take_set,List.take_succ_eq_append_getElem h,List.set_append]
  simp[Nat.min_eq_left (Nat.le_of_lt h)]
 have h2:(xs.set off v).drop (off+1+ys.length)=xs.drop (off+1+ys.length):=List.drop_set_of_lt Q0
 rw[h1,h2]
 simp[show off+1+ys.length=off+(ys.length+1) by omega]
theorem ZqZ{cs:Array Value}(hb:w.heap[b]? =some (.cells cs t' (0,0))):(w.setCell ⟨b,off,none⟩ v).heap[b]? =some (.cells (cs.setIfInBounds off v) t' (0,0)):=by
 simp[World.setCell,Array.getElem?_modify,hb]
theorem Zoo{cs:Array Value}(hb:w.heap[b]? =some (.cells cs t' (0,0)))(hlt:off<cs.size)(h1:v.oneCell'=true):(store ⟨b,off,none⟩ v:Sem Unit).run P w= .ok () (w.setCell ⟨b,off,none⟩ v):=by
 have hc:w.cell? ⟨b,off,none⟩=some cs[off]:=Zfs hb (Array.getElem?_eq_getElem hlt)
 have hf:w.frozen? ⟨b,off,none⟩=false:=by simp[World.frozen?,hb]
 rw[run_store P w _ v _ h1,hc]
 simp[hf]
theorem Zb5{b off:Nat}{t':TypeId}:∀(vs:List Value)(i:Nat)(cs:List Value)(w:World),w.heap[b]? =some (.cells cs.toArray t' (0,0))->off+i+vs.length<=cs.length->(∀v∈vs,v.oneCell'=true)->
  ∃w',(storeCells ⟨b,off,none⟩ vs i).run P w= .ok () w'/\Ext [b] w w'/\w'.heap[b]? =some (.cells (ZbD cs (off+i) vs).toArray t' (0,0))
 |[],i,cs,w,hb,_,_=>⟨w,by simp[storeCells],Ext.refl _ _,by simp[ZbD,hb]⟩
 |v::vs,i,cs,w,hb,hl,h1=>by
  have hlt:off+i<cs.length:=by simp at hl;omega
  have hs:=Zoo (P:=P) (off:=off+i) hb (by simpa using hlt) (h1 v Q5)
  have hb':(w.setCell ⟨b,off+i,none⟩ v).heap[b]? =some (.cells (cs.set (off+i) v).toArray t' (0,0)):=by
   rw[ZqZ hb];simp
  obtain⟨w',hr,he,hh⟩:=Zb5 (off:=off) vs (i+1) (cs.set (off+i) v) _ hb' (by simp at hl⊢;omega) (λu hu=>h1 u (by simp[hu]))
  refine⟨w',?_,(Ext.setCell w ⟨b,off+i,none⟩ v).trans he,?_⟩
  ·simp only[storeCells,ZbX,Sem.run_bind,hs,Result.andThen_ok,hr]
  ·rw[hh,show off+(i+1)=off+i+1 by omega,ZgM _ _ _ _ hlt]
theorem Zqm{cs cs':List Value} [hs:TSz P t 1](M:Mem S W0 w l)(hx:ρ x= .pointer (some ⟨b,off,none⟩))(hy:ρ y=v)(h1:v.oneCell'=true)(hb:Has l b (.cells cs.toArray t' (0,0)))(hp:put cs off [v]=some cs')
  (hu:Upd l b (.cells cs.toArray t' (0,0)) (.cells cs'.toArray t' (0,0)) l') (h:∀w',Ext [b] w w'->Mem S W0 w' l'->R undef w'):OpTo P ⟨d, .store t x y,ty,pos,af,g⟩ ρ w R:=by
 obtain⟨hle,rfl⟩:=ZcZ _ _ _ _ hp
 have hvc:v.cells= #[v]:=by cases v<;>simp_all [Value.oneCell',Value.cells]
 obtain⟨w',hr,he,hh⟩:=Zb5 (P:=P) (off:=off) [v] 0 cs w (M.heap hb) (by simpa using hle) (by simpa using h1)
 refine OpTo.skip (w':=w') ?_ (h _ he (M.turned hu he (by simpa using hh)))
 simp only[execOp,Instr.storeAt,Instr.sureAddr,hx,hy,storeVar,Sem.run_bind,Sem.run_pure,Result.andThen_ok,run_sizeOf hs.h,hvc]
 simp[hr]
theorem ZfA{cs cs':List Value} [hs:TSz P t 1](M:Mem S W0 w l)(hx:ρ x= .pointer (some ⟨b,off,none⟩))(hy:ρ y=v)(h1:v.oneCell'=true)(hb:Has l b (.cells cs.toArray t' (0,0)))(hp:put cs off [v]=some cs')
  (hu:Upd l b (.cells cs.toArray t' (0,0)) (.cells cs'.toArray t' (0,0)) l') (h:∀w',Mem S W0 w' l'->R undef w'):OpTo P ⟨d, .store t x y,ty,pos,af,g⟩ ρ w R:=
 Zqm M hx hy h1 hb hp hu λw' _=>h w'
theorem Zap{cs cs' vs:List Value} [hs:TAgg P t n](M:Mem S W0 w l)(hx:ρ x= .pointer (some ⟨b,off,none⟩))(hy:ρ y= .agg vs.toArray)(hn:vs.length=n)(h1:vs.all (·.oneCell')=true)(hb:Has l b (.cells cs.toArray t' (0,0)))(hp:put cs off vs=some cs')
  (hu:Upd l b (.cells cs.toArray t' (0,0)) (.cells cs'.toArray t' (0,0)) l') (h:∀w',Mem S W0 w' l'->R undef w'):OpTo P ⟨d, .store t x y,ty,pos,af,g⟩ ρ w R:=by
 obtain⟨hle,rfl⟩:=ZcZ _ _ _ _ hp
 obtain⟨w',hr,he,hh⟩:=Zb5 (P:=P) (off:=off) vs 0 cs w (M.heap hb) (by simpa using hle) (λv hv=>List.all_eq_true.1 h1 v hv)
 refine OpTo.skip (w':=w') ?_ (h _ (M.turned hu he (by simpa using hh)))
 simp only[execOp,Instr.storeAt,Instr.sureAddr,hx,hy,storeVar,Sem.run_bind,Sem.run_pure,Result.andThen_ok,Zdv hs.h,Value.cells]
 simp[hr,hn]
theorem Zh9{s:TypeId}{i b o off:Nat}(hx:ρ x= .pointer (some ⟨b,o,none⟩)) [hf':TFld P s i off](h:R (.pointer (some ⟨b,o+off,none⟩)) w):OpTo P ⟨d, .fieldAddr s x i,ty,pos,af,g⟩ ρ w R:=by
 have hf:=hf'.h
 unfold ZdU at hf
 split at hf
 ·rename_i fs hu
  split at hf
  ·rename_i f hfi
   simp only[Bool.and_eq_true,beq_iff_eq] at hf
   obtain⟨rfl,hf2⟩:=hf
   split at hf2
   ·rename_i i0 hi0
    have hz:¬i0.size=0:=by simpa using hf2
    exact OpTo.val (v:= .pointer (some ⟨b,o+f.offset,none⟩)) (w':=w) (by simp[execOp,Instr.fieldAt,Instr.sureAddr,hx,run_underlying hu,hfi,fieldPlace,sizeOf,typeInfo,hi0,hz,ZbX]) h
   ·cases hf2
  ·cases hf
 ·cases hf
theorem ZgZ{t e:TypeId}{x i:Operand}{b o len sz:Nat}{j:Int}(hx:ρ x= .pointer (some ⟨b,o,none⟩))(hi:ρ i= .int k j) [ht:TU P t (.array len e)] [hs:TSz P e sz](h0:0<=j)(h1:j<len)(h:R (.pointer (some ⟨b,o+j.toNat*sz,none⟩)) w):OpTo P ⟨d, .indexAddr t x i,ty,pos,af,g⟩ ρ w R:=
 OpTo.val (v:= .pointer (some ⟨b,o+j.toNat*sz,none⟩)) (w':=w) (by simp[execOp,Instr.indexAt,Instr.sureAddr,asIntOf,hx,hi,run_underlying ht.h,h0,h1,run_sizeOf hs.h,ZbX]) h
theorem Zex{t e:TypeId}{x i:Operand}{b o len cap sz:Nat}{j:Int}(hx:ρ x= .slice (some ⟨b,o,none⟩) len cap)(hi:ρ i= .int k j) [ht:TU P t (.slice e)] [hs:TSz P e sz](h0:0<=j)(h1:j<len)(h:R (.pointer (some ⟨b,o+j.toNat*sz,none⟩)) w):OpTo P ⟨d, .indexAddr t x i,ty,pos,af,g⟩ ρ w R:=
 OpTo.val (v:= .pointer (some ⟨b,o+j.toNat*sz,none⟩)) (w':=w) (by simp[execOp,Instr.indexAt,asIntOf,hx,hi,run_underlying ht.h,h0,h1,run_sizeOf hs.h,ZbX]) h
def Zyf:Value->Bool
 | .pointer (some _)| .bool _| .int _ _| .string _| .slice _ _ _| .map _| .agg _=>true
 | .func (.func _) _ _=>true
 | .func (.yield _) _ _=>true
 | _=>false
theorem Zan(hx:ρ x=v)(hv:Zyf v=true)(h:R v w):OpTo P ⟨d, .nilCheck x,ty,pos,af,g⟩ ρ w R:=by
 refine OpTo.val (v:=v) (w':=w) ?_ h
 unfold Zyf at hv
 split at hv<;>first|(simp[execOp,hx];done)|cases hv
theorem Zey(hx:ρ x= .tuple vs.toArray)(hv:nth vs i=some v)(h:R v w):OpTo P ⟨d, .extract x i,ty,pos,af,g⟩ ρ w R:=by
 rw[Zcl] at hv
 exact OpTo.val (v:=v) (w':=w) (by simp[execOp,Instr.extract,hx,hv]) h
theorem ZgX{fn:Fn}{first cap:Array Operand}{vs us:Array Value}(h1:first.map ρ=vs)(h2:cap.map ρ=us)(h:R (.func fn vs us) w):OpTo P ⟨d, .makeFunc fn first cap,ty,pos,af,g⟩ ρ w R:=
 OpTo.val (v:= .func fn vs us) (w':=w) (by simp[execOp,Instr.makeFunc,h1,h2]) h
theorem Zfb{f:FuncId}(h:Zj6 P f=true)(args:Array Value)(w:World):(callFunc f args).run P w= .ok (.enter f args) w:=by
 unfold Zj6 at h
 cases hf:P.funcs[f]? with
 |none=>simp[hf] at h
 |some fn=>
  simp only[hf,Bool.and_eq_true,Bool.not_eq_true'] at h
  obtain⟨c,hc⟩:=Option.isSome_iff_exists.1 h.1
  have hn:¬fn.name= "runtime.NumGoroutine" :=by simpa using h.2
  simp[callFunc,hf,hn,hc]
theorem Zav{xs:Array Operand}{vs:Array Value}(hc:ρ c= .func (.func f) #[] #[]) [hb:Zad P f](ha:xs.map ρ=vs)(h:Cal P f vs w R):OpTo P ⟨d, .call ⟨.value c,xs,ts⟩,ty,pos,af,g⟩ ρ w R:=
 OpTo.enter (w':=w) (by simp[execOp,resolve,invoke,Deferred.ofValue,hc,ha,Zfb hb.h]) h
theorem ZfB{xs:Array Operand}{vs cap us:Array Value}(hc:ρ c= .func (.func f) #[] cap) [hb:Zad P f](ha:xs.map ρ=vs)(hu:vs++cap=us)(h:Cal P f us w R):OpTo P ⟨d, .call ⟨.value c,xs,ts⟩,ty,pos,af,g⟩ ρ w R:=
 OpTo.enter (w':=w) (by simp[execOp,resolve,invoke,Deferred.ofValue,hc,ha,hu,Zfb hb.h]) h
end ops
theorem ZlB{x:Int}(h1: -9223372036854775808<=x)(h2:x<=9223372036854775807):IntKind.i64.wrap x=x:=by simp only[IntKind.wrap,IntKind.signed,IntKind.bits,Bool.true_and,Bool.false_and,decide_eq_true_eq,ge_iff_le,Bool.false_eq_true,if_false];first|omega|(split<;>omega)
theorem Qv{x:Int}(h1: -9223372036854775808<=x:=by omega)(h2:x<=9223372036854775807:=by omega):IntKind.i64.wrap x=x:=ZlB h1 h2
theorem w_u8{x:Int}(h1:0<=x)(h2:x<=255):IntKind.u8.wrap x=x:=by simp only[IntKind.wrap,IntKind.signed,IntKind.bits,Bool.true_and,Bool.false_and,decide_eq_true_eq,ge_iff_le,Bool.false_eq_true,if_false];first|omega|(split<;>omega)
theorem ZhP{x:Int}(h1:0<=x)(h2:x<=65535):IntKind.u16.wrap x=x:=by simp only[IntKind.wrap,IntKind.signed,IntKind.bits,Bool.true_and,Bool.false_and,decide_eq_true_eq,ge_iff_le,Bool.false_eq_true,if_false];first|omega|(split<;>omega)
theorem Ze9{x:Int}(h1:0<=x)(h2:x<=18446744073709551615):IntKind.u64.wrap x=x:=by simp only[IntKind.wrap,IntKind.signed,IntKind.bits,Bool.true_and,Bool.false_and,decide_eq_true_eq,ge_iff_le,Bool.false_eq_true,if_false];first|omega|(split<;>omega)
theorem Zar{c:Code}(S:List Nat)
  (hf:P.funcs[f]? =some fn) (hb:fn.body=some c) (hn:fn.ntmps=n) (hle:Nat.ble vs.length n=true)
  (h:∀a w,Frm a n [] (Zfj 0 vs)->Mem S W w []->w=W->Wp none P c (Post P fn R) a w):Cal P f vs.toArray W R:=
 Zmv hf hb hn hle λa F=>h a W F (Mem.start S W) rfl
def evL(fr:FN):List Operand->Option (List Value)
 |[]=>some []
 |x::xs=>match Ev fr x,evL fr xs with
  |some v,some vs=>some (v::vs)
  | _,_=>none
theorem Frm.evs{a:Act}{n:Nat}{df:List Deferred}{fr:FN}(F:Frm a n df fr):∀{xs:List Operand}{vs:List Value},evL fr xs=some vs->xs.toArray.map a.eval=vs.toArray
 |[],vs,h=>by simp[evL] at h;subst h;simp
 |x::xs,vs,h=>by
  simp only[evL] at h
  cases hx:Ev fr x with
  |none=>simp[hx] at h
  |some v=>
   cases hr:evL fr xs with
   |none=>simp[hx,hr] at h
   |some us=>
    simp only[hx,hr,Option.some.injEq] at h
    subst h
    have:=F.evs hr
    simp only[List.map_toArray,List.map_cons,F.e hx] at this⊢
    simp_all
theorem Qs{l:List (Nat×Obj)}(F:Frm a n df fr)(M:Mem S W0 w l)(h:∀b w,Mem S W0 w ((b, .cells cs.toArray t (0,0))::l)->∀a,Frm a n df ((d, .pointer (some ⟨b,0,none⟩))::fr)->wpListIn (FW r) 0 P os Q re a w)(hx:Ev fr x=some v:=by rfl)(hv:v.cells=cs.toArray:=by rfl)(hd:Nat.blt d n=true:=by rfl):wpListIn (FW r) 0 P os Q (⟨some d, .box t x,ty,pos,af,none⟩::re) a w:=sD F (ZjX M (F.e hx) hv h) rfl hd
theorem Qy{l:List (Nat×Obj)}{xs:List Operand} [hb:Zad P f](F:Frm a n df fr)(M:Mem S W0 w l)(hc:Ev fr c=some (.func (.func f) #[] #[]))(ha:evL fr xs=some vs)(h:Cal P f vs.toArray w λu w'=>u=v/\Ext [] w w')(k:∀w a,Mem S W0 w l->Frm a n df ((d,v)::fr)->wpListIn (FW r) 0 P os Q re a w)(hl:Nat.blt d n=true:=by rfl):wpListIn (FW r) 0 P os Q (⟨some d, .call ⟨.value c,xs.toArray,ts⟩,ty,pos,af,none⟩::re) a w:=sD F (Zav (F.e hc) (F.evs ha) (Cal.mono h λ_ w'⟨e,E⟩a' F'=>by subst e;exact k w' a' (M.later E) F')) rfl hl
theorem Qz{l:List (Nat×Obj)}{xs:List Operand}{j t:Nat}{b:Bool} [hb:Zad P f](F:Frm a n df fr)(M:Mem S W0 w l)(hc:Ev fr c=some (.func (.func f) #[] #[]))(ha:evL fr xs=some vs)(h:Cal P f vs.toArray w λu w'=>u=v/\Ext [] w w')(k:∀w a,Mem S W0 w l->Frm a n df ((d,v)::fr)->wpListIn (FW r) 0 P os Q re a w)(hl:Nat.blt d n=true:=by rfl)(hj:(os[j]?).bind (·.dst)=some t:=by rfl)(hb':look fr t=some (.bool b):=by rfl):wpListIn (FW r) 0 P os Q (⟨some d, .call ⟨.value c,xs.toArray,ts⟩,ty,pos,af,some (j,b)⟩::re) a w:=sG F (Zav (F.e hc) (F.evs ha) (Cal.mono h λ_ w'⟨e,E⟩a' F'=>by subst e;exact k w' a' (M.later E) F')) rfl hl hj hb'
abbrev Pred:=Value->World->Prop
def Kn(v:Value):Pred:=λx _=>x=v
structure Keep where
 /-- what an operation that may come at any time keeps -/
 r:World->World->Prop
 /-- what an operation with an effect keeps -/
 e:World->World->Prop
 refl:∀w,r w w
 re:∀{a b},r a b->e a b
 trans:∀{a b c},e a b->e b c->e a c
 size:∀{a b:World},e a b->a.heap.size<=b.heap.size
theorem Keep.erefl(K:Keep)(w:World):K.e w w:=K.re (K.refl w)
def Zg2:Keep:=⟨Ext [],Ext [],λw=>Ext.refl [] w,id,λh h'=>h.trans h',λh=>h.size⟩
def ZdH(T:List Nat):Keep:=⟨Ext [],Ext T,λw=>Ext.refl [] w,λh=>h.any,λh h'=>h.trans h',λh=>h.size⟩
structure Old(n:Nat)(w w':World):Prop where
 os:w'.os=w.os
 tape:w'.tape=w.tape
 output:w'.output=w.output
 size:w.heap.size<=w'.heap.size
 dr:w.drawn<=w'.drawn
 block:∀k,k<n->k<w.heap.size->w'.heap[k]? =w.heap[k]?
theorem Old.of_ext(h:Ext [] w w'):Old n w w':=⟨h.os,h.tape,h.output,h.size,h.dr,λk _ hk=>h.block k hk Q5⟩
theorem Old.trans{a b c:World}(h:Old n a b)(k:Old n b c):Old n a c:=
 ⟨k.os.trans h.os,k.tape.trans h.tape,k.output.trans h.output,Nat.le_trans h.size k.size,Nat.le_trans h.dr k.dr,λi hi hs=>(k.block i hi (Nat.lt_of_lt_of_le hs h.size)).trans (h.block i hi hs)⟩
def ZqO(n:Nat):Keep:=⟨Ext [],Old n,λw=>Ext.refl [] w,Old.of_ext,Old.trans,λh=>h.size⟩
abbrev Zep:=(Nat->Value)->World->Prop
def ZcG(K:Keep)(T:Zep):Prop:=∀σ w w',T σ w->K.r w w'->T σ w'
def noT:Zep:=λ_ _=>True
theorem noT.stays(K:Keep):ZcG K noT:=λ_ _ _ _ _=>trivial
def updS(σ:Nat->Value)(i:Nat)(v:Value):Nat->Value:=λk=>if k=i then v else σ k
def isAl:Op->Bool
 | .alloc _=>true
 | .box _ _=>true
 | _=>false
def Zcz(b:Nat):Value:= .pointer (some ⟨b,0,none⟩)
def Zfw(K:Keep)(V:Pred):Prop:=∀v w w',V v w->K.e w w'->V v w'
theorem Kn.stays(K:Keep)(v:Value):Zfw K (Kn v):=λ_ _ _ h _=>h
def ZaP(ops:Array Oper)(j:Nat)(a:Act):Value:=match (ops[j]?).bind (·.dst) with|some t=>a.tmps.getD t undef|none=>undef
def ZaE(o:Oper):List Nat:=(o.after.toList.filter (Region.binds .any)).map (·.on)
def ZmU(ops:Array Oper)(o:Oper):List Tmp:=(o.op.operands.toList.filterMap fun| .tmp t=>some t| _=>none)++(match o.guard with|some (j,_)=>((ops[j]?).bind (·.dst)).toList|none=>[])
def Zb2(ops:Array Oper)(n:Nat):Bool:=
 (List.range n).all λi=>match ops[i]? with
  |none=>false
  |some o=>
   (match o.op with| .select .. | .defer .. =>false| _=>true)&&(!isAl o.op||o.dst.isSome)&&((ZaE o).all λd=>decide (d<i))&&
   ((ZmU ops o).all λt=>(List.range n).all λj=>match ops[j]? with
    |some oj=>oj.dst !=some t||(ZaE o).contains j||(ZaE oj).contains i
    |none=>false)&&
   ((List.range n).all λj=>decide (j=i)||match ops[j]?,o.dst with
    |some oj,some t=>oj.dst !=some t
    | _,_=>true)&&
   (match o.guard with|some (j,_)=>(ZaE o).contains j&&((ops[j]?).bind (·.dst)).isSome|none=>true)
def ZcH(ops:Array Oper)(n:Nat):List Nat->Bool
 |[]=>true
 |[e]=>decide (e<n)
 |e::e'::r=>decide (e<e')&&decide (e<n)&&(match ops[e']? with|some o=>(ZaE o).contains e|none=>false)&&ZcH ops n (e'::r)
structure Zeq where
 j:Nat
 s:Nat
 z:Obj
 f:Obj
def Zeg(ops:Array Oper)(n:Nat)(Ef:List Nat)(Pp:List Zeq):Bool:=
 (Pp.all λq=>decide (q.j<n)&&(match ops[q.j]? with|some o=>isAl o.op&&o.guard.isNone|none=>false)&&(decide (n<=q.s)||(match ops[q.s]? with|some o=>(ZaE o).contains q.j&&o.guard.isNone|none=>false)))&&
 (Pp.isEmpty||Ef.isEmpty)&&(Pp.all λq=>Pp.all λq'=>(q.j !=q'.j)||(q.s==q'.s))
def ZdO(Pp:List Zeq)(i:Nat):Bool:=Pp.all λq=>q.j !=i&&q.s !=i
def PPre(Pp:List Zeq)(i:Nat)(sl:Nat->Value)(n0:Nat)(w:World):Prop:=∀q∈Pp,q.s=i->∃b,sl q.j=Zcz b/\n0<=b/\w.heap[b]? =some q.z
def Zlz(Pp:List Zeq)(i:Nat)(sl:Nat->Value)(w w':World):Prop:=
 (∀q∈Pp,q.j=i->w'.heap[w.heap.size]? =some q.z)/\(∀q∈Pp,q.s=i->∃b,sl q.j=Zcz b/\Ext [b] w w'/\w'.heap[b]? =some q.f)/\((∀q∈Pp,q.s≠i)->Pp≠[]->Ext [] w w')
theorem Zgk{Pp:List Zeq}(h:ZdO Pp i=true):∀q∈Pp,q.j≠i/\q.s≠i:=λq hq=>by
 simpa using List.all_eq_true.1 h q hq
theorem Zlz.flo{Pp:List Zeq}{sl:Nat->Value}(h:ZdO Pp i=true)(hE:Pp≠[]->Ext [] w w'):Zlz Pp i sl w w':=
 ⟨λq hq e=>absurd e (Zgk h q hq).1,λq hq e=>absurd e (Zgk h q hq).2,λ_ hne=>hE hne⟩
theorem ZkU{b b':Nat}(h:Zcz b=Zcz b'):b=b':=by unfold Zcz at h;injection h with h;injection h with h;injection h
def ZdM(Ef X:List Nat)(ops:Array Oper)(a:Act):Nat->Value:=λk=>if k∈Ef∨k∈X then ZaP ops k a else undef
def relV(op:Op)(u:Value):Option Value:=
 match op with
 | .move _=>some u
 | .extract _ i=>(match u with| .tuple vs=>vs[i]? | _=>none)
 | _=>none
def Zh3(ops:Array Oper)(n:Nat)(Rl:List (Nat×Nat)):Bool:=
 Rl.all λq=>decide (q.1<n)&&decide (q.2<n)&&(match ops[q.1]? with|some o=>(ZaE o).contains q.2&&o.guard.isNone&&o.dst.isSome|none=>false)
def irrT(T:Zep)(x:Nat):Prop:=∀σ v w,T σ w->T (updS σ x v) w
def xOk(ops:Array Oper)(n:Nat)(Ef X:List Nat):Bool:=
 X.all λx=>decide (x<n)&& !Ef.contains x&&Ef.all λe=>decide (e<=x)||Ef.any λe'=>decide (e'<=e)&&(match ops[e']? with|some o=>(ZaE o).contains x|none=>false)
def Zdg(ops:Array Oper)(n:Nat):Bool:=
 ((List.range n).all λi=>(List.range (n+1)).any λj=>decide (i<j)&&(match ops[j]? with|some o=>(ZaE o).contains i|none=>decide (n=ops.size)))&&
 ((List.range ops.size).all λt=>decide (t<=n)||(match ops[t]? with|some o=>(ZaE o).contains (t-1)|none=>false))&&
 ((List.range ops.size).all λt=>decide (t<n)||(match ops[t]? with|some o=>(ZaE o).all λd=>decide (d<t)|none=>false))
section
variable {K:Keep} {Pp:List Zeq} {Ef X:List Nat} {Rl:List (Nat×Nat)} {Ts:Nat->Zep} {P:Program} {r:Option Nat} {ops:Array Oper} {Q:Exit->Act->World->Prop} {nt:Nat} {df:List Deferred} {w1:World} {a1:Act}
structure Mid(K:Keep)(Pp:List Zeq)(Ef X:List Nat)(Rl:List (Nat×Nat))(Ts:Nat->Zep)(ops:Array Oper)(n nt:Nat)(df:List Deferred)(a1:Act)(w1:World)(Vs:List Pred)(listed:Array Bool)(a:Act)(w:World):Prop where
 lsize:listed.size=ops.size
 closed:∀j o,ops[j]? =some o->listed.getD j false=true->∀d∈ZaE o,listed.getD d false=true
 tail:∀t,n<=t->t<ops.size->listed.getD t true=false
 ext:K.e w1 w
 size:a.tmps.size=nt
 defers:a.defers=df
 base:∀t,(∀j o,j<n->ops[j]? =some o->listed.getD j false=true->o.dst≠some t)->a.tmps.getD t undef=a1.tmps.getD t undef
 vals:∀j V,j<n->listed.getD j false=true->Vs[j]? =some V->V (ZaP ops j a) w
 al:∀j o,j<n->ops[j]? =some o->isAl o.op=true->listed.getD j false=true->∃b,ZaP ops j a=Zcz b/\w1.heap.size<=b/\b<w.heap.size
 dist:∀i j oi oj,i<n->j<n->i≠j->ops[i]? =some oi->ops[j]? =some oj->isAl oi.op=true->isAl oj.op=true->listed.getD i false=true->listed.getD j false=true->ZaP ops i a≠ZaP ops j a
 st:∃p,Ts p (ZdM Ef X ops a) w/\∀e∈Ef,(listed.getD e false=true↔e<p)
 pr:∀q∈Pp,listed.getD q.j false=true->∃b,ZaP ops q.j a=Zcz b/\w1.heap.size<=b/\w.heap[b]? =some (if listed.getD q.s false=true then q.f else q.z)
 rel:∀q∈Rl,listed.getD q.1 false=true->∃o,ops[q.1]? =some o/\relV o.op (ZaP ops q.2 a)=some (ZaP ops q.1 a)
def Good(K:Keep)(Pp:List Zeq)(Ef X:List Nat)(Rl:List (Nat×Nat))(Ts:Nat->Zep)(P:Program)(r:Option Nat)(ops:Array Oper)(n nt:Nat)(df:List Deferred)(a1:Act)(w1:World)(Vs:List Pred)(i:Nat)(V:Pred):Prop:=
 ∀o,ops[i]? =some o->∀a w,K.e w1 w->a.tmps.size=nt->a.defers=df->(∀t,(∀j o,j<n->ops[j]? =some o->o.dst=some t->i∈ZaE o∨j=i)->a.tmps.getD t undef=a1.tmps.getD t undef)->
  (∀j∈ZaE o,∀U,Vs[j]? =some U->U (ZaP ops j a) w)->
  (i∈Ef->Ts i (ZdM Ef X ops a) w)->PPre Pp i (λk=>ZaP ops k a) w1.heap.size w->(∀q∈Rl,q.1∈ZaE o->∃oq,ops[q.1]? =some oq/\relV oq.op (ZaP ops q.2 a)=some (ZaP ops q.1 a))->
  if Region.wanted o (yielded ops a.tmps) then OpTo P o a.eval w λv w'=>K.e w w'/\V (if o.dst.isSome then v else undef) w'/\(isAl o.op=true->v=Zcz w.heap.size/\w.heap.size<w'.heap.size)/\(i∉Ef->(∀q∈Pp,q.s≠i)->K.r w w')/\(i∈Ef->Ts (i+1) (updS (ZdM Ef X ops a) i (if o.dst.isSome then v else undef)) w')/\Zlz Pp i (λk=>ZaP ops k a) w w'/\(∀q∈Rl,q.1=i->relV o.op (ZaP ops q.2 a)=some (if o.dst.isSome then v else undef))
  else V undef w/\isAl o.op=false/\(i∈Ef->Ts (i+1) (updS (ZdM Ef X ops a) i undef) w)
theorem Zgv{listed:Array Bool}(hi:i<listed.size):(listed.setIfInBounds i true).getD i false=true:=by
 simp[hi]
theorem Zwm{listed:Array Bool}(hi:i<listed.size)(h:¬listed.getD i false=true):listed.getD i true=false:=by
 simp[hi] at h⊢;exact h
theorem Znj{a:Act}{d:Option Tmp}{v:Value}{t:Nat}(h:d≠some t):(a.put d v).tmps.getD t undef=a.tmps.getD t undef:=by
 cases d with
 |none=>rfl
 |some x=>
  have:x≠t:=λe=>h (by rw[e])
  simp[Act.put,Array.getElem?_setIfInBounds,this]
theorem ZhJ{n:Nat}:∀{l:List Nat},ZcH ops n l=true->∀e∈l,e<n
 |[],_,e,he=>by cases he
 |[x],h,e,he=>by simp[ZcH] at h;simp at he;omega
 |x::y::r,h,e,he=>by
  simp only[ZcH,Bool.and_eq_true,decide_eq_true_eq] at h
  rcases List.mem_cons.1 he with rfl|he
  ·exact h.1.1.2
  ·exact ZhJ h.2 e he
theorem Zg7{n:Nat}:∀{x:Nat}{l:List Nat},ZcH ops n (x::l)=true->∀e∈l,x<e
 |x,[],_,e,he=>by cases he
 |x,y::r,h,e,he=>by
  simp only[ZcH,Bool.and_eq_true,decide_eq_true_eq] at h
  rcases List.mem_cons.1 he with rfl|he
  ·exact h.1.1.1
  ·have:=Zg7 h.2 e he;omega
theorem Zej{n:Nat}{listed:Array Bool}(hc:∀j o,ops[j]? =some o->listed.getD j false=true->∀d∈ZaE o,listed.getD d false=true):∀{l:List Nat},ZcH ops n l=true->∀i o,i∈l->ops[i]? =some o->(∀d∈ZaE o,listed.getD d false=true)->∀e∈l,e<i->listed.getD e false=true
 |[],_,i,o,hi,_,_,e,he,_=>by cases he
 |[x],_,i,o,hi,_,_,e,he,hlt=>by simp at hi he;omega
 |x::y::r,h,i,o,hi,ho,hd,e,he,hlt=>by
  have hall:=Zg7 h
  simp only[ZcH,Bool.and_eq_true,decide_eq_true_eq] at h
  have hi':i∈y::r:=by
   rcases List.mem_cons.1 hi with rfl|hi
   ·rcases List.mem_cons.1 he with rfl|he
    ·omega
    ·have:=hall e he;omega
   ·exact hi
  rcases List.mem_cons.1 he with rfl|he
  ·-- e is the head: y waits for it
   have hy:∀oy,ops[y]? =some oy->e∈ZaE oy:=λoy hoy=>by
    have:=h.1.2
    rw[hoy] at this
    simpa using this
   by_cases ey:y=i
   ·subst ey
    exact hd e (hy o ho)
   ·have hyi:y<i:=by
     rcases List.mem_cons.1 hi' with rfl|hi''
     ·exact absurd rfl ey
     ·exact Zg7 h.2 i hi''
    have hly:=Zej hc h.2 i o hi' ho hd y Q5 hyi
    cases hoy:ops[y]? with
    |none=>rw[hoy] at h;exact absurd h.1.2 Q5
    |some oy=>exact hc y oy hoy hly e (hy oy hoy)
  ·exact Zej hc h.2 i o hi' ho hd e he hlt
theorem ZeJ(hT:∀k,k∉Ef->Ts (k+1)=Ts k):∀(m p:Nat),(∀e∈Ef,p<=e->p+m<=e)->Ts (p+m)=Ts p
 |0,_,_=>rfl
 |m+1,p,h=>by
  have h1:p+m∉Ef:=λhm=>by have:=h _ hm Q0;omega
  rw[show p+(m+1)=(p+m)+1 by omega,hT _ h1]
  exact ZeJ hT m p λe he hp=>by have:=h e he hp;omega
theorem Mid.step{Vs:List Pred}{listed:Array Bool}{V:Pred}(hok:Zb2 ops n=true)(hs:∀V∈Vs,Zfw K V)(hef:ZcH ops n Ef=true)(hTs:∀k,ZcG K (Ts k))(hTc:∀k,k∉Ef->Ts (k+1)=Ts k)(hXo:xOk ops n Ef X=true)(hXT:∀x∈X,∀p,p<=x->irrT (Ts p) x)(hRo:Zh3 ops n Rl=true)(hpo:Zeg ops n Ef Pp=true)(M:Mid K Pp Ef X Rl Ts ops n nt df a1 w1 Vs listed a w)(hpp:Zlz Pp i (λk=>ZaP ops k a) w w')(hrl:∀q∈Rl,q.1=i->relV o.op (ZaP ops q.2 a)=some (if o.dst.isSome then v else undef))
  (hun:listed.getD i false=false) (hTn:Pp≠[]->∀k σ w,Ts k σ w) (hx:(i∉Ef->(∀q∈Pp,q.s≠i)->K.r w w')/\(i∈Ef->Ts (i+1) (updS (ZdM Ef X ops a) i (if o.dst.isSome then v else undef)) w'))
  (hi:i<n) (ho:ops[i]? =some o) (hdeps:∀d∈ZaE o,listed.getD d false=true) (hV:Vs[i]? =some V) (he:K.e w w') (hv:V (if o.dst.isSome then v else undef) w') (hlt:∀d,o.dst=some d->d<nt) (hal:isAl o.op=true->v=Zcz w.heap.size/\w.heap.size<w'.heap.size):
  Mid K Pp Ef X Rl Ts ops n nt df a1 w1 Vs (listed.setIfInBounds i true) (a.put o.dst v) w':=by
 have hio:i<ops.size:=(Array.getElem?_eq_some_iff.1 ho).1
 have hreg:=List.all_eq_true.1 hok i (List.mem_range.2 hi)
 rw[ho] at hreg
 simp only[Bool.and_eq_true] at hreg
 obtain⟨⟨⟨⟨⟨_,hals⟩,_⟩,_⟩,hdst⟩,_⟩:=hreg
 have hsame:ZaP ops i (a.put o.dst v)=if o.dst.isSome then v else undef:=by
  unfold ZaP
  rw[ho]
  cases hd:o.dst with
  |none=>simp[hd]
  |some d=>
   have:=hlt d hd
   have hda:d<a.tmps.size:=by rw[M.size];exact this
   simp[hd,Act.put,Array.getElem?_setIfInBounds,hda]
 have hother:∀j,j<n->i≠j->ZaP ops j (a.put o.dst v)=ZaP ops j a:=by
  intro j hj e
  unfold ZaP
  cases hd:(ops[j]?).bind (·.dst) with
  |none=>rfl
  |some t=>
   simp only
   refine Znj λhc=>?_
   have:=List.all_eq_true.1 hdst j (List.mem_range.2 hj)
   rw[hc] at this
   cases hoj:ops[j]? with
   |none=>rw[hoj] at hd;cases hd
   |some oj=>
    rw[hoj] at hd this
    simp only[Option.bind_some] at hd
    have hji:¬j=i:=λh=>e h.symm
    simp[hji,hd] at this
 have halv:isAl o.op=true->ZaP ops i (a.put o.dst v)=Zcz w.heap.size/\w.heap.size<w'.heap.size:=by
  intro ha
  have hs:o.dst.isSome=true:=by simpa[ha] using hals
  rw[hsame,hs]
  simpa using hal ha
 have hxq:∀x∈X,x<n/\x∉Ef/\∀e∈Ef,e<=x∨∃e'∈Ef,e'<=e/\∃o,ops[e']? =some o/\x∈ZaE o:=by
  intro x hx
  have h:=List.all_eq_true.1 hXo x hx
  simp only[Bool.and_eq_true,decide_eq_true_eq,Bool.not_eq_true'] at h
  refine⟨h.1.1,by simpa using h.1.2,λe he=>?_⟩
  have h2:=List.all_eq_true.1 h.2 e he
  simp only[Bool.or_eq_true,decide_eq_true_eq] at h2
  rcases h2 with h2|h2
  ·exact .inl h2
  ·obtain⟨e',he',h3⟩:=List.any_eq_true.1 h2
   simp only[Bool.and_eq_true,decide_eq_true_eq] at h3
   refine .inr ⟨e',he',h3.1,?_⟩
   have h4:=h3.2
   split at h4
   ·rename_i o' ho'
    exact⟨o',ho',by simpa using h4⟩
   ·cases h4
 have hslotE:ZdM Ef X ops (a.put o.dst v)=if i∈Ef∨i∈X then updS (ZdM Ef X ops a) i (if o.dst.isSome then v else undef) else ZdM Ef X ops a:=by
  have hkn:∀k,k∈Ef∨k∈X->k<n:=λk hk=>hk.elim (ZhJ hef k) λh=>(hxq k h).1
  funext k
  by_cases hiE:i∈Ef∨i∈X
  ·rw[if_pos hiE]
   unfold updS
   by_cases ek:k=i
   ·subst ek
    simp only[if_true,ZdM,hiE]
    exact hsame
   ·simp only[if_neg ek,ZdM]
    split
    ·rename_i hk
     exact hother k (hkn k hk) (λh=>ek h.symm)
    ·rfl
  ·rw[if_neg hiE]
   simp only[ZdM]
   split
   ·rename_i hk
    exact hother k (hkn k hk) (λh=>hiE (h▸hk))
   ·rfl
 simp only[Zeg,Bool.and_eq_true] at hpo
 have hpq:∀q∈Pp,q.j<n/\(∃o,ops[q.j]? =some o/\isAl o.op=true)/\(q.s<n->∃o,ops[q.s]? =some o/\q.j∈ZaE o):=by
  intro q hq
  have h:=List.all_eq_true.1 hpo.1.1 q hq
  simp only[Bool.and_eq_true,decide_eq_true_eq,Bool.or_eq_true] at h
  refine⟨h.1.1,?_,λhs=>?_⟩
  ·cases ho':ops[q.j]? with
   |none=>rw[ho'] at h;exact absurd h.1.2 Q5
   |some o'=>rw[ho'] at h;simp only[Bool.and_eq_true] at h;exact⟨o',rfl,h.1.2.1⟩
  ·have h2:=h.2.resolve_left Q0
   cases ho':ops[q.s]? with
   |none=>rw[ho'] at h2;exact absurd h2 Q5
   |some o'=>rw[ho'] at h2;simp only[Bool.and_eq_true] at h2;exact⟨o',rfl,by simpa using h2.1⟩
 have hsn:∀q∈Pp,n<=q.s->listed.getD q.s false=false:=by
  intro q hq hs
  rcases Nat.lt_or_ge q.s ops.size with h|h
  ·have:=M.tail q.s hs h
   have hl:q.s<listed.size:=by rw[M.lsize];exact h
   simp[hl] at this⊢;exact this
  ·have hl:listed.size<=q.s:=by rw[M.lsize];exact h
   simp[hl]
 refine⟨by simp[M.lsize],?_,?_,K.trans M.ext he,?_,?_,?_,?_,?_,?_,?_,?_,?_⟩
 ·intro j oj hj hl d hd
  by_cases e:i=j
  ·subst e
   obtain rfl:o=oj:=Option.some.inj (ho.symm.trans hj)
   exact getD_set_true (hdeps d hd)
  ·rw[getD_set_ne false e] at hl
   exact getD_set_true (M.closed j oj hj hl d hd)
 ·intro t ht hts
  rw[getD_set_ne true Q0]
  exact M.tail t ht hts
 ·cases o.dst<;>simp[Act.put,M.size]
 ·cases o.dst<;>simp[Act.put,M.defers]
 ·intro t ht
  rw[Znj (ht i o hi ho (Zgv (by rw[M.lsize];exact hio)))]
  exact M.base t λj oj hj hoj hl=>ht j oj hj hoj (getD_set_true hl)
 ·intro j U hj hl hU
  by_cases e:i=j
  ·subst e
   obtain rfl:V=U:=Option.some.inj (hV.symm.trans hU)
   rw[hsame]
   exact hv
  ·rw[getD_set_ne false e] at hl
   have h0:=M.vals j U hj hl hU
   rw[hother j hj e]
   exact hs U (List.mem_of_getElem? hU) _ _ _ h0 he
 ·intro j oj hj hoj ha hl
  by_cases e:i=j
  ·subst e
   obtain rfl:o=oj:=Option.some.inj (ho.symm.trans hoj)
   obtain⟨h1,h2⟩:=halv ha
   exact⟨_,h1,K.size M.ext,h2⟩
  ·rw[getD_set_ne false e] at hl
   obtain⟨b,h1,h2,h3⟩:=M.al j oj hj hoj ha hl
   exact⟨b,by rw[hother j hj e,h1],h2,Nat.lt_of_lt_of_le h3 (K.size he)⟩
 ·intro x y ox oy hx hy hne hox hoy hax hay hlx hly
  by_cases ex:i=x
  ·subst ex
   obtain rfl:o=ox:=Option.some.inj (ho.symm.trans hox)
   have ey:i≠y:=hne
   rw[getD_set_ne false ey] at hly
   obtain⟨b,h1,h2,h3⟩:=M.al y oy hy hoy hay hly
   rw[(halv hax).1,hother y hy ey,h1]
   intro hc
   have he:w.heap.size=b:=by unfold Zcz at hc;injection hc with hc;injection hc with hc;injection hc
   omega
  ·rw[getD_set_ne false ex] at hlx
   by_cases ey:i=y
   ·subst ey
    obtain rfl:o=oy:=Option.some.inj (ho.symm.trans hoy)
    obtain⟨b,h1,h2,h3⟩:=M.al x ox hx hox hax hlx
    rw[(halv hay).1,hother x hx ex,h1]
    intro hc
    have he:b=w.heap.size:=by unfold Zcz at hc;injection hc with hc;injection hc with hc;injection hc
    omega
   ·rw[getD_set_ne false ey] at hly
    rw[hother x hx ex,hother y hy ey]
    exact M.dist x y ox oy hx hy hne hox hoy hax hay hlx hly
 ·obtain⟨p,hp,hpl⟩:=M.st
  rw[hslotE]
  by_cases hiE:i∈Ef
  ·rw[if_pos (.inl hiE)]
   refine⟨i+1,hx.2 hiE,λe heE=>?_⟩
   have hbefore:=Zej M.closed hef i o hiE ho hdeps
   have hip:¬i<p:=λh=>by have:=(hpl i hiE).2 h;rw[hun] at this;cases this
   by_cases e1:i=e
   ·subst e1
    exact⟨λ_=>by omega,λ_=>Zgv (by rw[M.lsize];exact hio)⟩
   ·rw[getD_set_ne false e1]
    constructor
    ·intro hl
     have:=(hpl e heE).1 hl
     omega
    ·intro hl
     exact hbefore e heE Q0
  ·have hTp0:Ts p (ZdM Ef X ops a) w':=by
    by_cases hne:Pp=[]
    ·exact hTs p _ _ _ hp (hx.1 hiE (by rw[hne];simp))
    ·exact hTn hne p _ _
   have hTp:Ts p (if i∈Ef∨i∈X then updS (ZdM Ef X ops a) i (if o.dst.isSome then v else undef) else ZdM Ef X ops a) w':=by
    by_cases hiX:i∈X
    ·rw[if_pos (.inr hiX)]
     rcases Nat.lt_or_ge i p with hip|hip
     ·have hbt:=ZeJ hTc (p-(i+1)) (i+1) λe he hie=>by
       rcases(hxq i hiX).2.2 e he with h1|⟨e',he',h1,oe,hoe,h2⟩
       ·omega
       ·have hne':¬e'<p:=λh=>by
         have hl:=M.closed e' oe hoe ((hpl e' he').2 h) i h2
         rw[hun] at hl;cases hl
        omega
      rw[show i+1+(p-(i+1))=p by omega,hTc i hiE] at hbt
      rw[hbt] at hTp0⊢
      exact hXT i hiX i (Nat.le_refl _) _ _ _ hTp0
     ·exact hXT i hiX p hip _ _ _ hTp0
    ·rw[if_neg (λh=>h.elim hiE hiX)]
     exact hTp0
   refine⟨p,hTp,λe heE=>?_⟩
   rw[getD_set_ne false (λh:i=e=>hiE (by rw[h];exact heE))]
   exact hpl e heE
 ·intro q hq hl
  obtain⟨hqj,⟨oj,hoj,haj⟩,hqs⟩:=hpq q hq
  by_cases ej:i=q.j
  ·-- the alloc itself
   have hL:(listed.setIfInBounds i true).getD q.s false=false:=by
    rcases Nat.lt_or_ge q.s n with hs|hs
    ·obtain⟨os,hos,hd⟩:=hqs hs
     have hne:i≠q.s:=by
      intro e
      have hr:=List.all_eq_true.1 hok q.s (List.mem_range.2 hs)
      rw[hos] at hr
      simp only[Bool.and_eq_true] at hr
      have:=List.all_eq_true.1 hr.1.1.1.2 q.j hd
      simp at this
      omega
     rw[getD_set_ne false hne]
     cases hls:listed.getD q.s false with
     |false=>rfl
     |true=>
      have:=M.closed q.s os hos hls q.j hd
      rw[<-ej,hun] at this;cases this
    ·rw[getD_set_ne false Q0]
     exact hsn q hq hs
   obtain rfl:o=oj:=Option.some.inj (ho.symm.trans (by rw[ej];exact hoj))
   obtain⟨h1,h2⟩:=halv haj
   refine⟨w.heap.size,by rw[<-ej];exact h1,K.size M.ext,?_⟩
   rw[hL]
   simpa using hpp.1 q hq ej.symm
  ·rw[getD_set_ne false ej] at hl
   obtain⟨b,hb1,hb2,hb3⟩:=M.pr q hq hl
   refine⟨b,by rw[hother q.j hqj ej];exact hb1,hb2,?_⟩
   by_cases es:i=q.s
   ·obtain⟨b',g1,g2,g3⟩:=hpp.2.1 q hq es.symm
    have hbb:b=b':=ZkU (hb1.symm.trans g1)
    subst hbb
    rw[show(listed.setIfInBounds i true).getD q.s false=true by rw[<-es];exact Zgv (by rw[M.lsize];exact hio)]
    simpa using g3
   ·rw[getD_set_ne false es]
    rw[<-hb3]
    by_cases hex:∃q2∈Pp,q2.s=i
    ·obtain⟨q2,hq2,e2⟩:=hex
     obtain⟨b2,g1,g2,g3⟩:=hpp.2.1 q2 hq2 e2
     obtain⟨hq2j,⟨oj2,hoj2,haj2⟩,hq2s⟩:=hpq q2 hq2
     have hl2:listed.getD q2.j false=true:=by
      obtain⟨os,hos,hd⟩:=hq2s Q0
      obtain rfl:o=os:=Option.some.inj (ho.symm.trans (by rw[<-e2];exact hos))
      exact hdeps _ hd
     have hjj:q.j≠q2.j:=by
      intro e
      have:=List.all_eq_true.1 (List.all_eq_true.1 hpo.2 q hq) q2 hq2
      simp[e] at this
      omega
     have hne:ZaP ops q.j a≠ZaP ops q2.j a:=M.dist q.j q2.j oj oj2 hqj hq2j hjj hoj hoj2 haj haj2 hl hl2
     have hbne:b∉[b2]:=by
      simp only[List.mem_singleton]
      intro e
      apply hne
      have g1':ZaP ops q2.j a=Zcz b2:=g1
      rw[hb1,g1',e]
     exact g2.block b (Array.getElem?_eq_some_iff.1 hb3).1 hbne
    ·have hE:=hpp.2.2 (λq2 hq2 e2=>hex ⟨q2,hq2,e2⟩) (λh=>by rw[h] at hq;cases hq)
     exact hE.block b (Array.getElem?_eq_some_iff.1 hb3).1 Q5
 ·intro q hq hl
  have h:=List.all_eq_true.1 hRo q hq
  simp only[Bool.and_eq_true,decide_eq_true_eq] at h
  by_cases ej:i=q.1
  ·refine⟨o,by rw[<-ej];exact ho,?_⟩
   have h3:=h.2
   rw[<-ej,ho] at h3
   simp only[Bool.and_eq_true] at h3
   have hne:i≠q.2:=λe=>by
    have hd:=hdeps q.2 (by simpa using h3.1.1)
    rw[<-e,hun] at hd
    cases hd
   rw[<-ej,hsame,hother q.2 h.1.2 hne]
   exact hrl q hq ej.symm
  ·rw[getD_set_ne false ej] at hl
   obtain⟨oq,hoq,hr⟩:=M.rel q hq hl
   refine⟨oq,hoq,?_⟩
   have h3:=h.2
   rw[hoq] at h3
   simp only[Bool.and_eq_true] at h3
   have hne:i≠q.2:=λe=>by
    have hd:=M.closed q.1 oq hoq hl q.2 (by simpa using h3.1.1)
    rw[<-e,hun] at hd
    cases hd
   rw[hother q.1 h.1.1 ej,hother q.2 h.1.2 hne]
   exact hr
theorem Mid.pre{Vs:List Pred}{listed:Array Bool}(hpo:Zeg ops n Ef Pp=true)(M:Mid K Pp Ef X Rl Ts ops n nt df a1 w1 Vs listed a w)(hi:i<n)(ho:ops[i]? =some o)
  (hun:listed.getD i false=false) (hdeps:∀d∈ZaE o,listed.getD d false=true):PPre Pp i (λk=>ZaP ops k a) w1.heap.size w:=by
 intro q hq e
 simp only[Zeg,Bool.and_eq_true] at hpo
 have h:=List.all_eq_true.1 hpo.1.1 q hq
 simp only[Bool.and_eq_true,decide_eq_true_eq,Bool.or_eq_true] at h
 have h2:=h.2.resolve_left Q0
 rw[e,ho] at h2
 simp only[Bool.and_eq_true] at h2
 obtain⟨b,h3,h4,h5⟩:=M.pr q hq (hdeps q.j (by simpa using h2.1))
 rw[e,hun] at h5
 exact⟨b,h3,h4,by simpa using h5⟩
theorem Mid.state{Vs:List Pred}{listed:Array Bool}(hef:ZcH ops n Ef=true)(hTc:∀k,k∉Ef->Ts (k+1)=Ts k)(M:Mid K Pp Ef X Rl Ts ops n nt df a1 w1 Vs listed a w)
  (hun:listed.getD i false=false) (ho:ops[i]? =some o) (hdeps:∀d∈ZaE o,listed.getD d false=true) (hiE:i∈Ef):Ts i (ZdM Ef X ops a) w:=by
 obtain⟨p,hp,hpl⟩:=M.st
 have hbefore:=Zej M.closed hef i o hiE ho hdeps
 have hip:¬i<p:=λh=>by have:=(hpl i hiE).2 h;rw[hun] at this;cases this
 have:=ZeJ hTc (i-p) p λe he hpe=>by
  rcases Nat.lt_or_ge e i with h|h
  ·have:=(hpl e he).1 (hbefore e he h);omega
  ·omega
 rw[show p+(i-p)=i by omega] at this
 rw[this];exact hp
theorem Mid.last{Vs:List Pred}{listed:Array Bool}(hef:ZcH ops n Ef=true)(hTc:∀k,k∉Ef->Ts (k+1)=Ts k)(M:Mid K Pp Ef X Rl Ts ops n nt df a1 w1 Vs listed a w)(hall:∀i,i<n->listed.getD i false=true):∃m,n<=m/\Ts m (ZdM Ef X ops a) w/\Ts m=Ts n:=by
 obtain⟨p,hp,hpl⟩:=M.st
 rcases Nat.lt_or_ge p n with h|h
 ·have:=ZeJ hTc (n-p) p λe he hpe=>by
   have h1:=(hpl e he).1 (hall e (ZhJ hef e he));omega
  rw[show p+(n-p)=n by omega] at this
  exact⟨n,Nat.le_refl _,by rw[this];exact hp,rfl⟩
 ·have:=ZeJ hTc (p-n) n λe he hpe=>by
   have h1:=ZhJ hef e he;omega
  rw[show n+(p-n)=p by omega] at this
  exact⟨p,h,hp,this⟩
theorem Zjo{p q:Nat->Bool}{i:Nat}:∀{L:List Nat},L.Nodup->i∈L->p i=true->q i=false->(∀j,j≠i->p j=q j)->(L.filter p).length=(L.filter q).length+1
 |[],_,h,_,_,_=>by cases h
 |x::L,hnd,h,hp,hq,hpq=>by
  have hnd':=List.nodup_cons.1 hnd
  by_cases e:x=i
  ·subst e
   have:L.filter p=L.filter q:=List.filter_congr λj hj=>hpq j (λh=>hnd'.1 (h▸hj))
   simp[hp,hq,this]
  ·have hm:i∈L:=(List.mem_cons.1 h).resolve_left (λh=>e h.symm)
   have ih:=Zjo hnd'.2 hm hp hq hpq
   have hx:=hpq x e
   cases hqx:q x
   ·rw[hqx] at hx;simp[hx,hqx,ih]
   ·rw[hqx] at hx;simp[hx,hqx,ih]
theorem vCv(h:p:=by
  intro d hd
  obtain⟨e,he,rfl⟩:=List.mem_map.1 hd
  have:=List.mem_filter.1 he
  exact hall e (by simpa using this.1) this.2):p:=h
theorem Zo9{n:Nat}{Vs:List Pred}(hok:Zb2 ops n=true)(htl:Zdg ops n=true)(hn:n<=ops.size)(hlen:Vs.length=n)(hs:∀V∈Vs,Zfw K V)(hef:ZcH ops n Ef=true)(hTs:∀k,ZcG K (Ts k))(hTc:∀k,k∉Ef->Ts (k+1)=Ts k)(hXo:xOk ops n Ef X=true)(hXT:∀x∈X,∀p,p<=x->irrT (Ts p) x)(hRo:Zh3 ops n Rl=true)(hpo:Zeg ops n Ef Pp=true)(hTn:Pp≠[]->∀k σ w,Ts k σ w)(hdst:∀i o d,i<n->ops[i]? =some o->o.dst=some d->d<nt)
  (hgood:∀i V,Vs[i]? =some V->Good K Pp Ef X Rl Ts P r ops n nt df a1 w1 Vs i V)
  (htail:∀listed a w,Mid K Pp Ef X Rl Ts ops n nt df a1 w1 Vs listed a w->(∀i,i<n->listed.getD i false=true)->∀fuel,ops.size-n<=fuel->wpAnyIn (FW r) 0 P .any ops Q fuel listed a w):
  ∀(k fuel:Nat)(listed:Array Bool)(a:Act)(w:World),((List.range n).filter λi=> !listed.getD i false).length=k->k+(ops.size-n)<=fuel->Mid K Pp Ef X Rl Ts ops n nt df a1 w1 Vs listed a w->wpAnyIn (FW r) 0 P .any ops Q fuel listed a w:=by
 intro k
 induction k with
 |zero=>
  intro fuel listed a w hk hf M
  refine htail listed a w M (λi hi=>?_) fuel Q0
  have h0:((List.range n).filter λi=> !listed.getD i false)=[]:=List.length_eq_zero_iff.1 hk
  have:=List.filter_eq_nil_iff.1 h0 i (List.mem_range.2 hi)
  simpa using this
 |succ k ih=>
  intro fuel listed a w hk hf M
  obtain⟨fuel,rfl⟩:∃f,fuel=f+1:=⟨fuel-1,Q0⟩
  -- the least one that is not listed is ready
  have hex:∃i,i<n/\¬listed.getD i false=true:=by
   have hne:((List.range n).filter λi=> !listed.getD i false)≠[]:=by intro h;rw[h] at hk;cases hk
   obtain⟨i,hi⟩:=List.exists_mem_of_ne_nil _ hne
   have:=List.mem_filter.1 hi
   exact⟨i,List.mem_range.1 this.1,by simpa using this.2⟩
  -- a tail operation is not ready
  have hno:∀t,t∈Region.ready .any ops listed->t<n:=by
   intro t ht
   rcases Nat.lt_or_ge t n with h|h
   ·exact h
   ·exfalso
    obtain⟨hun,ot,hot,hall⟩:=mem_ready.1 ht
    have hts:t<ops.size:=(Array.getElem?_eq_some_iff.1 hot).1
    have hall':∀d∈ZaE ot,listed.getD d false=true:=by
     exact vCv
    simp only[Zdg,Bool.and_eq_true] at htl
    rcases Nat.lt_or_ge n t with h'|h'
    ·have:=List.all_eq_true.1 htl.1.2 t (List.mem_range.2 hts)
     rw[hot] at this
     have hnt:¬t<=n:=by omega
     simp[hnt] at this
     have h1:=hall' _ this
     have h2:=M.tail (t-1) Q0 Q0
     have hsz:t-1<listed.size:=by rw[M.lsize];omega
     simp[hsz] at h1 h2
     rw[h1] at h2;cases h2
    ·have htn:n=t:=by omega
     subst htn
     -- all before n are listed, downward
     have key:∀m i,n-i=m->i<n->listed.getD i false=true:=by
      intro m
      induction m using Nat.strongRecOn with
      | _ m ihm=>
       intro i him hi
       have:=List.all_eq_true.1 htl.1.1 i (List.mem_range.2 hi)
       obtain⟨j,hj,hj2⟩:=List.any_eq_true.1 this
       simp only[Bool.and_eq_true,decide_eq_true_eq] at hj2
       have hjn:j<=n:=by have:=List.mem_range.1 hj;omega
       cases hoj:ops[j]? with
       |none=>
        have hge:ops.size<=j:=by
         rcases Nat.lt_or_ge j ops.size with h|h
         ·rw[Array.getElem?_eq_getElem h] at hoj;cases hoj
         ·exact h
        omega
       |some oj=>
        rw[hoj] at hj2
        have hc:i∈ZaE oj:=by simpa using hj2.2
        rcases Nat.lt_or_ge j n with hjl|hjg
        ·exact M.closed j oj hoj (ihm (n-j) Q0 j rfl hjl) i hc
        ·have hjn':n=j:=by omega
         subst hjn'
         obtain rfl:oj=ot:=Option.some.inj (hoj.symm.trans hot)
         exact hall' i hc
     obtain⟨i,hi,hun'⟩:=hex
     exact hun' (key _ i rfl hi)
  refine⟨λhnil=>?_,λi hi=>?_⟩
  ·-- something is ready: the least that is not listed
   exfalso
   obtain⟨i0,hi0,hu0⟩:=hex
   have:∃i,i<n/\¬listed.getD i false=true/\∀j,j<i->listed.getD j false=true:=by
    induction i0 using Nat.strongRecOn with
    | _ i0 ihi=>
     by_cases h:∃j,j<i0/\¬listed.getD j false=true
     ·obtain⟨j,hj,hju⟩:=h
      exact ihi j hj Q0 hju
     ·exact⟨i0,hi0,hu0,λj hj=>Classical.byContradiction λhc=>h ⟨j,hj,hc⟩⟩
   obtain⟨i,hi,hu,hall⟩:=this
   have hio:i<ops.size:=by omega
   have hreg:=List.all_eq_true.1 hok i (List.mem_range.2 hi)
   rw[Array.getElem?_eq_getElem hio] at hreg
   simp only[Bool.and_eq_true] at hreg
   obtain⟨⟨⟨⟨⟨_,_⟩,hback⟩,_⟩,_⟩,_⟩:=hreg
   have hready:i∈Region.ready .any ops listed:=by
    refine mem_ready.2 ⟨Zwm (by rw[M.lsize];exact hio) hu,_,Array.getElem?_eq_getElem hio,λe he hb=>hall _ ?_⟩
    have:e.on∈ZaE ops[i]:=List.mem_map.2 ⟨e,List.mem_filter.2 ⟨by simpa using he,hb⟩,rfl⟩
    simpa using List.all_eq_true.1 hback _ this
   rw[hnil] at hready
   cases hready
  ·have hin:=hno i hi
   obtain⟨hun,o,ho,hall⟩:=mem_ready.1 hi
   have hall':∀d∈ZaE o,listed.getD d false=true:=by
    exact vCv
   have hVi:∃V,Vs[i]? =some V:=⟨Vs[i]'Q0,List.getElem?_eq_getElem Q0⟩
   obtain⟨V,hV⟩:=hVi
   have hreg:=List.all_eq_true.1 hok i (List.mem_range.2 hin)
   rw[ho] at hreg
   simp only[Bool.and_eq_true] at hreg
   obtain⟨⟨⟨⟨⟨hsel,_⟩,_⟩,_⟩,_⟩,_⟩:=hreg
   have hp:Zd3 o.op=true:=by
    cases hop:o.op<;>first|rfl|(rw[hop] at hsel;cases hsel)
   have hcount:((List.range n).filter λj=> !(listed.setIfInBounds i true).getD j false).length=k:=by
    have hisz:i<listed.size:=by rw[M.lsize];omega
    have:=Zjo (p:=λj=> !listed.getD j false) (q:=λj=> !(listed.setIfInBounds i true).getD j false) (List.nodup_range (n:=n)) (List.mem_range.2 hin) (by simp[hisz] at hun⊢;exact hun) (by simp[hisz]) (λj hj=>by
     show(!listed.getD j false)= !(listed.setIfInBounds i true).getD j false
     rw[getD_set_ne false (λe=>hj e.symm)])
    omega
   have hunF:listed.getD i false=false:=by
    have hisz:i<listed.size:=by rw[M.lsize];omega
    simp[hisz] at hun⊢;exact hun
   have hg:=hgood i V hV o ho a w M.ext M.size M.defers (λt ht=>M.base t λj oj hj hoj hl hd=>by
    rcases ht j oj hj hoj hd with h1|h1
    ·have:=M.closed j oj hoj hl i h1
     rw[hunF] at this;cases this
    ·rw[h1,hunF] at hl;cases hl) (λj hj U hU=>by
    rcases Nat.lt_or_ge j n with hjn|hjn
    ·exact M.vals j U hjn (hall' j hj) hU
    ·rw[List.getElem?_eq_none Q0] at hU;cases hU) (λhiE=>M.state hef hTc hunF ho hall' hiE) (M.pre hpo hin ho hunF hall') (λq hq hd=>M.rel q hq (hall' q.1 hd))
   unfold wpOpIn
   simp only[ho]
   split
   ·rename_i hw
    rw[if_pos hw] at hg
    exact Zgl hp (hg.mono λv w'⟨he,hv,hal,hx1,hx2,hpp,hrl⟩=>ih fuel _ _ _ hcount Q0 (M.step hok hs hef hTs hTc hXo hXT hRo hpo hpp hrl hunF hTn ⟨hx1,hx2⟩ hin ho hall' hV he hv (λd hd=>hdst i o d hin ho hd) hal))
   ·rename_i hw
    rw[if_neg hw] at hg
    have hppN:Zlz Pp i (λk=>ZaP ops k a) w w:=by
     have hpo':=hpo
     simp only[Zeg,Bool.and_eq_true] at hpo'
     have hgn:∀g:Option (Nat×Bool),o.guard=g->g.isNone=true->False:=λg hg hn=>by
      cases g with
      |none=>exact hw (by unfold Region.wanted;rw[hg])
      |some _=>cases hn
     refine⟨λq hq e=>?_,λq hq e=>?_,λ_ _=>Ext.refl _ _⟩
     ·have h:=List.all_eq_true.1 hpo'.1.1 q hq
      simp only[Bool.and_eq_true] at h
      rw[e,ho] at h
      simp only[Bool.and_eq_true] at h
      exact(hgn _ rfl h.1.2.2).elim
     ·have h:=List.all_eq_true.1 hpo'.1.1 q hq
      simp only[Bool.and_eq_true,Bool.or_eq_true,decide_eq_true_eq] at h
      have h2:=h.2.resolve_left Q0
      rw[e,ho] at h2
      simp only[Bool.and_eq_true] at h2
      exact(hgn _ rfl h2.2).elim
    have hrlN:∀q∈Rl,q.1=i->relV o.op (ZaP ops q.2 a)=some (if o.dst.isSome then undef else undef):=λq hq e=>by
     have h:=List.all_eq_true.1 hRo q hq
     simp only[Bool.and_eq_true] at h
     rw[e,ho] at h
     simp only[Bool.and_eq_true] at h
     exact absurd (by unfold Region.wanted;rw[Option.isNone_iff_eq_none.1 h.2.1.2]) hw
    have hx:∀b:Bool,(if b=true then undef else undef)=(undef:Value):=λb=>by cases b<;>rfl
    refine⟨λ_ _=>trivial,ih fuel _ _ _ hcount Q0 (M.step hok hs hef hTs hTc hXo hXT hRo hpo hppN hrlN hunF hTn ⟨λ_ _=>K.refl _,λhiE=>by rw[hx];exact hg.2.2 hiE⟩ hin ho hall' hV (K.erefl _) ?_ (λd hd=>hdst i o d hin ho hd) (λh=>by rw[hg.2.1] at h;cases h))⟩
    rw[hx];exact hg.1
theorem ZrZ{n:Nat}(htl:Zdg ops n=true):∀(m fuel k:Nat)(listed:Array Bool)(a:Act)(w:World),ops.size-k=m->m<=fuel->n<=k->k<=ops.size->listed.size=ops.size->
  (∀i,i<k->listed.getD i false=true)->(∀i,k<=i->i<ops.size->listed.getD i true=false)->
  wpListIn (FW r) 0 P ops Q (ops.toList.drop k) a w->wpAnyIn (FW r) 0 P .any ops Q fuel listed a w:=by
 simp only[Zdg,Bool.and_eq_true] at htl
 intro m
 induction m with
 |zero=>
  intro fuel k listed a w hm hf hnk hk hsz hd hu h
  have hke:k=ops.size:=by omega
  have hr:Region.ready .any ops listed=[]:=by
   cases hr:Region.ready .any ops listed with
   |nil=>rfl
   |cons i is=>
    have hi:i∈Region.ready .any ops listed:=by rw[hr];simp
    obtain⟨hun,o,ho,_⟩:=mem_ready.1 hi
    have his:i<ops.size:=(Array.getElem?_eq_some_iff.1 ho).1
    have:=hd i Q0
    have hl:i<listed.size:=by omega
    simp[hl] at this hun
    rw[this] at hun;cases hun
  have hq:Q .normal a w:=by
   have hnil:ops.toList.drop k=[]:=List.drop_eq_nil_of_le (by simp;omega)
   rw[hnil] at h
   exact h
  cases fuel with
  |zero=>exact⟨hr,hq⟩
  |succ fuel=>exact⟨λ_=>hq,λi hi=>by rw[hr] at hi;cases hi⟩
 |succ m ih=>
  intro fuel k listed a w hm hf hnk hk hsz hd hu h
  obtain⟨fuel,rfl⟩:∃f,fuel=f+1:=⟨fuel-1,Q0⟩
  have hks:k<ops.size:=by omega
  have hok:ops[k]? =some ops[k]:=Array.getElem?_eq_getElem hks
  have hready:k∈Region.ready .any ops listed:=by
   refine mem_ready.2 ⟨hu k (Nat.le_refl _) hks,_,hok,λe he hb=>hd _ ?_⟩
   have h3:=List.all_eq_true.1 htl.2 k (List.mem_range.2 hks)
   rw[hok] at h3
   have hkn:¬k<n:=by omega
   simp only[hkn,decide_false,Bool.false_or] at h3
   have:e.on∈ZaE ops[k]:=List.mem_map.2 ⟨e,List.mem_filter.2 ⟨by simpa using he,hb⟩,rfl⟩
   simpa using List.all_eq_true.1 h3 _ this
  have honly:∀i∈Region.ready .any ops listed,i=k:=by
   intro i hi
   obtain⟨hun,o,ho,hall⟩:=mem_ready.1 hi
   have his:i<ops.size:=(Array.getElem?_eq_some_iff.1 ho).1
   have hl:i<listed.size:=by omega
   rcases Nat.lt_trichotomy i k with h1|h1|h1
   ·have:=hd i h1
    simp[hl] at this hun
    rw[this] at hun;cases hun
   ·exact h1
   ·exfalso
    have h2:=List.all_eq_true.1 htl.1.2 i (List.mem_range.2 his)
    rw[ho] at h2
    have hin:¬i<=n:=by omega
    simp[hin] at h2
    obtain⟨e,he,heq⟩:=List.mem_map.1 h2
    have hem:=List.mem_filter.1 he
    have h4:=hall e (by simpa using hem.1) hem.2
    have h5:=hu (i-1) Q0 Q0
    have hl':i-1<listed.size:=by omega
    rw[heq] at h4
    simp[hl'] at h4 h5
    rw[h4] at h5;cases h5
  refine⟨λhnil=>(by rw[hnil] at hready;cases hready),λi hi=>?_⟩
  obtain rfl:=honly i hi
  have hdrop:ops.toList.drop i=ops[i]::ops.toList.drop (i+1):=by
   rw[List.drop_eq_getElem_cons (by simpa using hks)]
   simp
  rw[hdrop] at h
  unfold wpOpIn
  simp only[hok]
  simp only[wpListIn] at h
  have hnext:∀a w,wpListIn (FW r) 0 P ops Q (ops.toList.drop (i+1)) a w->wpAnyIn (FW r) 0 P .any ops Q fuel (listed.setIfInBounds i true) a w:=by
   intro a' w' h'
   refine ih fuel (i+1) _ a' w' Q0 Q0 Q0 Q0 (by simp[hsz]) (λj hj=>?_) (λj hj hjs=>?_) h'
   ·by_cases e:i=j
    ·subst e;exact Zgv Q0
    ·exact getD_set_true (hd j Q0)
   ·rw[getD_set_ne true Q0]
    exact hu j Q0 hjs
  split
  ·rename_i hw
   rw[if_pos hw] at h
   exact Oper.wpIn_mono hnext h
  ·rename_i hw
   rw[if_neg hw] at h
   exact⟨h.1,hnext _ _ h.2⟩
theorem vBU(h:p:=by
  rw[getD_replicate_false] at hl;cases hl):p:=h
theorem ZiW{id n:Nat}{Vs:List Pred}{a1:Act}{w:World}(hm:P.follows .mixedOrders=true)(hok:Zb2 ops n=true)(htl:Zdg ops n=true)(hn:n<=ops.size)(hlen:Vs.length=n)(hs:∀V∈Vs,Zfw K V)(hef:ZcH ops n Ef=true)(hTs:∀k,ZcG K (Ts k))(hTc:∀k,k∉Ef->Ts (k+1)=Ts k)(hXo:xOk ops n Ef X=true)(hXT:∀x∈X,∀p,p<=x->irrT (Ts p) x)(hRo:Zh3 ops n Rl=true)(hT0:Ts 0 (ZdM Ef X ops a1) w1)(hpo:Zeg ops n Ef Pp=true)(hTn:Pp≠[]->∀k σ w,Ts k σ w)(hdst:∀i o d,i<n->ops[i]? =some o->o.dst=some d->d<nt)
  (h1:a1.tmps.size=nt) (h2:a1.defers=df) (hw1:w1= {w with drawn:=w.drawn+1})
  (hgood:∀i V,Vs[i]? =some V->Good K Pp Ef X Rl Ts P r ops n nt df a1 w1 Vs i V)
  (htail:∀listed a w,Mid K Pp Ef X Rl Ts ops n nt df a1 w1 Vs listed a w->(∀i,i<n->listed.getD i false=true)->wpListIn (FW r) 0 P ops Q (ops.toList.drop n) a w):
  Wp r P (.region id ops true) Q a1 w:=by
 refine wpIn_region_any hm ?_
 rw[<-hw1]
 refine Zo9 (a1:=a1) hok htl hn hlen hs hef hTs hTc hXo hXT hRo hpo hTn hdst hgood (λlisted a w M hall fuel hf=>ZrZ htl (ops.size-n) fuel n listed a w rfl hf (Nat.le_refl _) hn M.lsize hall (λi hi his=>M.tail i hi his) (htail listed a w M hall)) n ops.size _ a1 w1 ?_ Q0 ?_
 ·have:((List.range n).filter λi=> !(Array.replicate ops.size false).getD i false)=List.range n:=List.filter_eq_self.2 λi _=>by rw[getD_replicate_false];rfl
  rw[this];simp
 ·refine⟨by simp,λj o _ hl=>?_,λt _ ht=>by simp[ht],K.erefl _,h1,h2,λ_ _=>rfl,λj V _ hl=>?_,λj o _ _ _ hl=>?_,λi j oi oj _ _ _ _ _ _ _ hl=>?_,⟨0,hT0,λe _=>⟨λhl=>?_,λh=>by omega⟩⟩,λq _ hl=>?_,λq _ hl=>?_⟩
  ·exact vBU
  ·exact vBU
  ·exact vBU
  ·exact vBU
  ·exact vBU
  ·exact vBU
  ·exact vBU
end
structure Cov(ops:Array Oper)(n nt:Nat)(a1:Act)(fr:FN)(Vs:List Pred):Prop where
 c:∀t v,look fr t=some v->((∀j o,j<Vs.length->ops[j]? =some o->o.dst≠some t)/\a1.tmps.getD t undef=v)∨(∃j o,j<Vs.length/\ops[j]? =some o/\o.dst=some t/\Vs[j]? =some (Kn v)/\t<nt)
structure RC where
 K:Keep
 Ef:List Nat
 Pp:List Zeq
 P:Program
 r:Option Nat
 ops:Array Oper
 n:Nat
 nt:Nat
 df:List Deferred
 a1:Act
 w1:World
 Q:Exit->Act->World->Prop
 X:List Nat
 Rl:List (Nat×Nat)
def XT(c:RC)(k:Nat)(T:Zep):Prop:=∀x∈c.X,k<=x->irrT T x
theorem XT.succ{c:RC}{k:Nat}{T:Zep}(h:XT c k T):XT c (k+1) T:=λx hx hk=>h x hx Q0
theorem XT.nil{c:RC}(h:c.X=[]){k:Nat}{T:Zep}:XT c k T:=λx hx=>by rw[h] at hx;cases hx
def PK(c:RC):Prop:=(Zeg c.ops c.n c.Ef c.Pp=true/\Zh3 c.ops c.n c.Rl=true)/\(c.Pp≠[]->∀w w',c.K.r w w'->Ext [] w w')
def MW0(c:RC)(rest:List Oper)(fr:FN)(Vs:List Pred)(T:Zep):Prop:=
 c.ops.toList.drop Vs.length=rest->Cov c.ops c.n c.nt c.a1 fr Vs->Vs.length<=c.n->c.a1.tmps.size=c.nt->
  ∃(Us:List Pred)(Ts:Nat->Zep),(Vs++Us).length=c.n/\(∀V∈Us,Zfw c.K V)/\Ts Vs.length=T/\(∀k,Vs.length<k->ZcG c.K (Ts k))/\(∀k,Vs.length<=k->k∉c.Ef->Ts (k+1)=Ts k)/\(∀k,Vs.length<=k->XT c k (Ts k))/\
   (∀Ts',(∀k,Vs.length<=k->Ts' k=Ts k)->(∀i V,Us[i]? =some V->Good c.K c.Pp c.Ef c.X c.Rl Ts' c.P c.r c.ops c.n c.nt c.df c.a1 c.w1 (Vs++Us) (Vs.length+i) V)/\
   (∀listed a w,Mid c.K c.Pp c.Ef c.X c.Rl Ts' c.ops c.n c.nt c.df c.a1 c.w1 (Vs++Us) listed a w->(∀i,i<c.n->listed.getD i false=true)->Ts' c.n (ZdM c.Ef c.X c.ops a) w->wpListIn (FW c.r) 0 c.P c.ops c.Q (c.ops.toList.drop c.n) a w))
def ZgV(fr:FN)(nt:Nat)(a:Act):Act:= {a with tmps:=Array.ofFn (n:=nt) λt=>(look fr t.1).getD (a.tmps.getD t.1 undef)}
theorem Zi2(fr:FN)(nt:Nat)(a:Act)(t:Nat):(ZgV fr nt a).tmps.getD t undef=if t<nt then(look fr t).getD (a.tmps.getD t undef) else undef:=by
 simp only[ZgV,Array.getD_eq_getD_getElem?,Array.getElem?_ofFn]
 split<;>simp_all
section
variable {c:RC} {fr:FN} {Vs:List Pred}
theorem Zp5(hC:Cov c.ops c.n c.nt c.a1 fr Vs)(h1:c.a1.tmps.size=c.nt)(hd:a.defers=c.df):Frm (ZgV fr c.nt a) c.nt c.df fr:=by
 refine⟨by simp[ZgV],hd,λt v h=>?_⟩
 rw[Zi2]
 split
 ·rw[h];rfl
 ·rename_i hge
  rcases hC.c t v h with⟨_,hb⟩|⟨_,_,_,_,_,_,hlt⟩
  ·have:c.a1.tmps.size<=t:=by omega
   rw[<-hb]
   simp[this]
  ·exact absurd hlt hge
theorem Znp{a:Act}{w:World}{o:Oper}{i t:Nat}(hok:Zb2 c.ops c.n=true)(hC:Cov c.ops c.n c.nt c.a1 fr Vs)(hle:Vs.length<=c.n)(ho:c.ops[i]? =some o)(hi:i<c.n)(hsz:a.tmps.size=c.nt)
  (hbase:∀t,(∀j o,j<c.n->c.ops[j]? =some o->o.dst=some t->i∈ZaE o∨j=i)->a.tmps.getD t undef=c.a1.tmps.getD t undef)
  (hdep:∀j∈ZaE o,∀U,Vs[j]? =some U->U (ZaP c.ops j a) w) (hiV:i=Vs.length) (ht:(∀j oj,c.ops[j]? =some oj->oj.dst=some t->j<c.n->j∈ZaE o∨i∈ZaE oj)) (hback:∀d∈ZaE o,d<i):(ZgV fr c.nt a).tmps.getD t undef=a.tmps.getD t undef:=by
 rw[Zi2]
 split
 ·cases hl:look fr t with
  |none=>rfl
  |some v=>
   rcases hC.c t v hl with⟨hn,hb⟩|⟨j,oj,hj,hoj,hdj,hV,_⟩
   ·rw[hbase t (λj oj hj hoj hd=>by
     by_cases e:j=i
     ·exact .inr e
     ·rcases ht j oj hoj hd hj with h1|h1
      ·exact absurd hd (hn j oj (by have:=hback j h1;omega) hoj)
      ·exact .inl h1),hb];rfl
   ·have hjd:j∈ZaE o:=(ht j oj hoj hdj Q0).resolve_right λh1=>by
     have hreg:=List.all_eq_true.1 hok j (List.mem_range.2 Q0)
     rw[hoj] at hreg
     simp only[Bool.and_eq_true] at hreg
     have:=List.all_eq_true.1 hreg.1.1.1.2 i h1
     simp at this
     omega
    have h:=hdep j hjd _ hV
    unfold ZaP at h
    rw[hoj] at h
    simp only[Option.bind_some,hdj] at h
    exact h.symm
 ·have:a.tmps.size<=t:=by omega
  simp[this]
theorem ZcN{rest:List Oper}{V:Pred}{T T':Zep}{fr':FN}(hok:Zb2 c.ops c.n=true)(hlt:Vs.length<c.n)(hst:Zfw c.K V)(hsT:ZcG c.K T')(hX0:XT c Vs.length T)(hTT:Vs.length∉c.Ef->T'=T)(hPK:PK c)
  (hfr:Cov c.ops c.n c.nt c.a1 fr Vs->c.ops[Vs.length]? =some o->Cov c.ops c.n c.nt c.a1 fr' (Vs++[V]))
  (h:∀a w σ,Frm a c.nt c.df fr->c.K.e c.w1 w->(∀j∈ZaE o,∀U,Vs[j]? =some U->U (ZaP c.ops j a) w)->(Vs.length∈c.Ef->T σ w)->PPre c.Pp Vs.length (λk=>ZaP c.ops k a) c.w1.heap.size w->(∀e,e∈c.Ef∨e∈c.X->e∈ZaE o->σ e=ZaP c.ops e a)->(∀q∈c.Rl,q.1∈ZaE o->q.2∈ZaE o->∃oq,c.ops[q.1]? =some oq/\relV oq.op (ZaP c.ops q.2 a)=some (ZaP c.ops q.1 a))->
   if Region.wanted o (yielded c.ops a.tmps) then OpTo c.P o a.eval w λv w'=>c.K.e w w'/\V (if o.dst.isSome then v else undef) w'/\(isAl o.op=true->v=Zcz w.heap.size/\w.heap.size<w'.heap.size)/\(Vs.length∉c.Ef->(∀q∈c.Pp,q.s≠Vs.length)->c.K.r w w')/\(Vs.length∈c.Ef->T' (updS σ Vs.length (if o.dst.isSome then v else undef)) w')/\Zlz c.Pp Vs.length (λk=>ZaP c.ops k a) w w'/\(∀q∈c.Rl,q.1=Vs.length->relV o.op (ZaP c.ops q.2 a)=some (if o.dst.isSome then v else undef))
   else V undef w/\isAl o.op=false/\(Vs.length∈c.Ef->T' (updS σ Vs.length undef) w))
  (k:MW0 c rest fr' (Vs++[V]) T'):MW0 c (o::rest) fr Vs T:=by
 intro hdrop hC hle h1
 have hso:c.ops[Vs.length]? =some o:=by
  have:(c.ops.toList.drop Vs.length)[0]? =some o:=by rw[hdrop];rfl
  rw[List.getElem?_drop] at this
  simpa using this
 have hdrop':c.ops.toList.drop (Vs++[V]).length=rest:=by
  have:c.ops.toList.drop (Vs.length+1)=(c.ops.toList.drop Vs.length).drop 1:=by rw[List.drop_drop]
  simp only[List.length_append,List.length_cons,List.length_nil,Nat.zero_add]
  rw[this,hdrop];rfl
 obtain⟨Us,Ts,hl,hs,hT1,hT2,hT3,hT4,hgt⟩:=k hdrop' (hfr hC hso) (by simp;omega) h1
 have eapp:Vs++[V]++Us=Vs++V::Us:=by simp
 have elen:(Vs++[V]).length=Vs.length+1:=by simp
 rw[eapp] at hl hgt
 rw[elen] at hT1 hT2 hT3 hT4 hgt
 have eT:∀k,Vs.length+1<=k->(if k<=Vs.length then T else Ts k)=Ts k:=λk hk=>if_neg Q0
 refine⟨V::Us,λk=>if k<=Vs.length then T else Ts k,hl,?_,if_pos (Nat.le_refl _),?_,?_,?_,λTs' hTs'=>?_⟩
 ·intro U hU
  rcases List.mem_cons.1 hU with rfl|hU
  ·exact hst
  ·exact hs U hU
 ·intro k hk
  simp only[if_neg (show ¬k<=Vs.length by omega)]
  rcases Nat.lt_or_ge (Vs.length+1) k with h|h
  ·exact hT2 k h
  ·rw[show k=Vs.length+1 by omega,hT1];exact hsT
 ·intro k hk hkE
  simp only[if_neg (show ¬k+1<=Vs.length by omega)]
  rcases Nat.lt_or_ge Vs.length k with h|h
  ·rw[if_neg Q0];exact hT3 k h hkE
  ·obtain rfl:k=Vs.length:=by omega
   rw[if_pos (Nat.le_refl _),hT1];exact hTT hkE
 ·intro k hk
  rcases Nat.lt_or_ge Vs.length k with h|h
  ·simp only[if_neg (show ¬k<=Vs.length by omega)];exact hT4 k h
  ·obtain rfl:k=Vs.length:=by omega
   simp only[if_pos (Nat.le_refl _)];exact hX0
 obtain⟨hg,ht⟩:=hgt Ts' (λk hk=>by rw[hTs' k Q0];exact eT k hk)
 have hTi:Ts' Vs.length=T:=by rw[hTs' _ (Nat.le_refl _)];exact if_pos (Nat.le_refl _)
 have hTi1:Ts' (Vs.length+1)=T':=by rw[hTs' _ Q0];exact(eT _ (Nat.le_refl _)).trans hT1
 refine⟨?_,ht⟩
 ·intro i U hU
  cases i with
  |succ i=>
   have:=hg i U (by simpa using hU)
   rwa[show Vs.length+1+i=Vs.length+(i+1) by omega] at this
  |zero=>
   obtain rfl:V=U:=by simpa using hU
   intro o' ho' a w hext hsz hdf hbase hdep hstate hppre hrelG
   obtain rfl:o=o':=Option.some.inj (hso.symm.trans ho')
   have hreg:=List.all_eq_true.1 hok Vs.length (List.mem_range.2 hlt)
   rw[hso] at hreg
   simp only[Bool.and_eq_true] at hreg
   obtain⟨⟨⟨⟨⟨hsel,hals⟩,hback⟩,htm⟩,huniq⟩,hgd⟩:=hreg
   have hdep':∀j∈ZaE o,∀U,Vs[j]? =some U->U (ZaP c.ops j a) w:=λj hj U hU=>hdep j hj U (by
    have:j<Vs.length:=(List.getElem?_eq_some_iff.1 hU).1
    rw[List.getElem?_append_left this];exact hU)
   have hbk:∀d∈ZaE o,d<Vs.length:=λd hd=>by simpa using List.all_eq_true.1 hback d hd
   have hat:∀t,t∈ZmU c.ops o->(ZgV fr c.nt a).tmps.getD t undef=a.tmps.getD t undef:=λt htt=>
    Znp (w:=w) hok hC hle hso hlt hsz hbase hdep' rfl (λj oj hoj hdj hj=>by
     have:=List.all_eq_true.1 (List.all_eq_true.1 htm t htt) j (List.mem_range.2 hj)
     rw[hoj] at this
     simpa[hdj] using this) hbk
   have hslot:∀j∈ZaE o,ZaP c.ops j (ZgV fr c.nt a)=ZaP c.ops j a:=by
    intro j hj
    unfold ZaP
    cases hb:(c.ops[j]?).bind (·.dst) with
    |none=>rfl
    |some t=>
     simp only
     refine Znp (w:=w) hok hC hle hso hlt hsz hbase hdep' rfl (λj' oj' hoj' hdj' hj'=> .inl ?_) hbk
     -- j' writes t too: it is j
     cases hoj:c.ops[j]? with
     |none=>rw[hoj] at hb;cases hb
     |some oj=>
      rw[hoj] at hb
      simp only[Option.bind_some] at hb
      by_cases e:j'=j
      ·rw[e];exact hj
      ·exfalso
       have hjn:j<c.n:=by
        have:=List.all_eq_true.1 hback j hj
        have:j<Vs.length+0:=by simpa using this
        omega
       have hreg':=List.all_eq_true.1 hok j (List.mem_range.2 hjn)
       rw[hoj] at hreg'
       simp only[Bool.and_eq_true] at hreg'
       have:=List.all_eq_true.1 hreg'.1.2 j' (List.mem_range.2 hj')
       rw[hoj',hb] at this
       simp[e,hdj'] at this
   have hpd:∀q∈c.Pp,q.s=Vs.length->q.j∈ZaE o:=λq hq e=>by
    have hpo:=hPK.1.1
    simp only[Zeg,Bool.and_eq_true] at hpo
    have hh:=List.all_eq_true.1 hpo.1.1 q hq
    simp only[Bool.and_eq_true,decide_eq_true_eq,Bool.or_eq_true] at hh
    have h2:=hh.2.resolve_left Q0
    rw[e,hso] at h2
    simp only[Bool.and_eq_true] at h2
    simpa using h2.1
   simp only[Nat.add_zero] at hstate hppre⊢
   rw[hTi] at hstate
   rw[hTi1]
   have hrun:=h (ZgV fr c.nt a) w (ZdM c.Ef c.X c.ops a) (Zp5 hC h1 hdf) hext (λj hj U hU=>by rw[hslot j hj];exact hdep' j hj U hU) hstate (λq hq e=>by
    obtain⟨b,h1,h2,h3⟩:=hppre q hq e
    exact⟨b,(hslot q.j (hpd q hq e)).trans h1,h2,h3⟩) (λe he hed=>by
    rw[hslot e hed]
    simp only[ZdM,he,if_true]) (λq hq h1 h2=>by
    obtain⟨oq,e1,e2⟩:=hrelG q hq h1
    exact⟨oq,e1,by rw[hslot q.1 h1,hslot q.2 h2];exact e2⟩)
   have hwant:Region.wanted o (yielded c.ops (ZgV fr c.nt a).tmps)=Region.wanted o (yielded c.ops a.tmps):=by
    unfold Region.wanted
    cases hg':o.guard with
    |none=>rfl
    |some jb=>
     obtain⟨j,b⟩:=jb
     simp only
     congr 1
     unfold yielded
     cases hb:(c.ops[j]?).bind (·.dst) with
     |none=>rfl
     |some t=>
      have e1:=hat t (by unfold ZmU;rw[hg'];simp[hb])
      simp only[Option.bind_some]
      simp only[Array.getD_eq_getD_getElem?] at e1
      have hsz2:(ZgV fr c.nt a).tmps.size=a.tmps.size:=by simp[ZgV,hsz]
      rcases Nat.lt_or_ge t a.tmps.size with hlt'|hge'
      ·rw[Array.getElem?_eq_getElem hlt',Array.getElem?_eq_getElem Q0] at e1⊢
       simp only[Option.getD_some] at e1
       rw[e1]
      ·rw[Array.getElem?_eq_none hge',Array.getElem?_eq_none Q0]
   have hexec:execOp (ZgV fr c.nt a).eval o=execOp a.eval o:=by
    refine execOp_congr o (λcs b hc=>by rw[hc] at hsel;cases hsel) λx hx=>?_
    cases x with
    |tmp t=>exact hat t (by unfold ZmU;exact List.mem_append_left _ (List.mem_filterMap.2 ⟨.tmp t,by simpa using hx,rfl⟩))
    |const v=>rfl
    |global g=>rfl
    |func f=>rfl
   rw[hwant] at hrun
   have hopto:∀R,OpTo c.P o (ZgV fr c.nt a).eval w R->OpTo c.P o a.eval w R:=λR hR=>by
    unfold OpTo at hR⊢
    rw[hexec] at hR
    exact hR
   split
   ·rename_i hw'
    rw[if_pos hw'] at hrun
    refine(hopto _ hrun).mono λv w'⟨q1,q2,q3,q4,q5,q6,q7⟩=>⟨q1,q2,q3,q4,q5,⟨q6.1,λq hq e=>?_,q6.2.2⟩,λq hq e=>?_⟩
    ·obtain⟨b,h1,h2,h3⟩:=q6.2.1 q hq e
     exact⟨b,(hslot q.j (hpd q hq e)).symm.trans h1,h2,h3⟩
    ·have hrr:=List.all_eq_true.1 hPK.1.2 q hq
     simp only[Bool.and_eq_true,decide_eq_true_eq] at hrr
     have h3:=hrr.2
     rw[e,hso] at h3
     simp only[Bool.and_eq_true] at h3
     rw[<-hslot q.2 (by simpa using h3.1.1)]
     exact q7 q hq e
   ·rename_i hw'
    rw[if_neg hw'] at hrun
    exact hrun
theorem Zd7(hd:o.dst=some d)(hlt:Nat.blt d c.nt=true)(hC:Cov c.ops c.n c.nt c.a1 fr Vs)(ho:c.ops[Vs.length]? =some o):Cov c.ops c.n c.nt c.a1 ((d,v)::fr) (Vs++[Kn v]):=by
 refine⟨λt u h=>?_⟩
 rw[Zgr] at h
 by_cases e:d=t
 ·subst e
  simp only[if_true,Option.some.injEq] at h
  subst h
  exact .inr ⟨Vs.length,o,by simp,ho,hd,by simp,Nat.le_of_ble_eq_true hlt⟩
 ·rw[if_neg e] at h
  rcases hC.c t u h with⟨h1,h2⟩|⟨j,oj,hj,hoj,hdj,hV,ht⟩
  ·refine .inl ⟨λj oj hj hoj hd'=>?_,h2⟩
   rcases Nat.lt_or_ge j Vs.length with hl|hl
   ·exact h1 j oj hl hoj hd'
   ·obtain rfl:j=Vs.length:=by simp at hj;omega
    obtain rfl:o=oj:=Option.some.inj (ho.symm.trans hoj)
    rw[hd] at hd'
    exact e (Option.some.inj hd')
  ·exact .inr ⟨j,oj,by simp;omega,hoj,hdj,by rw[List.getElem?_append_left hj];exact hV,ht⟩
def ZcU(d:Nat):FN->Bool
 |[]=>true
 |(t,_)::r=> !(Nat.beq t d)&&ZcU d r
theorem Zi7{d:Nat}:∀{fr:FN},ZcU d fr=true->look fr d=none
 |[],_=>rfl
 |(t,v)::r,h=>by
  simp only[ZcU,Bool.and_eq_true,Bool.not_eq_true'] at h
  simp only[look,h.1]
  exact Zi7 h.2
theorem Zcn{V:Pred}(hd:∀d,o.dst=some d->ZcU d fr=true)(hC:Cov c.ops c.n c.nt c.a1 fr Vs)(ho:c.ops[Vs.length]? =some o):Cov c.ops c.n c.nt c.a1 fr (Vs++[V]):=by
 refine⟨λt u h=>?_⟩
 rcases hC.c t u h with⟨h1,h2⟩|⟨j,oj,hj,hoj,hdj,hV,ht⟩
 ·refine .inl ⟨λj oj hj hoj hd'=>?_,h2⟩
  rcases Nat.lt_or_ge j Vs.length with hl|hl
  ·exact h1 j oj hl hoj hd'
  ·obtain rfl:j=Vs.length:=by simp at hj;omega
   obtain rfl:o=oj:=Option.some.inj (ho.symm.trans hoj)
   rw[Zi7 (hd t hd')] at h
   cases h
 ·exact .inr ⟨j,oj,by simp;omega,hoj,hdj,by rw[List.getElem?_append_left hj];exact hV,ht⟩
end
/-! ### the rules, with the Zfj of what has been walked written out. K: the value is known;X: it is told by a predicate;KX: known, and what it waits for is told by predicates;G: guarded, and carried out;Off: passed over;N: it writes no slot;E: it has an effect -/
def MW(c:RC)(k:Nat)(rest:List Oper)(fr:FN)(Vs:List Pred)(T:Zep):Prop:=Vs.length=k->(ZcG c.K T/\XT c k T)->PK c->MW0 c rest fr Vs T
def Zdn(Rl:List (Nat×Nat))(ix:Nat):Bool:=Rl.all λq=>q.1 !=ix
theorem ZaI{Rl:List (Nat×Nat)}(h:Zdn Rl ix=true):∀q∈Rl,q.1=ix->False:=λq hq e=>by
 have:=List.all_eq_true.1 h q hq
 simp[e] at this
def flo(Ef:List Nat)(Rl:List (Nat×Nat))(Pp:List Zeq)(n ix:Nat)(op:Op):Bool:=Nat.blt ix n&& !Ef.contains ix&& !isAl op&&ZdO Pp ix&&Zdn Rl ix
def eff(Ef X:List Nat)(Rl:List (Nat×Nat))(Pp:List Zeq)(n ix:Nat)(op:Op):Bool:=Nat.blt ix n&&Ef.contains ix&& !isAl op&&Pp.isEmpty&&X.isEmpty&&Zdn Rl ix
theorem ZgB{Ef:List Nat}{Rl:List (Nat×Nat)}{Pp:List Zeq}(h:flo Ef Rl Pp n ix op=true):ix<n/\ix∉Ef/\isAl op=false/\ZdO Pp ix=true/\Zdn Rl ix=true:=by
 simp only[flo,Bool.and_eq_true,Bool.not_eq_true'] at h
 exact⟨Nat.le_of_ble_eq_true h.1.1.1.1,by simpa using h.1.1.1.2,h.1.1.2,h.1.2,h.2⟩
theorem Ztp{Ef X:List Nat}{Rl:List (Nat×Nat)}{Pp:List Zeq}(h:eff Ef X Rl Pp n ix op=true):ix<n/\ix∈Ef/\isAl op=false/\Pp=[]/\X=[]/\Zdn Rl ix=true:=by
 simp only[eff,Bool.and_eq_true,Bool.not_eq_true'] at h
 exact⟨Nat.le_of_ble_eq_true h.1.1.1.1.1,by simpa using h.1.1.1.1.2,h.1.1.1.2,List.isEmpty_iff.1 h.1.1.2,List.isEmpty_iff.1 h.1.2,h.2⟩
theorem Zlz.none{Pp:List Zeq}(h:Pp=[]){sl:Nat->Value}:Zlz Pp i sl w w':=by
 subst h;exact⟨by simp,by simp,λ_ h=>absurd rfl h⟩
def Al(n0:Nat)(o:Obj):Pred:=λv w=>∃b,v=Zcz b/\n0<=b/\w.heap[b]? =some o
theorem Al.stays(n0:Nat)(o:Obj):Zfw Zg2 (Al n0 o):=λv w w'⟨b,h1,h2,h3⟩h=>⟨b,h1,h2,by
 rw[Ext.block h b (Array.getElem?_eq_some_iff.1 h3).1 Q5];exact h3⟩
section
variable {c:RC} {fr:FN} {Vs:List Pred} {T T':Zep} {rest:List Oper} {d:Nat} {op:Op} {ty:TypeId} {pos:String} {af:Array Edge} {ix:Nat}
theorem mK(hok:Zb2 c.ops c.n=true)(hlt:flo c.Ef c.Rl c.Pp c.n ix op=true)(hd:Nat.blt d c.nt=true)
  (h:∀a w,Frm a c.nt c.df fr->c.K.e c.w1 w->OpTo c.P ⟨some d,op,ty,pos,af,none⟩ a.eval w λx w'=>c.K.r w w'/\x=v)
  (k:MW c (ix+1) rest ((d,v)::fr) (Vs++[Kn v]) T):MW c ix (⟨some d,op,ty,pos,af,none⟩::rest) fr Vs T:=by
 obtain⟨h1,h2,h3,h4,hrf⟩:=ZgB hlt
 rintro rfl hT0 hPK
 exact ZcN hok h1 (Kn.stays _ _) hT0.1 hT0.2 (λ_=>rfl) hPK (λhC ho=>Zd7 rfl hd hC ho) (λa w σ F he hdp hT hPp hσ hrel=>by
  simp only[Region.wanted,if_true]
  exact(h a w F he).mono λx w'⟨q1,q2⟩=>⟨c.K.re q1,q2,λhh=>absurd (h3.symm.trans hh) Bool.false_ne_true,λ_ _=>q1,λhh=>absurd hh h2, .flo h4 λhne=>hPK.2 hne _ _ q1,λq hq e=>(ZaI hrf q hq e).elim⟩) (k Q5 ⟨hT0.1,hT0.2.succ⟩ hPK)
theorem mX{V:Pred}(hok:Zb2 c.ops c.n=true)(hlt:flo c.Ef c.Rl c.Pp c.n ix op=true)(hnd:ZcU d fr=true)(hst:Zfw c.K V)
  (h:∀a w,Frm a c.nt c.df fr->c.K.e c.w1 w->(∀j'∈ZaE ⟨some d,op,ty,pos,af,none⟩,∀U,Vs[j']? =some U->U (ZaP c.ops j' a) w)->OpTo c.P ⟨some d,op,ty,pos,af,none⟩ a.eval w λx w'=>c.K.r w w'/\V x w')
  (k:MW c (ix+1) rest fr (Vs++[V]) T):MW c ix (⟨some d,op,ty,pos,af,none⟩::rest) fr Vs T:=by
 obtain⟨h1,h2,h3,h4,hrf⟩:=ZgB hlt
 rintro rfl hT0 hPK
 exact ZcN hok h1 hst hT0.1 hT0.2 (λ_=>rfl) hPK (λhC ho'=>Zcn (λd' hd'=>by cases hd';exact hnd) hC ho') (λa w σ F he hdp hT hPp hσ hrel=>by
  simp only[Region.wanted,if_true]
  exact(h a w F he hdp).mono λx w'⟨q1,q2⟩=>⟨c.K.re q1,q2,λhh=>absurd (h3.symm.trans hh) Bool.false_ne_true,λ_ _=>q1,λhh=>absurd hh h2, .flo h4 λhne=>hPK.2 hne _ _ q1,λq hq e=>(ZaI hrf q hq e).elim⟩) (k Q5 ⟨hT0.1,hT0.2.succ⟩ hPK)
theorem mKX(hok:Zb2 c.ops c.n=true)(hlt:flo c.Ef c.Rl c.Pp c.n ix op=true)(hd:Nat.blt d c.nt=true)
  (h:∀a w,Frm a c.nt c.df fr->c.K.e c.w1 w->(∀j'∈ZaE ⟨some d,op,ty,pos,af,none⟩,∀U,Vs[j']? =some U->U (ZaP c.ops j' a) w)->OpTo c.P ⟨some d,op,ty,pos,af,none⟩ a.eval w λx w'=>c.K.r w w'/\x=v)
  (k:MW c (ix+1) rest ((d,v)::fr) (Vs++[Kn v]) T):MW c ix (⟨some d,op,ty,pos,af,none⟩::rest) fr Vs T:=by
 obtain⟨h1,h2,h3,h4,hrf⟩:=ZgB hlt
 rintro rfl hT0 hPK
 exact ZcN hok h1 (Kn.stays _ _) hT0.1 hT0.2 (λ_=>rfl) hPK (λhC ho=>Zd7 rfl hd hC ho) (λa w σ F he hdp hT hPp hσ hrel=>by
  simp only[Region.wanted,if_true]
  exact(h a w F he hdp).mono λx w'⟨q1,q2⟩=>⟨c.K.re q1,q2,λhh=>absurd (h3.symm.trans hh) Bool.false_ne_true,λ_ _=>q1,λhh=>absurd hh h2, .flo h4 λhne=>hPK.2 hne _ _ q1,λq hq e=>(ZaI hrf q hq e).elim⟩) (k Q5 ⟨hT0.1,hT0.2.succ⟩ hPK)
theorem mKG{j t:Nat}{b:Bool}(hok:Zb2 c.ops c.n=true)(hlt:flo c.Ef c.Rl c.Pp c.n ix op=true)(hd:Nat.blt d c.nt=true)(hj:(c.ops[j]?).bind (·.dst)=some t)(hb:look fr t=some (.bool b))
  (h:∀a w,Frm a c.nt c.df fr->c.K.e c.w1 w->OpTo c.P ⟨some d,op,ty,pos,af,some (j,b)⟩ a.eval w λx w'=>c.K.r w w'/\x=v)
  (k:MW c (ix+1) rest ((d,v)::fr) (Vs++[Kn v]) T):MW c ix (⟨some d,op,ty,pos,af,some (j,b)⟩::rest) fr Vs T:=by
 obtain⟨h1,h2,h3,h4,hrf⟩:=ZgB hlt
 rintro rfl hT0 hPK
 exact ZcN hok h1 (Kn.stays _ _) hT0.1 hT0.2 (λ_=>rfl) hPK (λhC ho=>Zd7 rfl hd hC ho) (λa w σ F he hdp hT hPp hσ hrel=>by
  simp only[Region.wanted,Zfx hj (F.at_ t _ hb),BEq.rfl,if_true]
  exact(h a w F he).mono λx w'⟨q1,q2⟩=>⟨c.K.re q1,q2,λhh=>absurd (h3.symm.trans hh) Bool.false_ne_true,λ_ _=>q1,λhh=>absurd hh h2, .flo h4 λhne=>hPK.2 hne _ _ q1,λq hq e=>(ZaI hrf q hq e).elim⟩) (k Q5 ⟨hT0.1,hT0.2.succ⟩ hPK)
theorem mE(hok:Zb2 c.ops c.n=true)(hlt:eff c.Ef c.X c.Rl c.Pp c.n ix op=true)(hd:Nat.blt d c.nt=true)(hsT:ZcG c.K T')
  (h:∀a w σ,Frm a c.nt c.df fr->c.K.e c.w1 w->T σ w->OpTo c.P ⟨some d,op,ty,pos,af,none⟩ a.eval w λx w'=>c.K.e w w'/\x=v/\T' (updS σ ix x) w')
  (k:MW c (ix+1) rest ((d,v)::fr) (Vs++[Kn v]) T'):MW c ix (⟨some d,op,ty,pos,af,none⟩::rest) fr Vs T:=by
 obtain⟨h1,h2,h3,h4,h5,hrf⟩:=Ztp hlt
 rintro rfl hT0 hPK
 exact ZcN hok h1 (Kn.stays _ _) hsT hT0.2 (λhh=>absurd h2 hh) hPK (λhC ho=>Zd7 rfl hd hC ho) (λa w σ F he hdp hT hPp hσ hrel=>by
  simp only[Region.wanted,if_true]
  exact(h a w σ F he (hT h2)).mono λx w'⟨q1,q2,q3⟩=>⟨q1,q2,λhh=>absurd (h3.symm.trans hh) Bool.false_ne_true,λhh=>absurd h2 hh,λ_=>q3, .none h4,λq hq e=>(ZaI hrf q hq e).elim⟩) (k Q5 ⟨hsT,XT.nil h5⟩ hPK)
theorem mOff{j t:Nat}{b:Bool}{u:Value}(hok:Zb2 c.ops c.n=true)(hlt:flo c.Ef c.Rl c.Pp c.n ix op=true)(hd:Nat.blt d c.nt=true)(hj:(c.ops[j]?).bind (·.dst)=some t)(hb:look fr t=some u)(ho:ZeS b u=true)
  (k:MW c (ix+1) rest ((d,undef)::fr) (Vs++[Kn undef]) T):MW c ix (⟨some d,op,ty,pos,af,some (j,b)⟩::rest) fr Vs T:=by
 obtain⟨h1,h2,h3,h4,hrf⟩:=ZgB hlt
 rintro rfl hT0 hPK
 exact ZcN hok h1 (Kn.stays _ undef) hT0.1 hT0.2 (λ_=>rfl) hPK (λhC ho'=>Zd7 rfl hd hC ho') (λa w σ F _ _ _ _ _ _=>by
  simp only[Region.wanted,ZhN hj (F.at_ t _ hb) ho,Bool.false_eq_true,if_false]
  exact⟨rfl,h3,λhh=>absurd hh h2⟩) (k Q5 ⟨hT0.1,hT0.2.succ⟩ hPK)
theorem mAl{o0:Obj}(hok:Zb2 c.ops c.n=true)(hlt:(Nat.blt ix c.n&& !c.Ef.contains ix&&(ZdO c.Pp ix&&Zdn c.Rl ix))=true)(hnd:ZcU d fr=true)(hst:Zfw c.K (Al c.w1.heap.size o0))(hr:∀w,c.K.r w (w.alloc o0))
  (h:∀a w,Frm a c.nt c.df fr->c.K.e c.w1 w->(execOp a.eval ⟨some d,op,ty,pos,af,none⟩).run c.P w= .ok (.value (Zcz w.heap.size)) (w.alloc o0))
  (k:MW c (ix+1) rest fr (Vs++[Al c.w1.heap.size o0]) T):MW c ix (⟨some d,op,ty,pos,af,none⟩::rest) fr Vs T:=by
 simp only[Bool.and_eq_true,Bool.not_eq_true'] at hlt
 have h1:ix<c.n:=Nat.le_of_ble_eq_true hlt.1.1
 have h2:ix∉c.Ef:=by simpa using hlt.1.2
 rintro rfl hT0 hPK
 refine ZcN hok h1 hst hT0.1 hT0.2 (λ_=>rfl) hPK (λhC ho'=>Zcn (λd' hd'=>by cases hd';exact hnd) hC ho') (λa w σ F he hdp hT hPp hσ hrel=>?_) (k Q5 ⟨hT0.1,hT0.2.succ⟩ hPK)
 simp only[Region.wanted,if_true]
 exact OpTo.val (h a w F he) ⟨c.K.re (hr w),⟨w.heap.size,rfl,c.K.size he,heap_alloc_new w o0⟩,λ_=>⟨rfl,by simp⟩,λ_ _=>hr w,λhh=>absurd hh h2, .flo hlt.2.1 λ_=>Ext.alloc w o0,λq hq e=>(ZaI hlt.2.2 q hq e).elim⟩
def Any:Pred:=λ_ _=>True
theorem mAlP{o0:Obj}(hok:Zb2 c.ops c.n=true)(hlt:(Nat.blt ix c.n&& !c.Ef.contains ix&&((c.Pp.all λq=>q.s !=ix)&&Zdn c.Rl ix))=true)(hnd:ZcU d fr=true)(hz:∀q∈c.Pp,q.j=ix->q.z=o0)(hr:∀w,c.K.r w (w.alloc o0))
  (h:∀a w,Frm a c.nt c.df fr->c.K.e c.w1 w->(execOp a.eval ⟨some d,op,ty,pos,af,none⟩).run c.P w= .ok (.value (Zcz w.heap.size)) (w.alloc o0))
  (k:MW c (ix+1) rest fr (Vs++[Any]) T):MW c ix (⟨some d,op,ty,pos,af,none⟩::rest) fr Vs T:=by
 simp only[Bool.and_eq_true,Bool.not_eq_true'] at hlt
 have h1:ix<c.n:=Nat.le_of_ble_eq_true hlt.1.1
 have h2:ix∉c.Ef:=by simpa using hlt.1.2
 have h3:∀q∈c.Pp,q.s≠ix:=λq hq=>by simpa using List.all_eq_true.1 hlt.2.1 q hq
 rintro rfl hT0 hPK
 refine ZcN hok h1 (λ_ _ _ _ _=>trivial) hT0.1 hT0.2 (λ_=>rfl) hPK (λhC ho'=>Zcn (λd' hd'=>by cases hd';exact hnd) hC ho') (λa w σ F he hdp hT hPp hσ hrel=>?_) (k Q5 ⟨hT0.1,hT0.2.succ⟩ hPK)
 simp only[Region.wanted,if_true]
 exact OpTo.val (h a w F he) ⟨c.K.re (hr w),trivial,λ_=>⟨rfl,by simp⟩,λ_ _=>hr w,λhh=>absurd hh h2,⟨λq hq e=>by rw[hz q hq e];exact heap_alloc_new w o0,λq hq e=>absurd e (h3 q hq),λ_ _=>Ext.alloc w o0⟩,λq hq e=>(ZaI hlt.2.2 q hq e).elim⟩
theorem mStP(q:Zeq)(hok:Zb2 c.ops c.n=true)(hlt:(Nat.blt ix c.n&&c.Ef.isEmpty&& !isAl op&&((c.Pp.all λq=>q.j !=ix)&&Zdn c.Rl ix))=true)(hq:q∈c.Pp)(hs:q.s=ix)(hone:∀q'∈c.Pp,q'.s=ix->q'=q)(hKe:∀w w' b,c.w1.heap.size<=b->Ext [b] w w'->c.K.e w w')
  (h:∀a w b,Frm a c.nt c.df fr->c.K.e c.w1 w->ZaP c.ops q.j a=Zcz b->w.heap[b]? =some q.z->OpTo c.P ⟨none,op,ty,pos,af,none⟩ a.eval w λ_ w'=>Ext [b] w w'/\w'.heap[b]? =some q.f)
  (k:MW c (ix+1) rest fr (Vs++[Kn undef]) T):MW c ix (⟨none,op,ty,pos,af,none⟩::rest) fr Vs T:=by
 simp only[Bool.and_eq_true,Bool.not_eq_true'] at hlt
 have h1:ix<c.n:=Nat.le_of_ble_eq_true hlt.1.1.1
 have h2:ix∉c.Ef:=by rw[List.isEmpty_iff.1 hlt.1.1.2];simp
 have h3:isAl op=false:=hlt.1.2
 have h4:∀q∈c.Pp,q.j≠ix:=λq hq=>by simpa using List.all_eq_true.1 hlt.2.1 q hq
 rintro rfl hT0 hPK
 refine ZcN hok h1 (Kn.stays _ undef) hT0.1 hT0.2 (λ_=>rfl) hPK (λhC ho'=>Zcn (λd' hd'=>by cases hd') hC ho') (λa w σ F he hdp hT hPp hσ hrel=>?_) (k Q5 ⟨hT0.1,hT0.2.succ⟩ hPK)
 simp only[Region.wanted,if_true]
 obtain⟨b,hb1,hb2,hb3⟩:=hPp q hq hs
 refine(h a w b F he hb1 hb3).mono λx w'⟨q1,q2⟩=>⟨hKe w w' b hb2 q1,rfl,λhh=>absurd (h3.symm.trans hh) Bool.false_ne_true,λ_ hno=>absurd hs (hno q hq),λhh=>absurd hh h2,⟨λq' hq' e=>absurd e (h4 q' hq'),λq' hq' e=>?_,λhno _=>absurd hs (hno q hq)⟩,λq hq e=>(ZaI hlt.2.2 q hq e).elim⟩
 obtain rfl:=hone q' hq' e
 exact⟨b,hb1,q1,q2⟩
theorem vBk(h:p:=by
  rcases hC.c t v ht with⟨hb,hb2⟩|⟨j,oj,hj,hoj,hdj,hV,_⟩
  ·rw[M.base t (λj oj hj hoj _=>hb j oj Q0 hoj),hb2]
  ·have h0:=M.vals j _ Q0 (hall j Q0) hV
   unfold ZaP at h0
   rw[hoj] at h0
   simp only[Option.bind_some,hdj] at h0
   exact h0):p:=h
theorem ZiG(hn:Nat.beq ix c.n=true)(hef:ZcH c.ops c.n c.Ef=true)
  (h:∀a w,Frm a c.nt c.df fr->c.K.e c.w1 w->(∀(j:Nat)(V:Pred),Vs[j]? =some V->V (ZaP c.ops j a) w)->T (ZdM c.Ef c.X c.ops a) w->
   (∀i j oi oj,i<c.n->j<c.n->i≠j->c.ops[i]? =some oi->c.ops[j]? =some oj->isAl oi.op=true->isAl oj.op=true->ZaP c.ops i a≠ZaP c.ops j a)->
   (∀q∈c.Pp,∃b,ZaP c.ops q.j a=Zcz b/\c.w1.heap.size<=b/\w.heap[b]? =some (if q.s<c.n then q.f else q.z))->wpListIn (FW c.r) 0 c.P c.ops c.Q rest a w):MW c ix rest fr Vs T:=by
 rintro rfl hT0 hPK
 have hn':Vs.length=c.n:=Nat.eq_of_beq_eq_true hn
 intro hdrop hC hle h1
 refine⟨[],λ_=>T,by simp[hn'],by simp,rfl,λ_ _=>hT0.1,λ_ _ _=>rfl,λk hk x hx hkx=>hT0.2 x hx Q0,λTs' hTs'=>⟨by simp,λlisted a w M hall hT=>?_⟩⟩
 rw[List.append_nil] at M
 rw[hn'] at hdrop
 rw[hdrop]
 rw[hTs' c.n Q0] at hT
 refine h a w ⟨M.size,M.defers,λt v ht=>?_⟩ M.ext (λj V hV=>M.vals j V (by rw[<-hn'];exact(List.getElem?_eq_some_iff.1 hV).1) (hall j (by rw[<-hn'];exact(List.getElem?_eq_some_iff.1 hV).1)) hV) hT (λi j oi oj hi hj hne hoi hoj hai haj=>M.dist i j oi oj hi hj hne hoi hoj hai haj (hall i hi) (hall j hj)) (λq hq=>by
  have hpo:=hPK.1.1
  simp only[Zeg,Bool.and_eq_true] at hpo
  have hh:=List.all_eq_true.1 hpo.1.1 q hq
  simp only[Bool.and_eq_true,decide_eq_true_eq] at hh
  obtain⟨b,h1,h2,h3⟩:=M.pr q hq (hall q.j hh.1.1)
  refine⟨b,h1,h2,?_⟩
  by_cases hs:q.s<c.n
  ·rw[hall q.s hs] at h3;simpa[hs] using h3
  ·have hl:listed.getD q.s false=false:=by
    rcases Nat.lt_or_ge q.s c.ops.size with h|h
    ·have:=M.tail q.s Q0 h
     have hl:q.s<listed.size:=by rw[M.lsize];exact h
     simp[hl] at this⊢;exact this
    ·have hl:listed.size<=q.s:=by rw[M.lsize];exact h
     simp[hl]
   rw[hl] at h3;simpa[hs] using h3)
 exact vBk
theorem Qx{c:RC}{fr:List (Nat×Value)}{Vs:List Pred}{T:Zep}{rest:List Oper}{ix:Nat}{l:List (Nat×Obj)}(M:Mem S W0 c.w1 l)(h:∀a w,Frm a c.nt c.df fr->Mem S W0 w l->wpListIn (FW c.r) 0 c.P c.ops c.Q rest a w)(hE:∀w,c.K.e c.w1 w->Ext [] c.w1 w:=by exact λ_ h=>h)(hn:Nat.beq ix c.n=true:=by rfl)(hef:ZcH c.ops c.n c.Ef=true:=by rfl):MW c ix rest fr Vs T:=ZiG hn hef λa w F E _ _ _ _=>h a w F (M.later (hE w E))
end
def Zg8(ops:Array Oper)(n nt:Nat):Bool:=(List.range n).all λi=>match ops[i]? with|some o=>(match o.dst with|some d=>decide (d<nt)|none=>true)|none=>false
theorem vCg(h:p:=by
  obtain⟨m,_,hm1,hm2⟩:=M.last h6 (λk hk=>hT3 k (Nat.zero_le _) hk) hall
  exact ht listed a w M hall (by rw[<-hm2];exact hm1)):p:=h
theorem vCV(h:p:=by
  have:=List.all_eq_true.1 h4 i (List.mem_range.2 hi)
  rw[ho] at this
  simp only[hd] at this
  simpa using this):p:=h
theorem ZmG{w:World}{nt:Nat}{fr:FN}{id:Nat}{ol:List Oper}(K:Keep)(Ef:List Nat)(Pp:List Zeq)(T:Zep)(n:Nat) [hm:TMix P](F:Frm a nt df fr)
  (hchk:(Zb2 ol.toArray n&&Zdg ol.toArray n&&Nat.ble n ol.length&&Zg8 ol.toArray n nt&&ZcH ol.toArray n Ef)=true) (hpo:Zeg ol.toArray n Ef Pp=true) (hKr:Pp≠[]->∀w w',K.r w w'->Ext [] w w') (hTt:Pp≠[]->∀σ w,T σ w) (hsT:ZcG K T) (hT:∀σ d,w.drawn<=d->T σ {w with drawn:=d})
  (h:∀w1,Ext [] w w1->w1.heap.size=w.heap.size->Zb2 ol.toArray n=true->ZcH ol.toArray n Ef=true->MW ⟨K,Ef,Pp,P,r,ol.toArray,n,nt,df,a,w1,Q,[],[]⟩ 0 ol fr [] T):Wp r P (.region id ol.toArray true) Q a w:=by
 simp only[Bool.and_eq_true] at hchk
 obtain⟨⟨⟨⟨h1,h2⟩,h3⟩,h4⟩,h6⟩:=hchk
 have hw1:Ext [] w {w with drawn:=w.drawn+1}:=Ext.drawn w _ (Nat.le_succ _)
 obtain⟨Us,Ts,hl,hs,hT1,hT2,hT3,hT4,hgt⟩:=h _ hw1 rfl h1 h6 rfl ⟨hsT,λx hx=>by cases hx⟩ ⟨⟨hpo,rfl⟩,hKr⟩ Q5 ⟨λt v hv=> .inl ⟨λj o hj=>absurd hj Q5,F.at_ t v hv⟩⟩ (Nat.zero_le _) F.size
 simp only[List.nil_append,List.length_nil] at hl hT1 hT2 hT3 hgt
 obtain⟨hg,ht⟩:=hgt Ts (λ_ _=>rfl)
 have hst:∀k,ZcG K (Ts k):=λk=>by
  rcases Nat.eq_zero_or_pos k with rfl|h
  ·rw[hT1];exact hsT
  ·exact hT2 k h
 have hTn:Pp≠[]->∀k σ w,Ts k σ w:=λhne k=>by
  have hEf:Ef=[]:=by
   simp only[Zeg,Bool.and_eq_true,Bool.or_eq_true] at hpo
   rcases hpo.1.2 with h|h
   ·exact absurd (List.isEmpty_iff.1 h) hne
   ·exact List.isEmpty_iff.1 h
  have:∀k,Ts k=T:=λk=>by
   induction k with
   |zero=>exact hT1
   |succ k ih=>rw[hT3 k (Nat.zero_le _) (by rw[hEf];simp),ih]
  rw[this k]
  exact hTt hne
 refine ZiW (K:=K) (Pp:=Pp) (Ef:=Ef) (Ts:=Ts) (nt:=nt) (df:=df) hm.h h1 h2 (by have:=Nat.le_of_ble_eq_true h3;simpa using this) hl hs h6 hst (λk hk=>hT3 k (Nat.zero_le _) hk) (X:=[]) (Rl:=[]) rfl (λx hx=>by cases hx) rfl (by rw[hT1];exact hT _ _ (Nat.le_succ _)) hpo hTn (λi o d hi ho hd=>?_) F.size F.defers rfl (λi V hV=>by simpa using hg i V hV) (λlisted a w M hall=>?_)
 ·exact vCV
 ·exact vCg
section
variable {P:Program} {r:Option Nat} {Q:Exit->Act->World->Prop} {a:Act} {w:World} {nt:Nat} {df:List Deferred} {fr:FN} {id:Nat} {ol:List Oper} {S:List Nat} {W0:World} {l:EN}
theorem Za4(n:Nat) [hm:TMix P](F:Frm a nt df fr)
  (hchk:(Zb2 ol.toArray n&&Zdg ol.toArray n&&Nat.ble n ol.length&&Zg8 ol.toArray n nt&&ZcH ol.toArray n [])=true)
  (h:∀w1,Ext [] w w1->Zb2 ol.toArray n=true->MW ⟨Zg2,[],[],P,r,ol.toArray,n,nt,df,a,w1,Q,[],[]⟩ 0 ol fr [] noT):Wp r P (.region id ol.toArray true) Q a w:=
 ZmG Zg2 [] [] noT n F hchk rfl (λh=>absurd rfl h) (λh=>absurd rfl h) (noT.stays _) (λ_ _ _=>trivial) λw1 hE _ hok _=>h w1 hE hok
theorem ZwZ{l0:EN}(B:List Nat)(Ef:List Nat)(M:Mem S W0 w (l0++l))(n:Nat) [hm:TMix P](F:Frm a nt df fr)
  (hchk:(Zb2 ol.toArray n&&Zdg ol.toArray n&&Nat.ble n ol.length&&Zg8 ol.toArray n nt&&ZcH ol.toArray n Ef)=true)
  (h:∀w1,Mem S W0 w1 (l0++l)->Zb2 ol.toArray n=true->ZcH ol.toArray n Ef=true->MW ⟨ZdH B,Ef,[],P,r,ol.toArray,n,nt,df,a,w1,Q,[],[]⟩ 0 ol fr [] (λ_ w=>Mem S W0 w (l0++l))):Wp r P (.region id ol.toArray true) Q a w:=
 ZmG (ZdH B) Ef [] (λ_ w=>Mem S W0 w (l0++l)) n F hchk rfl (λh=>absurd rfl h) (λh=>absurd rfl h) (λ_ _ _ h k=>h.later k) (λ_ d hd=>M.later (Ext.drawn w d hd)) λw1 hE _ hok hef=>h w1 (M.later hE) hok hef
theorem ZwY(Pp:List Zeq)(n:Nat) [hm:TMix P](F:Frm a nt df fr)
  (hchk:(Zb2 ol.toArray n&&Zdg ol.toArray n&&Nat.ble n ol.length&&Zg8 ol.toArray n nt&&ZcH ol.toArray n [])=true) (hpo:Zeg ol.toArray n [] Pp=true)
  (h:∀w1,Ext [] w w1->w1.heap.size=w.heap.size->Zb2 ol.toArray n=true->MW ⟨ZqO w.heap.size,[],Pp,P,r,ol.toArray,n,nt,df,a,w1,Q,[],[]⟩ 0 ol fr [] noT):Wp r P (.region id ol.toArray true) Q a w:=
 ZmG (ZqO w.heap.size) [] Pp noT n F hchk hpo (λ_ _ _ h=>h) (λ_ _ _=>trivial) (noT.stays _) (λ_ _ _=>trivial) λw1 hE hsz hok _=>h w1 hE hsz hok
end
theorem Mem.laterOld{l:EN}(M:Mem S W0 w l)(h:Old n w w')(hn:w.heap.size<=n):Mem S W0 w' l:=by
 have hE:Ext [] w w':=⟨h.os,h.tape,h.output,h.size,h.dr,λk hk _=>h.block k Q0 hk⟩
 exact M.later hE
theorem Mem.laterBut{S B:List Nat}{l0 l:EN}(M:Mem S W0 w (l0++l))(h:Ext B w w')(hB:∀k∈B,k∈l0.map (·.1)):Mem S W0 w' l:=by
 have hnd:=M.nd
 rw[List.map_append,List.nodup_append] at hnd
 have hown:∀k∈B,k∈S∨W0.heap.size<=k:=λk hk=>by
  obtain⟨p,hp,e⟩:=List.mem_map.1 (hB k hk)
  have:=M.own p (by simp[hp])
  rwa[e] at this
 have hnot:∀p∈l,p.1∉B:=λp hp hb=>hnd.2.2 _ (hB _ hb) _ (List.mem_map.2 ⟨p,hp,rfl⟩) rfl
 refine⟨⟨h.os.trans M.ext.os,h.tape.trans M.ext.tape,h.output.trans M.ext.output,Nat.le_trans M.ext.size h.size,Nat.le_trans M.ext.dr h.dr,λk hk hs=>?_⟩,λp hp=>?_,hnd.2.1,λp hp=>M.own p (by simp[hp])⟩
 ·rw[h.block k (Nat.lt_of_lt_of_le hk M.ext.size) (λhb=>(hown k hb).elim hs (λh1=>absurd hk (Nat.not_lt.2 h1)))]
  exact M.ext.block k hk hs
 ·rw[h.block p.1 (M.lt (by simp[hp])) (hnot p hp)]
  exact M.at_ p (by simp[hp])
theorem Zh0{ρ:Operand->Value}{d:Option Tmp}{g:Option (Nat×Bool)} [hz:ZcD P t cs]:(execOp ρ ⟨d, .alloc t,ty,pos,af,g⟩).run P w= .ok (.value (Zcz w.heap.size)) (w.alloc (.cells cs.toArray t (0,0))):=by
 obtain⟨z,hzc,hr⟩:=Zfa (w:=w) hz.h
 simp[execOp,Instr.alloc,hr,newVar,newRow,<-hzc,Zcz]
theorem Mem.al{W0 w w1:World}{l pre:EN}{o:Obj}(M:Mem S W0 w (pre++l))(M1:Mem S W0 w1 l)(h:w.heap[b]? =some o)(hn:w1.heap.size<=b)(hp:∀p∈pre,Zcz p.1≠Zcz b):Mem S W0 w ((b,o)::(pre++l)):=
 M.cons h (λp hm=>by
  rcases List.mem_append.1 hm with h1|h1
  ·exact λe=>hp p h1 (by rw[e])
  ·have:=M1.lt h1;omega) (.inr (Nat.le_trans M1.ext.size hn))
theorem Frm.know{fr:FN}(F:Frm a n df fr)(h:a.tmps.getD d undef=v):Frm a n df ((d,v)::fr):=
 ⟨F.size,F.defers,λt u hu=>by
  rw[Zgr] at hu
  by_cases e:d=t
  ·subst e;simp only[if_true,Option.some.injEq] at hu;rw[h,hu]
  ·rw[if_neg e] at hu;exact F.at_ t u hu⟩
def Zka(P:Program)(s:TypeId)(i off:Nat)(ft:TypeId):Bool:=
 match P.underlying s with
 |some (.struct fs)=>match fs[i]? with
  |some f=>f.offset==off&&f.type==ft
  |none=>false
 | _=>false
class Zxg (P : Program) (s : TypeId) (i : Nat) (off : outParam Nat) (ft : outParam TypeId) : Prop where h : Zka P s i off ft = true
theorem Zj9{s:TypeId}{ft:TypeId}(h:Zka P s i off ft=true):∃fs f,P.underlying s=some (.struct fs)/\fs[i]? =some f/\f.offset=off/\f.type=ft:=by
 unfold Zka at h
 split at h
 ·rename_i fs hu
  split at h
  ·rename_i f hf
   simp only[Bool.and_eq_true,beq_iff_eq] at h
   exact⟨fs,f,hu,hf,h.1,h.2⟩
  ·cases h
 ·cases h
section ops
variable {P:Program} {ρ:Operand->Value} {w W0:World} {S:List Nat} {l l':EN} {R:Value->World->Prop} {d:Option Tmp} {ty:TypeId} {pos:String} {af:Array Edge} {g:Option (Nat×Bool)}
theorem ZpE(ht:Zqh P t=true)(hv:nth cs off=some v):(part t cs.toArray off).run P w= .ok v w:=by
 rw[Zcl] at hv
 simp[part,Zgc ht,hv]
theorem ZsK{s ft:TypeId}(hx:ρ x= .agg cs.toArray) [hf:Zxg P s i off ft] [ht:TOne P ft](hv:nth cs off=some v)(h:R v w):OpTo P ⟨d, .field s x i,ty,pos,af,g⟩ ρ w R:=by
 obtain⟨fs,f,hu,hfi,rfl,rfl⟩:=Zj9 hf.h
 exact OpTo.val (v:=v) (w':=w) (by simp[execOp,Instr.field,hx,run_underlying hu,hfi,asAgg,ZpE ht.h hv]) h
theorem ZoC{x i:Operand}{j:Int}{s:ByteArray}{b:UInt8}(hx:ρ x= .string s)(hi:ρ i= .int k j) [ht:TU P t .string](h0:0<=j)(hv:s[j.toNat]? =some b)(h:R (.int .u8 b.toNat) w):OpTo P ⟨d, .index t x i,ty,pos,af,g⟩ ρ w R:=
 OpTo.val (v:= .int .u8 b.toNat) (w':=w) (by simp[execOp,Instr.index,hx,hi,asIntOf,run_underlying ht.h,h0,hv]) h
def Zwa(P:Program)(t:TypeId):Option (List (Nat×Nat)):=
 match P.underlying t with
 |some (.struct fs)=>fs.toList.mapM λf=>(P.info? f.type).map λi=>(f.offset,i.size)
 |some (.array n e)=>(P.info? e).map λi=>(List.range n).map λj=>(j*i.size,i.size)
 | _=>none
class TLay (P : Program) (t : TypeId) (pl : outParam (List (Nat × Nat))) : Prop where h : Zwa P t = some pl
def nthP:List (Nat×Nat)->Nat->Option (Nat×Nat)
 |[],_=>none
 |x::_,0=>some x
 | _::xs,i+1=>nthP xs i
theorem Zgn:∀(xs:List (Nat×Nat))(i:Nat),nthP xs i=xs[i]?
 |[],_=>rfl
 | _::_,0=>rfl
 | _::xs,i+1=>by simpa[nthP] using Zgn xs i
def ZaD(pl:List (Nat×Nat)):List Value->List (Nat×List Value)->Option (List Value)
 |z,[]=>some z
 |z,(i,cs)::rest=>match nthP pl i with
  |some (off,size)=>match Nat.beq cs.length size with
   |true=>match put z off cs with
    |some z'=>ZaD pl z' rest
    |none=>none
   |false=>none
  |none=>none
theorem ZnR(off:Nat):∀(vs:List Value)(i:Nat)(cs:List Value),off+i+vs.length<=cs.length->
  (vs.zipIdx i).foldl (λ(cs:Array Value)(p:Value×Nat)=>cs.setIfInBounds (off+p.2) p.1) cs.toArray=(ZbD cs (off+i) vs).toArray
 |[],i,cs,_=>by simp[ZbD]
 |v::vs,i,cs,h=>by
  have hlt:off+i<cs.length:=by simp at h;omega
  have ih:=ZnR off vs (i+1) (cs.set (off+i) v) (by simp at h⊢;omega)
  simp only[List.zipIdx_cons,List.foldl_cons,List.setIfInBounds_toArray]
  rw[ih,show off+(i+1)=off+i+1 by omega,ZgM _ _ _ _ hlt]
theorem ZhF{place:Nat->Option (Nat×Nat)}{pl:List (Nat×Nat)}(hp:∀i o,nthP pl i=some o->place i=some o):∀(parts:List (Nat×List Value))(vals:FN)(z cs:List Value),
  vals.map (λp=>(p.1,p.2.cells.toList))=parts->ZaD pl z parts=some cs->Instr.fill place z.toArray vals=some cs.toArray
 |[],vals,z,cs,hv,h=>by
  have:vals=[]:=by simpa using hv
  subst this
  simp[ZaD] at h;subst h;rfl
 |(i,us)::parts,vals,z,cs,hv,h=>by
  obtain⟨⟨i',v⟩,vals,rfl⟩:∃p r,vals=p::r:=by cases vals with|nil=>simp at hv|cons p r=>exact⟨p,r,rfl⟩
  simp only[List.map_cons,List.cons.injEq,Prod.mk.injEq] at hv
  obtain⟨⟨rfl,rfl⟩,hv⟩:=hv
  simp only[ZaD] at h
  cases hn:nthP pl i' with
  |none=>simp[hn] at h
  |some o=>
   obtain⟨off,size⟩:=o
   rw[hn] at h
   simp only at h
   cases hb:Nat.beq v.cells.toList.length size with
   |false=>rw[hb] at h;cases h
   |true=>
    rw[hb] at h
    simp only at h
    cases hq:put z off v.cells.toList with
    |none=>simp[hq] at h
    |some z'=>
     rw[hq] at h
     simp only at h
     obtain⟨hle,rfl⟩:=ZcZ _ _ _ _ hq
     have hsz:v.cells.size=size:=by simpa using Nat.eq_of_beq_eq_true hb
     have hle':¬off+v.cells.size>z.length:=by simpa using hle
     have hfold:=ZnR off v.cells.toList 0 z (by simpa using hle)
     have hfold':v.cells.zipIdx.foldl (λ(cs:Array Value)(p:Value×Nat)=>cs.setIfInBounds (off+p.2) p.1) z.toArray=(ZbD z off v.cells.toList).toArray:=by
      rw[<-Array.foldl_toList,Array.toList_zipIdx];simpa using hfold
     unfold Instr.fill
     simp only[hp i' _ hn]
     rw[if_neg (by simp[hsz];omega)]
     rw[show v.cells.zipIdx.foldl (λ(cs:Array Value)(x:Value×Nat)=>match x with|(c,j)=>cs.setIfInBounds (off+j) c) z.toArray=(ZbD z off v.cells.toList).toArray from hfold']
     exact ZhF hp parts vals _ cs hv h
def evP(fr:FN):List (Nat×Operand)->Option (List (Nat×List Value))
 |[]=>some []
 |(i,x)::xs=>match Ev fr x,evP fr xs with
  |some (.agg cs),some r=>some ((i,cs.toList)::r)
  |some v,some r=>some ((i,[v])::r)
  | _,_=>none
theorem Zop{t:TypeId}{vals:FN}{parts:List (Nat×List Value)}{pl:List (Nat×Nat)}{z cs:List Value}(hl:Zwa P t=some pl)(hz:ZrR P t=some z.toArray)(hv:vals.map (λp=>(p.1,p.2.cells.toList))=parts)(hp:ZaD pl z parts=some cs):
  (Instr.build t vals.toArray).run P w= .ok (.agg cs.toArray) w:=by
 obtain⟨zv,hzc,hzr⟩:=Zfa (w:=w) hz
 unfold Zwa at hl
 cases hu:P.underlying t with
 |none=>simp[hu] at hl
 |some dsc=>
  rw[hu] at hl
  cases dsc with
  |struct fs=>
   simp only at hl
   have hf:=ZhF (place:=λi=>pl.toArray[i]?) (pl:=pl) (λi o ho=>by rw[Zgn] at ho;simpa using ho) parts vals z cs hv hp
   have hm:=run_places (P:=P) w fs.toList pl hl
   simp only[Instr.build,Sem.run_bind,hzr,Result.andThen_ok,run_underlying hu,Array.mapM_eq_mapM_toList,Sem.run_map,hzc,bind_pure_comp]
   rw[hm]
   simp only[Result.andThen_ok,hf]
   rfl
  |array n e=>
   simp only at hl
   cases hi:P.info? e with
   |none=>simp[hi] at hl
   |some i=>
    simp only[hi,Option.map_some,Option.some.injEq] at hl
    have hf:=ZhF (place:=λj=>some (j*i.size,i.size)) (pl:=pl) (λj o ho=>by
     rw[Zgn,<-hl] at ho
     rw[List.getElem?_map] at ho
     cases hr:(List.range n)[j]? with
     |none=>simp[hr] at ho
     |some q=>
      have:q=j:=by
       have:=List.getElem?_eq_some_iff.1 hr
       obtain⟨h1,h2⟩:=this
       simpa using h2.symm
      subst this
      simpa[hr] using ho) parts vals z cs hv hp
    simp only[Instr.build,Sem.run_bind,hzr,Result.andThen_ok,run_underlying hu,hzc,sizeOf,typeInfo]
    simp[hi,hf]
  | _=>simp at hl
theorem vAC(h:p:=by
  intro xs
  induction xs with
  |nil=>intro parts h;simpa[evP] using h
  |cons p xs ih=>
   obtain⟨i,x⟩:=p
   intro parts h
   simp only[evP] at h
   cases hx:Ev fr x with
   |none=>simp[hx] at h
   |some v=>
    cases hr:evP fr xs with
    |none=>cases v<;>simp[hx,hr] at h
    |some q=>
     have e:=F.e hx
     have i2:=ih q hr
     cases v<;>simp[hx,hr] at h<;>subst h<;>simp[e,Value.cells,<-i2]):p:=h
theorem Zaq{nn:Nat}{fr:FN}{xs:List (Nat×Operand)}{parts:List (Nat×List Value)}{pl:List (Nat×Nat)}{z cs:List Value}(F:Frm a nn df fr) [hl:TLay P t pl] [hz:ZcD P t z](hv:evP fr xs=some parts)(hp:ZaD pl z parts=some cs)
  (h:R (.agg cs.toArray) w):OpTo P ⟨d, .build t xs.toArray,ty,pos,af,g⟩ a.eval w R:=by
 have hvals:∀(xs:List (Nat×Operand))(parts:List (Nat×List Value)),evP fr xs=some parts->(xs.map λ(p:Nat×Operand)=>(p.1,a.eval p.2)).map (λp=>(p.1,p.2.cells.toList))=parts:=by
  exact vAC
 have:=Zop (P:=P) (w:=w) (vals:=xs.map λ(p:Nat×Operand)=>(p.1,a.eval p.2)) hl.h hz.h (hvals xs parts hv) hp
 refine OpTo.val (v:= .agg cs.toArray) (w':=w) ?_ h
 simp only[execOp,List.map_toArray,Sem.run_bind]
 rw[show(List.map (λx:Nat×Operand=>match x with|(i,x)=>(i,a.eval x)) xs)=xs.map λ(p:Nat×Operand)=>(p.1,a.eval p.2) from rfl,this]
 rfl
end ops
theorem Upd.append{l l':EN}{b:Nat}{o o':Obj}(h:Upd l b o o' l'):∀q:EN,Upd (q++l) b o o' (q++l')
 |[]=>h
 | _::q=> .there (h.append q)
theorem Mem.perm{l l':EN}(M:Mem S W0 w l)(h:l.Perm l'):Mem S W0 w l':=
 ⟨M.ext,λq hq=>M.at_ q (h.mem_iff.2 hq),((h.map (·.1)).nodup_iff).1 M.nd,λq hq=>M.own q (h.mem_iff.2 hq)⟩
def elB(P:Program)(e:TypeId)(sz by_:Nat):Bool:=
 match P.info? e with
 |some i=>i.size==sz&&i.bytes==by_&&(match i.zero with|some z=>z.cells.size==sz|none=>false)
 |none=>false
class TEl (P : Program) (e : TypeId) (sz by_ : outParam Nat) : Prop where h : elB P e sz by_ = true
theorem ZhI{e:TypeId}{sz by_:Nat}(h:elB P e sz by_=true):∃i z,P.info? e=some i/\i.size=sz/\i.bytes=by_/\i.zero=some z/\z.cells.size=sz:=by
 unfold elB at h
 split at h
 ·rename_i i hi
  simp only[Bool.and_eq_true,beq_iff_eq] at h
  split at h
  ·rename_i z hz
   exact⟨i,z,hi,h.1.1,h.1.2,hz,by simpa using h.2⟩
  ·simp at h
 ·cases h
def OwnS(e:TypeId)(sz:Nat)(v:Value)(n:Nat)(xs:List Value)(ent:EN):Prop:=
 (v= .slice none 0 0/\n=0/\xs=[]/\ent=[])∨
 (∃b cap junk,v= .slice (some ⟨b,0,none⟩) n cap/\ent=[(b, .cells (xs++junk).toArray e (0,0))]/\xs.length=n*sz/\junk.length=(cap-n)*sz/\n<=cap)
theorem OwnS.nil(e:TypeId)(sz:Nat):OwnS e sz (.slice none 0 0) 0 [] []:= .inl ⟨rfl,rfl,rfl,rfl⟩
theorem OwnS.len{e:TypeId}{ent:EN}(h:OwnS e sz v n xs ent):xs.length=n*sz:=by
 rcases h with⟨_,rfl,rfl,_⟩|⟨_,_,_,_,_,h,_⟩
 ·simp
 ·exact h
theorem OwnS.slice{e:TypeId}{ent:EN}(h:OwnS e sz v n xs ent):∃p cap,v= .slice p n cap:=by
 rcases h with⟨rfl,rfl,_,_⟩|⟨_,_,_,rfl,_,_⟩
 ·exact⟨_,_,rfl⟩
 ·exact⟨_,_,rfl⟩
inductive ZcQ(ent:EN):EN->(EN->EN)->Prop
 |here:ZcQ ent ent (λq=>q)
 |cons {p:Nat×Obj} {l:EN} {f:EN->EN} (h:ZcQ ent l f):ZcQ ent (p::l) (λq=>p::f q)
 |app {q l:EN} {f:EN->EN} (h:ZcQ ent l f):ZcQ ent (q++l) (λx=>q++f x)
theorem ZcQ.spec{ent l:EN}{f:EN->EN}(h:ZcQ ent l f):∃lr,l=lr++ent/\∀q,f q=lr++q:=by
 induction h with
 |here=>exact⟨[],rfl,λ_=>rfl⟩
 | @cons p _ _ _ ih=>
  obtain⟨lr,rfl,hf⟩:=ih
  exact⟨p::lr,rfl,λq=>by simp[hf q]⟩
 | @app q0 _ _ _ ih=>
  obtain⟨lr,rfl,hf⟩:=ih
  exact⟨q0++lr,by simp,λq=>by simp[hf q]⟩
theorem Mem.joins{l new:EN}(M:Mem S W0 W l)(N:Mem [] W w new):Mem S W0 w (new++l):=by
 have M':=M.later N.ext
 refine⟨M'.ext,λp hp=>?_,?_,λp hp=>?_⟩
 ·rcases List.mem_append.1 hp with h|h
  ·exact N.at_ p h
  ·exact M'.at_ p h
 ·rw[List.map_append,List.nodup_append]
  refine⟨N.nd,M.nd,λa ha b hb=>?_⟩
  obtain⟨p,hp,rfl⟩:=List.mem_map.1 ha
  obtain⟨q,hq,rfl⟩:=List.mem_map.1 hb
  have h1:=(N.own p hp).resolve_left Q5
  have h2:=M.lt hq
  omega
 ·rcases List.mem_append.1 hp with h|h
  ·exact .inr (Nat.le_trans M.ext.size ((N.own p h).resolve_left Q5))
  ·exact M.own p h
structure Zcc(P:Program)(w:World)(x:Value)(m sz:Nat)(ys:List Value):Prop where
 len:(Builtin.lenOf x).run P w= .ok m w
 cells:∀d,(Builtin.firstCells sz m x).run P {w with drawn:=d}= .ok ys.toArray {w with drawn:=d}
 size:ys.length=m*sz
 one:∀v∈ys,v.oneCell'=true
theorem ZoU(w:World)(d:Nat)(a:Addr):({w with drawn:=d}:World).cell? a=w.cell? a:=rfl
theorem Zcc.cells'{b off m c sz:Nat}(hb:w.heap[b]? =some (.cells cs.toArray t fz))(hs:seg cs off (m*sz)=some ys)(h1:ys.all (·.oneCell')=true):Zcc P w (.slice (some ⟨b,off,none⟩) m c) m sz ys:=by
 obtain⟨hl,hat⟩:=Zed _ _ _ _ hs
 refine⟨by simp[Builtin.lenOf],λd=>?_,hl,λv hv=>List.all_eq_true.1 h1 v hv⟩
 refine run_firstCells_some _ sz m _ _ _ ys hl (λj v hj=>?_)
 rw[ZbX,ZoU]
 refine Zfs hb ?_
 have hlt:j<m*sz:=by rw[<-hl];exact(List.getElem?_eq_some_iff.1 hj).1
 have:=hat j hlt
 rw[hj] at this
 simpa using this
def Znx(P:Program)(t:TypeId):Bool:=match P.underlying t with|some (.slice _)|some .string=>true| _=>false
class TNI (P : Program) (t : TypeId) : Prop where h : Znx P t = true
section
variable {P:Program} {ρ:Operand->Value} {w W0:World} {S:List Nat} {l l':EN} {R:Value->World->Prop} {d:Option Tmp} {ty:TypeId} {pos:String} {af:Array Edge} {g:Option (Nat×Bool)}
theorem ZfU(h:Znx P t=true):P.underlying t=some .string∨∃e,P.underlying t=some (.slice e):=by
 unfold Znx at h
 split at h
 ·rename_i e hu;exact .inr ⟨e,hu⟩
 ·rename_i hu;exact .inl hu
 ·cases h
theorem Zhp{st xt e tyy:TypeId}{i:TypeInfo}{z:Value}{n m cap:Nat}{base:Option Addr}(hst:P.underlying st=some (.slice e))(hi:P.info? e=some i)(hz:i.zero=some z)(hdx:P.underlying xt=some .string∨∃e,P.underlying xt=some (.slice e))
  (hlen:(Builtin.lenOf xv).run P w= .ok m w) (hn:¬(n+m<=cap)) (h63:n+m<=9223372036854775807) (h48:¬(281474976710656<Builtin.nextslicecap (n+m) cap*i.bytes))
  (ho:(Builtin.firstCells i.size n (.slice base n cap)).run P w.drew= .ok xs.toArray w.drew) (hx:(Builtin.firstCells i.size m xv).run P w.drew= .ok ys.toArray w.drew):
  (Builtin.append_ #[st,xt] tyy #[.slice base n cap,xv]).run P w= .ok (.slice (some ⟨w.heap.size,0,none⟩) (n+m) (grownCap w (n+m) cap e)) (w.drew.alloc (.cells (xs.toArray++ys.toArray++Builtin.zeroCells z.cells (grownCap w (n+m) cap e-(n+m))) e)):=by
 have h63':¬(9223372036854775807<((n:Int)+(m:Int))):=by omega
 rcases hdx with hdx|⟨e',hdx⟩<;>simp[Builtin.append_,run_underlying hst,run_underlying hdx,sizeOf,typeInfo,zeroValue,hi,hz,hlen,hn,h63',h48,Question.forced,ho,hx,newRow,grownCap]<;>(congr 2;apply Array.ext';simp)
theorem ZdE{st xt e tyy:TypeId}{i:TypeInfo}{n m cap b:Nat}(hst:P.underlying st=some (.slice e))(hi:P.info? e=some i)(hdx:P.underlying xt=some .string∨∃e,P.underlying xt=some (.slice e))
  (hlen:(Builtin.lenOf xv).run P w= .ok m w) (hn:n+m<=cap)
  (hx:(Builtin.firstCells i.size m xv).run P w= .ok ys.toArray w) (hs:(storeCells ⟨b,n*i.size,none⟩ ys).run P w= .ok () w'):
  (Builtin.append_ #[st,xt] tyy #[.slice (some ⟨b,0,none⟩) n cap,xv]).run P w= .ok (.slice (some ⟨b,0,none⟩) (n+m) cap) w':=by
 have hadd:(⟨b,0,none⟩:Addr).add (n*i.size)=⟨b,n*i.size,none⟩:=by rw[ZbX];simp
 rcases hdx with hdx|⟨e',hdx⟩<;>simp[Builtin.append_,run_underlying hst,run_underlying hdx,sizeOf,typeInfo,hi,hlen,hn,hx,hadd,hs]
theorem ZhZ{st xt e tyy:TypeId}{i:TypeInfo}(hst:P.underlying st=some (.slice e))(hi:P.info? e=some i)(hdx:P.underlying xt=some .string∨∃e,P.underlying xt=some (.slice e))
  (hlen:(Builtin.lenOf xv).run P w= .ok 0 w) (hx:(Builtin.firstCells i.size 0 xv).run P w= .ok #[] w):
  (Builtin.append_ #[st,xt] tyy #[.slice none 0 0,xv]).run P w= .ok (.slice none 0 0) w:=by
 rcases hdx with hdx|⟨e',hdx⟩<;>simp[Builtin.append_,run_underlying hst,run_underlying hdx,sizeOf,typeInfo,hi,hlen,hx]
theorem vCo(h:p:=by
  simp only[List.length_append,hxl,hjl,hX.size]
  rw[Nat.add_zero,<-Nat.add_mul,<-Nat.add_mul]
  exact Nat.mul_le_mul_right _ Q0):p:=h
theorem Zoq{st xt e tyy:TypeId}{sz by_ n m:Nat}{ent lr:EN}(hst:P.underlying st=some (.slice e))(hel:elB P e sz by_=true)(hxt:Znx P xt=true)
  (hO:OwnS e sz v n xs ent) (M:Mem S W0 w (lr++ent)) (hX:Zcc P w xv m sz ys) (hbd:(n+m)*by_<=140737488355328) (hln:n+m<=9223372036854775807):
  ∃v' w' ent',(Builtin.append_ #[st,xt] tyy #[v,xv]).run P w= .ok v' w'/\OwnS e sz v' (n+m) (xs++ys) ent'/\Mem S W0 w' (lr++ent'):=by
 obtain⟨i,z,hi,rfl,rfl,hz,hzs⟩:=ZhI hel
 have hdx:=ZfU hxt
 have grow:∀(base:Option Addr)(cap:Nat),v= .slice base n cap->cap<n+m->(Builtin.firstCells i.size n v).run P w.drew= .ok xs.toArray w.drew->xs.length=n*i.size->
   ∃v' w' ent',(Builtin.append_ #[st,xt] tyy #[v,xv]).run P w= .ok v' w'/\OwnS e i.size v' (n+m) (xs++ys) ent'/\Mem S W0 w' (lr++ent'):=by
  intro base cap hv hgt hold hxl
  subst hv
  have h48:¬(281474976710656<Builtin.nextslicecap (n+m) cap*i.bytes):=by
   have:=growslice_fits (need:=n+m) (old:=cap) (bytes:=i.bytes) Q0 hbd
   omega
  have hnc:n+m<=grownCap w (n+m) cap e:=grownCap_ge w _ _ _
  have hrun:=Zhp (tyy:=tyy) (w:=w) hst hi hz hdx hX.len Q0 hln h48 hold (hX.cells (w.drawn+1))
  have e1:(xs.toArray++ys.toArray++Builtin.zeroCells z.cells (grownCap w (n+m) cap e-(n+m)))=(xs++ys++(Builtin.zeroCells z.cells (grownCap w (n+m) cap e-(n+m))).toList).toArray:=by
   apply Array.ext';rw[Array.toList_append,Array.toList_append]
  rw[e1] at hrun
  refine⟨_,_,[(w.heap.size, .cells (xs++ys++(Builtin.zeroCells z.cells (grownCap w (n+m) cap e-(n+m))).toList).toArray e (0,0))],hrun, .inr ⟨w.heap.size,grownCap w (n+m) cap e,(Builtin.zeroCells z.cells (grownCap w (n+m) cap e-(n+m))).toList,rfl,rfl,by rw[List.length_append,hxl,hX.size,Nat.add_mul],by rw[Array.length_toList,size_zeroCells,hzs],hnc⟩,?_⟩
  have M1:=(M.later (Ext.drawn w (w.drawn+1) (Nat.le_succ _))).alloc (.cells (xs++ys++(Builtin.zeroCells z.cells (grownCap w (n+m) cap e-(n+m))).toList).toArray e (0,0))
  have M2:=M1.sub (l':=(w.heap.size, .cells (xs++ys++(Builtin.zeroCells z.cells (grownCap w (n+m) cap e-(n+m))).toList).toArray e (0,0))::lr) ((List.sublist_append_left lr ent).cons_cons _)
  exact M2.perm (List.perm_append_comm (l₁:=[_]) (l₂:=lr))
 rcases hO with⟨rfl,rfl,rfl,rfl⟩|⟨b,cap,junk,rfl,rfl,hxl,hjl,hnc⟩
 ·by_cases hm:m=0
  ·subst hm
   have hys:ys=[]:=List.length_eq_zero_iff.1 (by rw[hX.size];simp)
   subst hys
   exact⟨.slice none 0 0,w,[],ZhZ hst hi hdx hX.len (hX.cells w.drawn),OwnS.nil _ _,M⟩
  ·exact grow none 0 rfl Q0 (by simp[Builtin.firstCells]) Q5
 ·have hhas:Has (lr++[(b,Obj.cells (xs++junk).toArray e (0,0))]) b (.cells (xs++junk).toArray e (0,0)):=((Upd.here (o':= .deferred none) (l:=[])).append lr).has
  have hb:=M.heap hhas
  by_cases hroom:n+m<=cap
  ·have hlen:n*i.size+0+ys.length<=(xs++junk).length:=by
    exact vCo
   obtain⟨w',hr,he,hh⟩:=Zb5 (P:=P) (off:=n*i.size) ys 0 (xs++junk) w hb hlen hX.one
   have hrun:=ZdE (tyy:=tyy) hst hi hdx hX.len hroom (hX.cells w.drawn) hr
   have hsp:ZbD (xs++junk) (n*i.size+0) ys=xs++ys++junk.drop (m*i.size):=by
    simp only[ZbD,Nat.add_zero,<-hxl,List.take_left',List.drop_append,hX.size]
    simp
   rw[hsp] at hh
   refine⟨_,w',_,hrun, .inr ⟨b,cap,junk.drop (m*i.size),rfl,rfl,by simp[hxl,hX.size,Nat.add_mul],?_,hroom⟩,?_⟩
   ·rw[List.length_drop,hjl,<-Nat.sub_mul];congr 1;omega
   ·exact M.turned ((Upd.here).append lr) he hh
  ·refine grow _ cap rfl Q0 ?_ hxl
   refine run_firstCells_some _ i.size n _ _ _ xs hxl (λj u hj=>?_)
   rw[ZbX]
   refine Zfs (w:=w.drew) hb ?_
   have hlt:j<xs.length:=(List.getElem?_eq_some_iff.1 hj).1
   simp[List.getElem?_append_left hlt,hj]
theorem Zck{st xt e:TypeId}{sz by_ n m:Nat}{ent:EN}{f:EN->EN} [hst:TU P st (.slice e)] [hel:TEl P e sz by_] [hxt:TNI P xt](hO:OwnS e sz v n xs ent)(M:Mem S W0 w l)(hl:ZcQ ent l f)
  (hx:ρ x=v) (hy:ρ y=xv) (hX:Zcc P w xv m sz ys) (hbd:(n+m)*by_<=140737488355328) (hln:n+m<=9223372036854775807)
  (h:∀v' ent' w',OwnS e sz v' (n+m) (xs++ys) ent'->Mem S W0 w' (f ent')->R v' w'):OpTo P ⟨d, .call ⟨.builtin .append, #[x,y], #[st,xt]⟩,ty,pos,af,g⟩ ρ w R:=by
 obtain⟨lr,rfl,hf⟩:=hl.spec
 obtain⟨v',w',ent',hr,hO',M'⟩:=Zoq (tyy:=ty) hst.h hel.h hxt.h hO M hX hbd hln
 refine OpTo.val (v:=v') (w':=w') ?_ (h v' ent' w' hO' (by rw[hf];exact M'))
 simp[execOp,resolve,invoke,builtin,hx,hy,hr]
end
inductive LK where
 |i (k:IntKind)
 |b
 deriving DecidableEq
def fitK:LK->Value->Bool
 | .i k, .int k' _=>decide (k=k')
 | .b, .bool _=>true
 | _,_=>false
def ZaZ:List LK->List Value->Bool
 |[],[]=>true
 |k::ks,x::xs=>fitK k x&&ZaZ ks xs
 | _,_=>false
def eqV:Value->Value->Bool
 | .int _ a, .int _ b=>a==b
 | .bool a, .bool b=>a==b
 | _,_=>false
def eqVs:List Value->List Value->Bool
 |[],[]=>true
 |x::xs,y::ys=>eqV x y&&eqVs xs ys
 | _,_=>false
theorem Zb7:∀{ks:List LK}{xs:List Value},ZaZ ks xs=true->xs.length=ks.length
 |[],[],_=>rfl
 | _::ks,_::xs,h=>by simp only[ZaZ,Bool.and_eq_true] at h;simp[Zb7 h.2]
 |[],_::_,h=>by cases h
 | _::_,[],h=>by cases h
theorem ZdB:∀{ks ks':List LK}{xs:List Value},ZaZ (ks++ks') xs=true->ZaZ ks (xs.take ks.length)=true/\ZaZ ks' (xs.drop ks.length)=true
 |[],ks',xs,h=>by simpa[ZaZ] using h
 |k::ks,ks',[],h=>by cases h
 |k::ks,ks',x::xs,h=>by
  simp only[List.cons_append,ZaZ,Bool.and_eq_true] at h
  have:=ZdB h.2
  simp[ZaZ,h.1,this]
theorem ZaL:∀(xs ys xs' ys':List Value),xs.length=ys.length->eqVs (xs++xs') (ys++ys')=(eqVs xs ys&&eqVs xs' ys')
 |[],[],_,_,_=>by simp[eqVs]
 |x::xs,y::ys,xs',ys',h=>by simp[eqVs,ZaL xs ys xs' ys' (by simpa using h),Bool.and_assoc]
 |[],_::_,_,_,h=>by simp at h
 | _::_,[],_,_,h=>by simp at h
def Zg1(P:Program)(leaf:TypeId->Option (List LK)):List Field->Nat->Option (List LK)
 |[],_=>some []
 |f::fs,off=>if f.name= "_" ∨f.offset≠off then none else
  match leaf f.type with
  |some ks=>if P.cellsOf f.type=ks.length then(Zg1 P leaf fs (off+ks.length)).map (ks++·) else none
  |none=>none
def Zdp(P:Program):Nat->TypeId->Option (List LK)
 |0,_=>none
 |d+1,t=>match P.underlying t with
  |some (.int k)=>some [.i k]
  |some .bool=>some [.b]
  |some (.array n e)=>match Zdp P d e with
   |some ks=>if P.cellsOf e=ks.length/\(P.info? e).isSome then some (List.replicate n ks).flatten else none
   |none=>none
  |some (.struct fs)=>if P.stoodInHeld t then none else Zg1 P (Zdp P d) fs.toList 0
  | _=>none
def Zdh(P:Program)(t:TypeId):Bool:=match P.underlying t with|some (.struct _)|some (.array _ _)=>true| _=>false
def mkT(P:Program)(t:TypeId)(xs:List Value):Value:=if Zdh P t then .agg xs.toArray else xs.headD undef
theorem ZzO(h:off<xs.length):List.take 1 (List.drop off xs)=[xs[off]]:=by
 rw[List.drop_eq_getElem_cons h,List.take_succ_cons,List.take_zero]
section
variable {P:Program}
theorem vBt(h:p:=by
  simp at hk;subst hk
  simp only[List.length_cons,List.length_nil] at hle⊢
  have hlt:off<xs.length:=by omega
  simp only[part,isAgg,Sem.run_bind,run_underlying hu,Result.andThen_ok,mkT,Zdh,hu]
  simp[hlt,ZzO hlt]):p:=h
theorem Zdm{w:World}{d:Nat}{e:TypeId}{ks:List LK}{xs:List Value}{off:Nat}(hk:Zdp P d e=some ks)(hc:P.cellsOf e=ks.length)(hle:off+ks.length<=xs.length):
  (part e xs.toArray off).run P w= .ok (mkT P e ((xs.drop off).take ks.length)) w:=by
 cases d with
 |zero=>simp[Zdp] at hk
 |succ d=>
  unfold Zdp at hk
  cases hu:P.underlying e with
  |none=>simp[hu] at hk
  |some dsc=>
   rw[hu] at hk
   have hinfo:∃i,P.info? e=some i:=info_of_underlying hu
   obtain⟨i,hi⟩:=hinfo
   have hs:i.size=ks.length:=by rw[<-hc];simp[Program.cellsOf,hi]
   have hex:xs.toArray.extract off (off+ks.length)=((xs.drop off).take ks.length).toArray:=by
    apply Array.ext';simp[List.extract_eq_take_drop]
   cases dsc with
   |int k=>
    exact vBt
   |bool=>
    exact vBt
   |array n e'=>simp only[part,isAgg,sizeOf,typeInfo,Sem.run_bind,run_underlying hu,Result.andThen_ok,mkT,Zdh,hu,run_program,Sem.run_pure,if_true];simp[hi,hs,hex]
   |struct fs=>simp only[part,isAgg,sizeOf,typeInfo,Sem.run_bind,run_underlying hu,Result.andThen_ok,mkT,Zdh,hu,run_program,Sem.run_pure,if_true];simp[hi,hs,hex]
   | _=>simp at hk
theorem ZgC:∀(n:Nat)(ks:List LK)(xs:List Value),ZaZ (List.replicate n ks).flatten xs=true->xs.length=n*ks.length/\∀j,j<n->ZaZ ks ((xs.drop (j*ks.length)).take ks.length)=true
 |0,ks,xs,h=>by
  have:=Zb7 h
  exact⟨by simpa using this,λj hj=>by omega⟩
 |n+1,ks,xs,h=>by
  simp only[List.replicate_succ,List.flatten_cons] at h
  obtain⟨h1,h2⟩:=ZdB h
  obtain⟨h3,h4⟩:=ZgC n ks _ h2
  have hl:=Zb7 h
  refine⟨by simp at hl;rw[hl];simp[Nat.add_mul,Nat.add_comm],λj hj=>?_⟩
  cases j with
  |zero=>simpa using h1
  |succ j=>
   have:=h4 j Q0
   rw[List.drop_drop] at this
   rwa[show(j+1)*ks.length=ks.length+j*ks.length by rw[Nat.add_mul];omega]
theorem vCp(h:p:=by
  match xs,hx with
  |[.int k' x],h=>simp[ZaZ,fitK] at h;subst h;exact⟨x,rfl⟩
  | .int _ _::_::_,h=>simp[ZaZ] at h):p:=h
theorem vCK(h:p:=by
  rw[show j*ke.length+ke.length=(j+1)*ke.length by rw[Nat.add_mul];omega]
  exact Nat.mul_le_mul_right _ Q0):p:=h
theorem ZeD:∀(d:Nat)(t:TypeId)(ks:List LK),Zdp P d t=some ks->∀(e:Nat)(w:World)(xs ys:List Value),ZaZ ks xs=true->ZaZ ks ys=true->
  (Op.equalIn (e+d) t (mkT P t xs) (mkT P t ys)).run P w= .ok (eqVs xs ys) w
 |0,_,_,h=>by simp[Zdp] at h
 |d+1,t,ks,hk=>by
  intro e w xs ys hx hy
  have hk0:=hk
  unfold Zdp at hk
  cases hu:P.underlying t with
  |none=>simp[hu] at hk
  |some dsc=>
   rw[hu] at hk
   cases dsc with
   |int k=>
    simp at hk;subst hk
    obtain⟨x,rfl⟩:∃x,xs=[.int k x]:=by
     exact vCp
    obtain⟨y,rfl⟩:∃y,ys=[.int k y]:=by
     match ys,hy with
     |[.int k' y],h=>simp[ZaZ,fitK] at h;subst h;exact⟨y,rfl⟩
     | .int _ _::_::_,h=>simp[ZaZ] at h
    simp only[mkT,Zdh,hu,Bool.false_eq_true,if_false,List.headD_cons]
    rw[show e+(d+1)=(e+d)+1 by omega,run_equalIn_int w (e+d) t k k x y hu]
    simp[eqVs,eqV]
   |bool=>
    simp at hk;subst hk
    obtain⟨x,rfl⟩:∃x,xs=[.bool x]:=by
     match xs,hx with
     |[.bool x],_=>exact⟨x,rfl⟩
    obtain⟨y,rfl⟩:∃y,ys=[.bool y]:=by
     match ys,hy with
     |[.bool y],_=>exact⟨y,rfl⟩
    simp only[mkT,Zdh,hu,Bool.false_eq_true,if_false,List.headD_cons]
    rw[show e+(d+1)=(e+d)+1 by omega,run_equalIn_bool' w (e+d) t x y hu]
    simp[eqVs,eqV]
   |array n el=>
    simp only at hk
    cases hke:Zdp P d el with
    |none=>simp[hke] at hk
    |some ke=>
     rw[hke] at hk
     simp only at hk
     split at hk
     ·rename_i hc
      simp only[Option.some.injEq] at hk
      subst hk
      obtain⟨i,hi⟩:=Option.isSome_iff_exists.1 hc.2
      obtain⟨lx,fx⟩:=ZgC _ _ _ hx
      obtain⟨ly,fy⟩:=ZgC _ _ _ hy
      simp only[mkT,Zdh,hu,if_true]
      rw[show e+(d+1)=(e+d)+1 by omega,run_equalIn_array w (e+d) _ _ hu hi]
      have key:∀(m j:Nat),j+m=n->(Op.eqItems (e+d) el (P.cellsOf el) xs.toArray ys.toArray (List.range' j m)).run P w= .ok (eqVs (xs.drop (j*ke.length)) (ys.drop (j*ke.length))) w:=by
       intro m
       induction m with
       |zero=>
        intro j hj
        have h1:xs.drop (j*ke.length)=[]:=List.drop_eq_nil_of_le (by rw[lx];exact Nat.le_of_eq (by rw[show j=n by omega]))
        have h2:ys.drop (j*ke.length)=[]:=List.drop_eq_nil_of_le (by rw[ly];exact Nat.le_of_eq (by rw[show j=n by omega]))
        simp[Op.eqItems,h1,h2,eqVs]
       |succ m ih=>
        intro j hj
        have hjn:j<n:=by omega
        have hmul:j*ke.length+ke.length<=n*ke.length:=by
         exact vCK
        rw[List.range'_succ]
        simp only[Op.eqItems,Sem.run_bind,hc.1,Zdm (w:=w) hke hc.1 (show j*ke.length+ke.length<=xs.length by omega),Zdm (w:=w) hke hc.1 (show j*ke.length+ke.length<=ys.length by omega),Result.andThen_ok,ZeD d el ke hke e w _ _ (fx j hjn) (fy j hjn)]
        have hih:=ih (j+1) Q0
        rw[hc.1] at hih
        have e1:eqVs (xs.drop (j*ke.length)) (ys.drop (j*ke.length))=(eqVs ((xs.drop (j*ke.length)).take ke.length) ((ys.drop (j*ke.length)).take ke.length)&&eqVs (xs.drop ((j+1)*ke.length)) (ys.drop ((j+1)*ke.length))):=by
         rw[<-ZaL _ _ _ _ (by simp[lx,ly])]
         rw[show(j+1)*ke.length=j*ke.length+ke.length by rw[Nat.add_mul];omega,<-List.drop_drop,<-List.drop_drop,List.take_append_drop,List.take_append_drop]
        rw[e1]
        cases eqVs ((xs.drop (j*ke.length)).take ke.length) ((ys.drop (j*ke.length)).take ke.length)
        ·simp
        ·simpa using hih
      have:=key n 0 Q0
      simpa[List.range_eq_range'] using this
     ·cases hk
   |struct fs=>
    simp only at hk
    split at hk
    ·cases hk
    ·rename_i hp
     have hp':P.stoodInHeld t=false:=by simpa using hp
     have hfs:P.fieldsOf t=fs:=by simp[Program.fieldsOf,hu]
     simp only[mkT,Zdh,hu,if_true]
     rw[show e+(d+1)=(e+d)+1 by omega,run_equalIn_struct w (e+d) t _ _ (by rw[hfs];exact hu) hp',hfs]
     have key:∀(l:List Field)(off:Nat)(ks:List LK),Zg1 P (Zdp P d) l off=some ks->ZaZ ks (xs.drop off)=true->ZaZ ks (ys.drop off)=true->off<=xs.length->off<=ys.length->
       (Op.eqFields (e+d) xs.toArray ys.toArray l).run P w= .ok (eqVs (xs.drop off) (ys.drop off)) w:=by
      intro l
      induction l with
      |nil=>
       intro off ks hl hx hy _ _
       simp only[Zg1,Option.some.injEq] at hl
       subst hl
       have h1:=Zb7 hx
       have h2:=Zb7 hy
       have h1':xs.drop off=[]:=List.length_eq_zero_iff.1 (by simpa using h1)
       have h2':ys.drop off=[]:=List.length_eq_zero_iff.1 (by simpa using h2)
       simp[Op.eqFields,h1',h2',eqVs]
      |cons f l ih=>
       intro off ks hl hx hy ox oy
       simp only[Zg1] at hl
       split at hl
       ·cases hl
       ·rename_i hno
        have hname:f.name≠ "_" :=fun h=>hno (.inl h)
        have hoff:f.offset=off:=Classical.byContradiction λh=>hno (.inr h)
        cases hkf:Zdp P d f.type with
        |none=>simp[hkf] at hl
        |some kf=>
         rw[hkf] at hl
         simp only at hl
         split at hl
         ·rename_i hc
          cases hr:Zg1 P (Zdp P d) l (off+kf.length) with
          |none=>simp[hr] at hl
          |some kr=>
           simp only[hr,Option.map_some,Option.some.injEq] at hl
           subst hl
           obtain⟨x1,x2⟩:=ZdB hx
           obtain⟨y1,y2⟩:=ZdB hy
           have lx:=Zb7 x1
           have ly:=Zb7 y1
           simp only[List.length_take,List.length_drop] at lx ly
           rw[List.drop_drop] at x2 y2
           have hih:=ih (off+kf.length) kr hr x2 y2 Q0 Q0
           simp only[Op.eqFields,ne_eq,hname,not_false_eq_true,if_true,Sem.run_bind,hoff,Zdm (w:=w) hkf hc (show off+kf.length<=xs.length by omega),Zdm (w:=w) hkf hc (show off+kf.length<=ys.length by omega),Result.andThen_ok,ZeD d f.type kf hkf e w _ _ x1 y1]
           have e1:eqVs (xs.drop off) (ys.drop off)=(eqVs ((xs.drop off).take kf.length) ((ys.drop off).take kf.length)&&eqVs (xs.drop (off+kf.length)) (ys.drop (off+kf.length))):=by
            rw[<-ZaL _ _ _ _ (by simp;omega),<-List.drop_drop,<-List.drop_drop,List.take_append_drop,List.take_append_drop]
           rw[e1]
           cases eqVs ((xs.drop off).take kf.length) ((ys.drop off).take kf.length)
           ·simp
           ·simpa using hih
         ·cases hl
     have:=key fs.toList 0 ks hk (by simpa using hx) (by simpa using hy) (Nat.zero_le _) (Nat.zero_le _)
     simpa using this
   | _=>simp at hk
def eqB(P:Program)(t:TypeId)(ks:List LK):Bool:=decide (Zdp P 8 t=some ks)&&Zdh P t&& !P.eqGuardType P.depth t
class TEq (P : Program) (t : TypeId) (ks : outParam (List LK)) : Prop where h : eqB P t ks = true
variable {ρ:Operand->Value} {w:World} {R:Value->World->Prop} {d:Option Tmp} {ty:TypeId} {pos:String} {af:Array Edge} {g:Option (Nat×Bool)}
theorem Zi5{ks:List LK} [ht:TEq P t ks](hx:ρ x= .agg xs.toArray)(hy:ρ y= .agg ys.toArray)(fx:ZaZ ks xs=true)(fy:ZaZ ks ys=true)(h:R (.bool (eqVs xs ys)) w):OpTo P ⟨d, .binOp .eql t x y t',ty,pos,af,g⟩ ρ w R:=by
 have hh:=ht.h
 simp only[eqB,Bool.and_eq_true,decide_eq_true_eq,Bool.not_eq_true'] at hh
 have he:=ZeD 8 t ks hh.1.1 9992 w xs ys fx fy
 simp only[mkT,hh.1.2,if_true] at he
 refine OpTo.val (v:= .bool (eqVs xs ys)) (w':=w) ?_ h
 simp only[execOp,hx,hy,Sem.run_bind,run_eqGuard_agg w .eql t x y _ _ hh.2,Result.andThen_ok,run_eql_struct]
 rw[he]
 rfl
theorem Znv{ks:List LK} [ht:TEq P t ks](hx:ρ x= .agg xs.toArray)(hy:ρ y= .agg ys.toArray)(fx:ZaZ ks xs=true)(fy:ZaZ ks ys=true)(h:R (.bool !(eqVs xs ys)) w):OpTo P ⟨d, .binOp .neq t x y t',ty,pos,af,g⟩ ρ w R:=by
 have hh:=ht.h
 simp only[eqB,Bool.and_eq_true,decide_eq_true_eq,Bool.not_eq_true'] at hh
 have he:=ZeD 8 t ks hh.1.1 9992 w xs ys fx fy
 simp only[mkT,hh.1.2,if_true] at he
 refine OpTo.val (v:= .bool !(eqVs xs ys)) (w':=w) ?_ h
 simp only[execOp,hx,hy,Sem.run_bind,run_eqGuard_agg w .neq t x y _ _ hh.2,Result.andThen_ok,run_neq_struct]
 rw[he]
 rfl
end
section
variable {P:Program} {ρ:Operand->Value} {w W0:World} {S:List Nat} {l l':EN} {R:Value->World->Prop} {d:Option Tmp} {ty:TypeId} {pos:String} {af:Array Edge} {g:Option (Nat×Bool)}
def Zc4(zs:List Value)(n:Nat):List Value:=(List.range n).map λi=>zs.getD (i % zs.length) undef
def Zcu(len sz:Nat):List (Nat×Nat):=(List.range len).map λj=>(j*sz,sz)
theorem ZaC{nn:Nat}{fr:FN}{t e:TypeId}{len sz:Nat}{xs:List (Nat×Operand)}{parts:List (Nat×List Value)}{zs cs:List Value}(F:Frm a nn df fr)(M:Mem S W0 w l) [ht:TU P t (.slice e)] [hs:TSz P e sz] [hz:ZcD P e zs](hv:evP fr xs=some parts)
  (hle:Nat.ble (len*sz) 16777216=true) (hzl:Nat.beq zs.length sz=true) (hp:ZaD (Zcu len sz) (Zc4 zs (len*sz)) parts=some cs)
  (h:∀b w',Mem S W0 w' ((b, .cells cs.toArray e (0,0))::l)->R (.slice (some ⟨b,0,none⟩) len len) w'):OpTo P ⟨d, .buildSlice t len xs.toArray,ty,pos,af,g⟩ a.eval w R:=by
 have hvals:∀(xs:List (Nat×Operand))(parts:List (Nat×List Value)),evP fr xs=some parts->(xs.map λ(p:Nat×Operand)=>(p.1,a.eval p.2)).map (λp=>(p.1,p.2.cells.toList))=parts:=by
  exact vAC
 obtain⟨z,hzc,hzr⟩:=Zfa (w:=w) hz.h
 have hzl':zs.length=sz:=Nat.eq_of_beq_eq_true hzl
 have hf:=ZhF (place:=λi=>some (i*sz,sz)) (pl:=Zcu len sz) (λj o ho=>by
  rw[Zgn,Zcu,List.getElem?_map] at ho
  cases hr:(List.range len)[j]? with
  |none=>simp[hr] at ho
  |some q=>
   have:q=j:=by
    obtain⟨h1,h2⟩:=List.getElem?_eq_some_iff.1 hr
    simpa using h2.symm
   subst this
   simpa[hr] using ho) parts (xs.map λ(p:Nat×Operand)=>(p.1,a.eval p.2)) (Zc4 zs (len*sz)) cs (hvals xs parts hv) hp
 have hle':¬(len*sz>2^24):=by have:=Nat.le_of_ble_eq_true hle;omega
 have hzero:(Array.range (len*sz)).map (λi=>zs.toArray[i % zs.toArray.size]!)=(Zc4 zs (len*sz)).toArray:=by
  apply Array.ext'
  simp only[Array.toList_map,Array.toList_range,Zc4]
  refine List.map_congr_left λi hi=>?_
  have hi':i<len*sz:=List.mem_range.1 hi
  have hpos:0<sz:=by
   rcases Nat.eq_zero_or_pos sz with h0|h0
   ·rw[h0,Nat.mul_zero] at hi';omega
   ·exact h0
  have hlt:i % zs.length<zs.length:=Nat.mod_lt _ Q0
  simp[hlt]
 refine OpTo.val (v:= .slice (some ⟨w.heap.size,0,none⟩) len len) (w':=w.alloc (.cells cs.toArray e)) ?_ (h _ _ (M.alloc _))
 simp only[execOp,List.map_toArray,Sem.run_bind]
 rw[show(List.map (λx:Nat×Operand=>match x with|(i,x)=>(i,a.eval x)) xs)=xs.map λ(p:Nat×Operand)=>(p.1,a.eval p.2) from rfl]
 by_cases h0:len*sz=0
 ·have hz0:Zc4 zs (len*sz)=[]:=by rw[h0];rfl
  rw[hz0] at hf
  have hr0:(Array.map (λ(_:Nat)=>(default:Value)) (Array.range 0))= #[]:=by simp
  simp[Instr.buildSlice,run_underlying ht.h,run_sizeOf hs.h,h0,hr0,hf,newRow]
 ·simp only[Instr.buildSlice,Sem.run_bind,run_underlying ht.h,Result.andThen_ok,run_sizeOf hs.h,if_neg hle',if_neg h0,hzr,Sem.run_pure,hzc,hzero,hf]
  simp[newRow]
theorem Zhz{t e:TypeId}{b o n:Nat}(hx:ρ x= .pointer (some ⟨b,o,none⟩)) [ht:TU P t (.array n e)] [hs:TSz P e sz](h:R (.slice (some ⟨b,o,none⟩) n n) w):OpTo P ⟨d, .slice t x none none none,ty,pos,af,g⟩ ρ w R:=
 OpTo.val (v:= .slice (some ⟨b,o,none⟩) n n) (w':=w) (by simp[execOp,Instr.sliceAt,Instr.sureAddr,Instr.sliceBounds,hx,run_underlying ht.h,run_sizeOf hs.h,ZbX]) h
theorem Zym{t e:TypeId}{x i j:Operand}{b o len cap:Nat}{m n:Int}(hx:ρ x= .slice (some ⟨b,o,none⟩) len cap)(hi:ρ i= .int k m)(hj:ρ j= .int k' n) [ht:TU P t (.slice e)] [hs:TSz P e sz](h0:0<=m)(h1:m<=n)(h2:n<=cap)(h3:m<cap)(h:R (.slice (some ⟨b,o+m.toNat*sz,none⟩) (n.toNat-m.toNat) (cap-m.toNat)) w):OpTo P ⟨d, .slice t x (some i) (some j) none,ty,pos,af,g⟩ ρ w R:=by
 have h4:0<=n:=by omega
 have h5:¬max n 0<m:=by omega
 have h6:¬cap=m.toNat:=by omega
 exact OpTo.val (v:= .slice (some ⟨b,o+m.toNat*sz,none⟩) (n.toNat-m.toNat) (cap-m.toNat)) (w':=w) (by simp[execOp,Instr.sliceAt,Instr.slice,Instr.sliceBounds,Instr.sliceBound,asIntOf,hx,hi,hj,run_underlying ht.h,run_sizeOf hs.h,h0,h2,h4,h5,h6,ZbX]) h
theorem ZjT{t e:TypeId}{x j:Operand}{k':IntKind}{p:Option Addr}{len cap:Nat}{n:Int}(hx:ρ x= .slice p len cap)(hj:ρ j= .int k' n) [ht:TU P t (.slice e)]{sz:Nat} [hs:TSz P e sz](hp:∀a:Addr,p=some a->True)(h0:0<=n)(h2:n<=cap)(h:R (.slice p n.toNat cap) w):OpTo P ⟨d, .slice t x none (some j) none,ty,pos,af,g⟩ ρ w R:=by
 have e1:(if cap=0 then p else p.map (·.add (0*sz)))=p:=by
  cases p with
  |none=>simp
  |some a=>simp[Addr.add]
 exact OpTo.val (v:= .slice p n.toNat cap) (w':=w) (by simp[execOp,Instr.sliceAt,Instr.slice,Instr.sliceBounds,Instr.sliceBound,asIntOf,hx,hj,run_underlying ht.h,run_sizeOf hs.h,h0,h2,Addr.add]) h
end
section
variable {P:Program} {ρ:Operand->Value} {w:World} {R:Value->World->Prop} {d:Option Tmp} {ty:TypeId} {pos:String} {af:Array Edge} {g:Option (Nat×Bool)} {t t':TypeId} {x y:Operand} {k:IntKind} {m n:Int}
theorem Zyr(hx:ρ x= .int k m)(hy:ρ y= .int k n)(hc:m<n)(h:R (.bool true) w):OpTo P ⟨d, .binOp .lss t x y t',ty,pos,af,g⟩ ρ w R:=ZsF hx hy (by rw[dqT hc];exact h)
theorem Zys(hx:ρ x= .int k m)(hy:ρ y= .int k n)(hc:¬m<n)(h:R (.bool false) w):OpTo P ⟨d, .binOp .lss t x y t',ty,pos,af,g⟩ ρ w R:=ZsF hx hy (by rw[dqF hc];exact h)
theorem Zyt(hx:ρ x= .int k m)(hy:ρ y= .int k n)(hc:m<=n)(h:R (.bool true) w):OpTo P ⟨d, .binOp .leq t x y t',ty,pos,af,g⟩ ρ w R:=ZsH hx hy (by rw[dqT hc];exact h)
theorem Zyu(hx:ρ x= .int k m)(hy:ρ y= .int k n)(hc:¬m<=n)(h:R (.bool false) w):OpTo P ⟨d, .binOp .leq t x y t',ty,pos,af,g⟩ ρ w R:=ZsH hx hy (by rw[dqF hc];exact h)
theorem Zyv(hx:ρ x= .int k m)(hy:ρ y= .int k n)(hc:n<m)(h:R (.bool true) w):OpTo P ⟨d, .binOp .gtr t x y t',ty,pos,af,g⟩ ρ w R:=ZsI hx hy (by rw[dqT hc];exact h)
theorem Zyw(hx:ρ x= .int k m)(hy:ρ y= .int k n)(hc:¬n<m)(h:R (.bool false) w):OpTo P ⟨d, .binOp .gtr t x y t',ty,pos,af,g⟩ ρ w R:=ZsI hx hy (by rw[dqF hc];exact h)
theorem Zyx(hx:ρ x= .int k m)(hy:ρ y= .int k n)(hc:n<=m)(h:R (.bool true) w):OpTo P ⟨d, .binOp .geq t x y t',ty,pos,af,g⟩ ρ w R:=ZsJ hx hy (by rw[dqT hc];exact h)
theorem Zyy(hx:ρ x= .int k m)(hy:ρ y= .int k n)(hc:¬n<=m)(h:R (.bool false) w):OpTo P ⟨d, .binOp .geq t x y t',ty,pos,af,g⟩ ρ w R:=ZsJ hx hy (by rw[dqF hc];exact h)
theorem Zyz(hx:ρ x= .int k m)(hy:ρ y= .int k n)(hc:m=n)(h:R (.bool true) w):OpTo P ⟨d, .binOp .eql t x y t',ty,pos,af,g⟩ ρ w R:=ZsL hx hy (by rw[beq_iff_eq.2 hc];exact h)
theorem ZyA(hx:ρ x= .int k m)(hy:ρ y= .int k n)(hc:¬m=n)(h:R (.bool false) w):OpTo P ⟨d, .binOp .eql t x y t',ty,pos,af,g⟩ ρ w R:=ZsL hx hy (by rw[beq_eq_false_iff_ne.2 hc];exact h)
theorem Zyp(hx:ρ x= .int k m)(hy:ρ y= .int k n)(hc:¬m=n)(h:R (.bool true) w):OpTo P ⟨d, .binOp .neq t x y t',ty,pos,af,g⟩ ρ w R:=ZsE hx hy (by rw[bne_iff_ne.2 hc];exact h)
theorem Zyq(hx:ρ x= .int k m)(hy:ρ y= .int k n)(hc:m=n)(h:R (.bool false) w):OpTo P ⟨d, .binOp .neq t x y t',ty,pos,af,g⟩ ρ w R:=ZsE hx hy (by rw[show(m !=n)=false by simp[hc]];exact h)
end
def Only(I:Act->World->Prop):Exit->Act->World->Prop
 | .normal,a,w=>I a w
 | _,_,_=>False
theorem ZgG{c:Code}(I:Act->World->Prop)(h:Wp r P c (Only I) a w)(k:∀a' w',I a' w'->Q .normal a' w'):Wp r P c Q a w:=
 wpIn_mono h λe a' w' hq=>by cases e<;>first|exact k a' w' hq|exact hq.elim
abbrev mkS(bs:List UInt8):Value:= .string ⟨bs.toArray⟩
theorem ZeX(bs:List UInt8):(⟨bs.toArray⟩:ByteArray).size=bs.length:=by simp[ByteArray.size]
theorem Zqv{bs:List UInt8}(h:i<bs.length):(⟨bs.toArray⟩:ByteArray)[i]? =some bs[i]:=by
 rw[getElem?_pos _ _ (by simpa[ByteArray.size] using h)]
 rfl
section
variable {P:Program} {ρ:Operand->Value} {w:World} {R:Value->World->Prop} {d:Option Tmp} {ty:TypeId} {pos:String} {af:Array Edge} {g:Option (Nat×Bool)} {t t':TypeId} {x y i j:Operand} {k k':IntKind} {m n:Int} {bs cs:List UInt8}
theorem ZxK{q:Nat}(hx:ρ x=mkS bs)(hi:ρ i= .int k m) [ht:TU P t .string](hq:m=q)(hl:q<bs.length)(h:R (.int .u8 (bs[q]).toNat) w):OpTo P ⟨d, .index t x i,ty,pos,af,g⟩ ρ w R:=by
 subst hq
 exact ZoC hx hi Q0 (by simpa using Zqv hl) h
end
theorem Zql(b:Nat)(h0:0<=m):BitVec.ofInt b m=BitVec.ofNat b m.toNat:=by
 obtain⟨n,rfl⟩:=Int.eq_ofNat_of_zero_le h0
 simp
section
variable {H:Type} {enc:TypeId×Value->H} {P:Program}
theorem Ext.grown{W W':World}(h:Ext [] W W')(may:MemPlace->Prop):W.keptBut W' may:=by
 refine⟨h.os,h.output,λi hi=>?_⟩
 rw[h.block i hi Q5]
 cases hb:W.heap[i]? with
 |none=>rfl
 |some o=>cases o<;>simp
theorem Ext.sameAt{W W':World}(h:Ext [] W W'){p:MemPlace}(hp:p.block<W.heap.size):W.sameAt W' p:=by
 cases p with
 |cell b o=>exact World.cell?_of_block (h.block b hp Q5)
 |map b=>exact h.block b hp Q5
theorem Zf4(hl:laidOutB P=true){W W':World}(hE:Ext [] W W'){sp:Nat->Bool}:∀{ts:List TypeId}{vs:List Value}{ds:List (DataW H)}{ps:List MemPlace},(∀t∈ts,P.readableRec t=true/\t<P.types.size)->
  DataW.TrodAll enc P W 0 (λ_=>true) true ts vs ds ps->(∀p∈ps,p.block<W.heap.size/\sp p.block=true)->DataW.TrodAll enc P W' 0 sp true ts vs ds ps
 |[],[],[],ps,_,h,_=>h
 |t::ts,v::vs,d::ds,ps,ht,h,hp=>by
  obtain⟨p,q,h1,h2,rfl⟩:=h
  refine⟨p,q,WideElems.Trod_stays hl (ht t Q5).1 (ht t Q5).2 h1 (λx hx=>hE.sameAt (hp x (by simp[hx])).1) (λx hx=>(hp x (by simp[hx])).2),?_,rfl⟩
  exact Zf4 hl hE (λt ht'=>ht t (by simp[ht'])) h2 (λx hx=>hp x (by simp[hx]))
 |[],_::_,_,_,_,h,_=>by simp[DataW.TrodAll] at h
 |[],[],_::_,_,_,h,_=>by simp[DataW.TrodAll] at h
 | _::_,[],_,_,_,h,_=>by simp[DataW.TrodAll] at h
 | _::_,_::_,[],_,_,h,_=>by simp[DataW.TrodAll] at h
theorem ZhU{W:World}{base:Nat}{sp:Nat->Bool}{hd:Bool}:∀{ts:List TypeId}{vs:List Value}{ds:List (DataW H)}{ps:List MemPlace},DataW.TrodAll enc P W base sp hd ts vs ds ps->ds.length=ts.length
 |[],[],[],_,_=>rfl
 | _::_,_::_,_::_,_,h=>by
  obtain⟨p,q,_,h2,_⟩:=h
  simp[ZhU h2]
 |[],_::_,_,_,h=>by simp[DataW.TrodAll] at h
 |[],[],_::_,_,h=>by simp[DataW.TrodAll] at h
 | _::_,[],_,_,h=>by simp[DataW.TrodAll] at h
 | _::_,_::_,[],_,h=>by simp[DataW.TrodAll] at h
def Zx1(P:Program)(ts:List TypeId):Bool:=ts.all λu=>P.readableRec u&&decide (u<P.types.size)
theorem ZsZ{f:Func}{s:ChangeSpec}{W W':World}{args:Array Value}{ds gs:List (DataW H)}{before:List MemPlace}{tb:TypeId}(hl:laidOutB P=true)(hto:Zx1 P f.params.toList=true)(hv:s.vars=[])(hr:f.resultTypes= #[tb])(hb:P.underlying tb=some .bool)
  (hfn:∀xs:List (DataW H),xs.length=f.params.toList.length->s.fn H xs= {results:=[.lit (.bool true)],args:=xs}) (hW:DataW.Whole enc P f.params.toList s.vars false W args.toList ds gs before) (hE:Ext [] W W'):
  s.post enc P f false true false false W args (.bool true) W':=by
 have hts:∀t∈f.params.toList,P.readableRec t=true/\t<P.types.size:=λt ht=>by simpa using List.all_eq_true.1 hto t ht
 have hW':=hW
 have hlt:=hW.lt
 obtain⟨p,q,hA,hV,rfl,_,_⟩:=hW
 rw[hv] at hV
 obtain⟨rfl,rfl⟩:gs=[]/\q=[]:=by
  cases gs with
  |nil=>exact⟨rfl,hV⟩
  |cons g gs=>exact hV.elim
 have hlen:=ZhU hA
 refine⟨ds,[],p++[],[],p,[],hW',?_,?_,?_,hE.grown _,λh=>by cases h⟩
 ·rw[List.append_nil,hfn ds hlen,hr]
  exact⟨[],[],shut_bool hb true,rfl,rfl⟩
 ·rw[List.append_nil,hfn ds hlen]
  exact Zf4 hl hE hts hA λx hx=>by
   have:=hlt x (by simpa using hx)
   exact⟨this,by simpa using this⟩
 ·rw[List.append_nil,hfn ds hlen,hv]
  exact rfl
/-! ### types whose parts are integers and bools -/
def wfV:LK->Value->Bool
 | .i k, .int k' n=>decide (k=k')&&(Lit.int k n).wf
 | .b, .bool _=>true
 | _,_=>false
def wfK:List LK->List Value->Bool
 |[],[]=>true
 |k::ks,x::xs=>wfV k x&&wfK ks xs
 | _,_=>false
theorem ZgJ:∀{ks ks':List LK}{xs xs':List Value},wfK ks xs=true->wfK ks' xs'=true->wfK (ks++ks') (xs++xs')=true
 |[],ks',[],xs',_,h=>h
 |k::ks,ks',x::xs,xs',h,h'=>by
  simp only[wfK,Bool.and_eq_true] at h
  simp only[List.cons_append,wfK,Bool.and_eq_true]
  exact⟨h.1,ZgJ h.2 h'⟩
 |[],_,_::_,_,h,_=>by cases h
 | _::_,_,[],_,h,_=>by cases h
theorem Zrd{ks:List LK}:∀(n:Nat)(xs:List Value),xs.length=n*ks.length->(∀i,i<n->wfK ks ((xs.drop (i*ks.length)).take ks.length)=true)->wfK (List.replicate n ks).flatten xs=true
 |0,xs,hl,_=>by
  have:xs=[]:=List.length_eq_zero_iff.1 (by simpa using hl)
  subst this;rfl
 |n+1,xs,hl,h=>by
  have h0:=h 0 Q0
  simp only[Nat.zero_mul,List.drop_zero] at h0
  have hr:=Zrd (ks:=ks) n (xs.drop ks.length) (by rw[List.length_drop,hl,Nat.add_mul];omega) λi hi=>by
   have:=h (i+1) Q0
   rw[List.drop_drop]
   rwa[show(i+1)*ks.length=ks.length+i*ks.length by rw[Nat.add_mul];omega] at this
  have:=ZgJ h0 hr
  rw[List.take_append_drop] at this
  simpa[List.replicate_succ] using this
theorem Zc8{w:World}{base:Nat}{sp:Nat->Bool}{held:Bool}:∀(d:Nat)(t:TypeId)(ks:List LK),Zdp P d t=some ks->∀(fuel:Nat)(cs:List Value)(x:DataW H×List MemPlace),DataW.trod enc P w base sp held fuel t cs=some x->(P.cellsOf t=ks.length∨Zdh P t=false)->wfK ks cs=true
 |0,_,_,h=>by simp[Zdp] at h
 |d+1,t,ks,hk=>by
  intro fuel cs x hx hC
  unfold Zdp at hk
  cases hu:P.underlying t with
  |none=>simp[hu] at hk
  |some dsc=>
   rw[hu] at hk
   cases dsc with
   |int k=>
    simp at hk;subst hk
    obtain⟨n,rfl,_,hw⟩:=DataW.trod_int hu hx
    simp[wfK,wfV,hw]
   |bool=>
    simp at hk;subst hk
    obtain⟨b,rfl,_⟩:=DataW.trod_bool hu hx
    simp[wfK,wfV]
   |array n e=>
    simp only at hk
    cases hke:Zdp P d e with
    |none=>simp[hke] at hk
    |some ke=>
     rw[hke] at hk
     simp only at hk
     split at hk
     ·rename_i hc
      simp only[Option.some.injEq] at hk
      subst hk
      obtain⟨xs,m,rfl,rfl,hl,hn,hat⟩:=DataW.trod_array hu hx
      have hC':P.cellsOf t=n*ke.length:=by
       rcases hC with h|h
       ·rw[h];simp
       ·simp[Zdh,hu] at h
      refine Zrd n cs (by rw[hl,hC']) λi hi=>?_
      have h1:=hat i hi
      rw[List.getElem?_eq_getElem Q0] at h1
      have:=Zc8 d e ke hke m _ _ h1 (.inl hc.1)
      rwa[hc.1] at this
     ·cases hk
   |struct fs=>
    simp only at hk
    split at hk
    ·cases hk
    ·obtain⟨xs,m,rfl,rfl,hl,hn,hat⟩:=DataW.trod_struct hu hx
     have key:∀(l:List Field)(off j:Nat)(ks:List LK),fs.toList.drop j=l->Zg1 P (Zdp P d) l off=some ks->cs.length=off+ks.length->wfK ks (cs.drop off)=true:=by
      intro l
      induction l with
      |nil=>
       intro off j ks _ hf hlen
       simp only[Zg1,Option.some.injEq] at hf
       subst hf
       have:cs.drop off=[]:=List.drop_eq_nil_of_le (by simp at hlen;omega)
       rw[this];rfl
      |cons f l ih=>
       intro off j ks hd hf hlen
       simp only[Zg1] at hf
       split at hf
       ·cases hf
       ·rename_i hno
        have hoff:f.offset=off:=Classical.byContradiction λh=>hno (.inr h)
        cases hkf:Zdp P d f.type with
        |none=>simp[hkf] at hf
        |some kf=>
         rw[hkf] at hf
         simp only at hf
         split at hf
         ·rename_i hc
          cases hr:Zg1 P (Zdp P d) l (off+kf.length) with
          |none=>simp[hr] at hf
          |some kr=>
           simp only[hr,Option.map_some,Option.some.injEq] at hf
           subst hf
           have hj:fs[j]? =some f:=by
            have:(fs.toList.drop j)[0]? =some f:=by rw[hd];rfl
            rw[List.getElem?_drop] at this
            simpa using this
           have hjs:j<fs.size:=(Array.getElem?_eq_some_iff.1 hj).1
           have h1:=hat j f hj
           rw[List.getElem?_eq_getElem Q0,hoff] at h1
           have w1:=Zc8 d f.type kf hkf m _ _ h1 (.inl hc)
           rw[hc] at w1
           have hd':fs.toList.drop (j+1)=l:=by
            have:fs.toList.drop (j+1)=(fs.toList.drop j).drop 1:=by rw[List.drop_drop]
            rw[this,hd];rfl
           have w2:=ih (off+kf.length) (j+1) kr hd' hr (by rw[hlen];simp;omega)
           rw[<-List.drop_drop] at w2
           have:=ZgJ w1 w2
           rwa[List.take_append_drop] at this
         ·cases hf
     have hC':P.cellsOf t=ks.length:=by
      rcases hC with h|h
      ·exact h
      ·simp[Zdh,hu] at h
     have:=key fs.toList 0 0 ks rfl hk (by rw[hl,hC'];simp)
     simpa using this
   | _=>simp at hk
theorem ZzN{n:Int}(h:(Lit.int k n).wf=true):k.min<=n/\n<=k.max:=by
 simpa[Lit.wf] using h
end
end
section
open Go.ChangeShapes Go.WideShapes Go.ChangeAt Go.RowKit
theorem own:ownKnob Tryz.prog.godebug=none:=by kernel_rfl
theorem Zwb:laidOutB prog=true:=by kernel_rfl
def Zm4:List (String×DataW Unit):=[]
noncomputable def Zig(os:Os):World:=World.holding prog os ⟨#[], #[],[]⟩
theorem Zs1(os:Os)(args:Array Value):laidMet prog Zm4 ((Zig os).forCall (λ_ _=>0) ⟨#[],args,[]⟩).memory:=
 laidMet_of_run' 8 Q7 Q7
end
end Go.Proofs.YtfhkmgcalcfibaaGreat

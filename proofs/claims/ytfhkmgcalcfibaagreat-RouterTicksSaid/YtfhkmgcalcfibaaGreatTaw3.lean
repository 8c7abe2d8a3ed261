/-
  Texts joined.
-/
import Derived.Test.YtfhkmgcalcfibaaGreatTaw2
import Derived.Lib.BitFns
set_option linter.unusedVariables false
set_option linter.unusedSimpArgs false
set_option maxHeartbeats 64000000
namespace Go.Proofs.YtfhkmgcalcfibaaGreat
open Go.RowKit
open Go.Proofs.Tryz (prog)
variable {S:List Nat}{W w:World}{a ip xs:List Int}{b bt cap i j k n n0 off sz:Nat}{cs vs:List Value}{f fn:FuncId}{fz:Nat × Nat}{l':Row}{o':Obj}{p:Prop}{t t':TypeId}{ts:Array TypeId}{v:Value}{x y:Operand}{ys:List Operand}
section
theorem Mem.joinB{W0 w w':World}{l0 r new:EN}(M:Mem S W0 w (l0++r))(N:Mem (l0.map (·.1)) w w' new):Mem S W0 w' (new++r):=by
 have hnd:=M.nd
 simp only[List.map_append,List.nodup_append] at hnd
 have hE:Ext S W0 w':=(M.ext.mono (S':=S++l0.map (·.1)) λk hk=>List.mem_append_left _ hk).trans (N.ext.mono λk hk=>List.mem_append_right _ hk)|>.fresh λk hk=>by
  rcases List.mem_append.1 hk with h|h
  ·exact .inl h
  ·obtain⟨q,hq,rfl⟩:=List.mem_map.1 h
   exact M.own q (List.mem_append_left _ hq)
 have hr:∀p∈r,p.1∉l0.map (·.1):=λp hp hc=>hnd.2.2 _ hc _ (List.mem_map.2 ⟨p,hp,rfl⟩) rfl
 refine⟨hE,λp hp=>?_,?_,λp hp=>?_⟩
 ·rcases List.mem_append.1 hp with h|h
  ·exact N.at_ p h
  ·exact(N.ext.block p.1 (M.lt (List.mem_append_right _ h)) (hr p h)).trans (M.at_ p (List.mem_append_right _ h))
 ·simp only[List.map_append,List.nodup_append]
  refine⟨N.nd,hnd.2.1,λa ha b hb e=>?_⟩
  obtain⟨p,hp,rfl⟩:=List.mem_map.1 ha
  obtain⟨q,hq,rfl⟩:=List.mem_map.1 hb
  rcases N.own p hp with h|h
  ·exact hr q hq (e▸h)
  ·have:=M.lt (List.mem_append_right _ hq)
   omega
 ·rcases List.mem_append.1 hp with h|h
  ·rcases N.own p h with h1|h1
   ·obtain⟨q,hq,e⟩:=List.mem_map.1 h1
    rw[<-e]
    exact M.own q (List.mem_append_left _ hq)
   ·exact .inr (Nat.le_trans M.ext.size h1)
  ·exact M.own p (List.mem_append_right _ h)
theorem NwS.staysBut{n0 len:Nat}{o:Obj}{B:List Nat}(hB:∀b∈B,b<n0):Zfw (ZdH B) (NwS n0 len o):=λv w w'⟨b,h1,h2,h3⟩h=>⟨b,h1,h2,by
 rw[Ext.block h b (Array.getElem?_eq_some_iff.1 h3).1 (λhb=>Nat.lt_irrefl _ (Nat.lt_of_lt_of_le (hB b hb) h2))];exact h3⟩
def IsT2(v:Value):Prop:=∃x y,v= .tuple #[x,y]
inductive XP
 |nw (len:Nat) (o:Obj)
 |t2
 |any
 |pt (off:Nat) (o:Obj)
 |sl (sz n:Nat) (cs:List Value)
def XP.pred(n0:Nat):XP->Pred
 | .nw len o=>NwS n0 len o
 | .t2=>λv _=>IsT2 v
 | .any=>λ_ _=>True
 | .pt off o=>λv w=>∃b,v= .pointer (some ⟨b,off,none⟩)/\n0<=b/\w.heap[b]? =some o
 | .sl sz n cs=>λv w=>SlAt w sz v n cs/\NewV n0 v
theorem XP.stays{n0:Nat}{B:List Nat}(hB:∀b∈B,b<n0):∀x:XP,Zfw (ZdH B) (x.pred n0)
 | .nw _ _=>NwS.staysBut hB
 | .t2=>λ_ _ _ h _=>h
 | .any=>λ_ _ _ h _=>h
 | .pt _ _=>λv w w'⟨b,h1,h2,h3⟩h=>⟨b,h1,h2,by
  rw[Ext.block h b (Array.getElem?_eq_some_iff.1 h3).1 (λhb=>Nat.lt_irrefl _ (Nat.lt_of_lt_of_le (hB b hb) h2))];exact h3⟩
 | .sl _ _ _=>λv w w'⟨h1,h2⟩h=>⟨h1.laterB (λb o s k c e hb=>Nat.lt_irrefl _ (Nat.lt_of_lt_of_le (hB b hb) (h2 b o s k c e))) h,h2⟩
structure RX where
 ol:List Oper
 n:Nat
 B:List Nat
 Ef:List Nat
 Rl:List (Nat×Nat)
 lk:Row
abbrev ESt:=FN->Row->Prop
def ET(c:Cx)(E:ESt):Zep:=fun σ w=>∃sl l,E sl l/\(∀q∈sl,σ q.1=q.2)/\Mem c.S c.W w l.flatten
def FE(c:Cx)(Q:Exit->Act->World->Prop)(ks:List KF)(x:RX)(k:Nat)(rest:List Oper)(fr:FN)(xs:List (Nat×XP))(E:ESt):Prop:=
 (∀sl l,E sl l->∀q∈sl,q.1<k)->∀a w Vs,(∀w',Ext x.B w w'->Mem c.S c.W w' x.lk.flatten)->(∀b∈x.B,b<w.heap.size)->Zb2 x.ol.toArray x.n=true->(∀q∈xs,Vs[q.1]? =some (q.2.pred w.heap.size))->
  MW ⟨ZdH x.B,x.Ef,[],c.P,c.r,x.ol.toArray,x.n,c.n,c.df,a,w,KQ c Q ks,[],x.Rl⟩ k rest fr Vs (ET c E)
theorem Ze5{xs:List (Nat×XP)}{Vs:List Pred}{V:Pred}(h:∀q∈xs,Vs[q.1]? =some (q.2.pred n0)):∀q∈xs,(Vs++[V])[q.1]? =some (q.2.pred n0):=λq hq=>by
 have:=h q hq
 rw[List.getElem?_append_left (List.getElem?_eq_some_iff.1 this).1,this]
def E0(l:Row):ESt:=λsl l'=>sl=[]/\l'=l
section
variable {c:Cx} {Q:Exit->Act->World->Prop} {ks:List KF} {fr fr':FN} {l:Row} {x:RX} {rest rest':List Oper} {k k':Nat} {xs:List (Nat×XP)} {E:ESt} {d:Nat} {op:Op} {ty:TypeId} {pos:String} {af:Array Edge} {g:Option (Nat×Bool)}
theorem ZfX{id:Nat}{ol:List Oper}(n nt:Nat)(B Ef:List Nat)(Rl:List (Nat×Nat))(l0 lk:Row) [hm:TMix c.P](hnt:c.n=nt)(hchk:(Zb2 ol.toArray n&&Zdg ol.toArray n&&Nat.ble n ol.length&&Zg8 ol.toArray n nt&&ZcH ol.toArray n Ef&&xOk ol.toArray n Ef []&&Zh3 ol.toArray n Rl)=true)
  (hp:l.flatten.Perm (l0.flatten++lk.flatten)) (hB:∀b∈B,b∈l0.flatten.map (·.1)) (h:FE c Q ks ⟨ol,n,B,Ef,Rl,lk⟩ 0 ol fr [] (E0 l)):G c Q ks (.code (.region id ol.toArray true)) fr l:=λa w F M=>
 ZrE (ZdH B) Ef [] Rl (ET c (E0 l)) n F (by rw[hnt];exact hchk) (fun σ w w'⟨sl,l',h1,h2,h3⟩hE=>⟨sl,l',h1,h2,h3.later hE⟩) Q5 (fun σ d hd=>⟨[],l,⟨rfl,rfl⟩,by simp,M.later (Ext.drawn w d hd)⟩) λw1 hE hs hok=>by
  have M1:=(M.later hE).perm hp
  refine h (by rintro _ _ ⟨rfl,_⟩ q hq;cases hq) a w1 [] (λw' hE'=>M1.laterBut hE' hB) (λb hb=>?_) hok Q5
  obtain⟨q,hq,e⟩:=List.mem_map.1 (hB b hb)
  rw[<-e]
  exact M1.lt (List.mem_append_left _ hq)
theorem fe_c(h:∀a w,Frm a c.n c.df fr->Mem c.S c.W w x.lk.flatten->OpTo c.P ⟨some d,op,ty,pos,af,g⟩ a.eval w λu w'=>Ext [] w w'/\u=v)
  (hk:FE c Q ks x (k+1) rest ((d,v)::fr) xs E) (hlt:flo x.Ef x.Rl [] x.n k op=true:=by rfl) (hd:Nat.blt d c.n=true:=by rfl) (hg:gOk x.ol.toArray fr g=some true:=by rfl):FE c Q ks x k (⟨some d,op,ty,pos,af,g⟩::rest) fr xs E:=λhE a w Vs hM hB hok hx=>by
 have hE':∀sl l,E sl l->∀q∈sl,q.1<k+1:=λsl l h q hq=>Nat.lt_succ_of_lt (hE sl l h q hq)
 rcases ZfE hg with rfl|⟨j,b,t,rfl,ht,hl⟩
 ·exact mK hok hlt hd (λa' w' F he=>h a' w' F (hM w' he)) (hk hE' a w _ hM hB hok (Ze5 hx))
 ·exact mKG hok hlt hd ht hl (λa' w' F he=>h a' w' F (hM w' he)) (hk hE' a w _ hM hB hok (Ze5 hx))
theorem fe_v(h:∀a w,Frm a c.n c.df fr->Mem c.S c.W w x.lk.flatten->∀R:Value->World->Prop,R v w->OpTo c.P ⟨some d,op,ty,pos,af,g⟩ a.eval w R)
  (hk:FE c Q ks x (k+1) rest ((d,v)::fr) xs E) (hlt:flo x.Ef x.Rl [] x.n k op=true:=by rfl) (hd:Nat.blt d c.n=true:=by rfl) (hg:gOk x.ol.toArray fr g=some true:=by rfl):FE c Q ks x k (⟨some d,op,ty,pos,af,g⟩::rest) fr xs E:=
 fe_c (λa w F M=>h a w F M _ ⟨Ext.refl _ _,rfl⟩) hk hlt hd hg
theorem Zf1 [hb:Zad c.P f](hx:Ev fr y=some (.func (.func f) #[] #[]))(ha:evL fr ys=some vs)(hc:∀w,Mem c.S c.W w x.lk.flatten->Cal c.P f vs.toArray w λu w'=>u=v/\Ext [] w w')
  (hk:FE c Q ks x (k+1) rest ((d,v)::fr) xs E) (hlt:flo x.Ef x.Rl [] x.n k (.call ⟨.value y,ys.toArray,ts⟩)=true:=by rfl) (hd:Nat.blt d c.n=true:=by rfl) (hg:gOk x.ol.toArray fr g=some true:=by rfl):FE c Q ks x k (⟨some d, .call ⟨.value y,ys.toArray,ts⟩,ty,pos,af,g⟩::rest) fr xs E:=
 fe_c (λa w F M=>Zav (F.e hx) (F.evs ha) (Cal.mono (hc w M) λu w' h=>⟨h.2,h.1⟩)) hk hlt hd hg
theorem Zy3(hk:FE c Q ks x (k+1) rest ((d,undef)::fr) xs E)(hlt:flo x.Ef x.Rl [] x.n k op=true:=by rfl)(hd:Nat.blt d c.n=true:=by rfl)(hg:gOk x.ol.toArray fr g=some false:=by rfl):FE c Q ks x k (⟨some d,op,ty,pos,af,g⟩::rest) fr xs E:=λhE a w Vs hM hB hok hx=>by
 obtain⟨j,b,t,v,rfl,ht,hl,ho⟩:=Zin hg
 exact mOff hok hlt hd ht hl ho (hk (λsl l h q hq=>Nat.lt_succ_of_lt (hE sl l h q hq)) a w _ hM hB hok (Ze5 hx))
def runE(c:Cx)(x:RX):Nat->Nat->List Oper->FN->Nat×List Oper×FN
 |m+1,k,o::rest,fr=>match o.dst with
  |some d=>match Nat.blt d c.n&&flo x.Ef x.Rl [] x.n k o.op with
   |true=>match gOk x.ol.toArray fr o.guard with
    |some true=>match evO c fr o.op with
     |some v=>runE c x m (k+1) rest ((d,v)::fr)
     |none=>(k,o::rest,fr)
    |some false=>runE c x m (k+1) rest ((d,undef)::fr)
    |none=>(k,o::rest,fr)
   |false=>(k,o::rest,fr)
  |none=>(k,o::rest,fr)
 | _,k,rest,fr=>(k,rest,fr)
theorem Zaw:∀(m:Nat){k k':Nat}{rest rest':List Oper}{fr fr':FN},runE c x m k rest fr=(k',rest',fr')->FE c Q ks x k' rest' fr' xs E->FE c Q ks x k rest fr xs E
 |0,k,k',rest,rest',fr,fr',h,hk=>by
  cases rest<;>cases h<;>exact hk
 |m+1,k,k',[],rest',fr,fr',h,hk=>by
  cases h
  exact hk
 |m+1,k,k',o::rest,rest',fr,fr',h,hk=>by
  obtain⟨dst,op,ty,pos,af,g⟩:=o
  unfold runE at h
  split at h
  ·rename_i d hd0
   dsimp only at hd0
   subst hd0
   split at h
   ·rename_i hb
    simp only[Bool.and_eq_true] at hb
    split at h
    ·rename_i hg
     split at h
     ·rename_i v hv
      exact fe_v (λa w F M R r=>Zjt F hv r) (Zaw m h hk) hb.2 hb.1 hg
     ·cases h
      exact hk
    ·rename_i hg
     exact Zy3 (Zaw m h hk) hb.2 hb.1 hg
    ·cases h
     exact hk
   ·cases h
    exact hk
  ·cases h
   exact hk
theorem Zln{t e:TypeId}{len sz:Nat}{ys:List (Nat×Operand)}{parts:List (Nat×List Value)}{zs cs:List Value} [ht:TU c.P t (.slice e)] [hs:TSz c.P e sz] [hz:ZcD c.P e zs](hv:evP fr ys=some parts)
  (hle:Nat.ble (len*sz) 16777216=true) (hzl:Nat.beq zs.length sz=true) (hp:ZaD (Zcu len sz) (Zc4 zs (len*sz)) parts=some cs)
  (hk:FE c Q ks x (k+1) rest fr ((k, .nw len (.cells cs.toArray e (0,0)))::xs) E) (hlt:flo x.Ef x.Rl [] x.n k (.buildSlice t len ys.toArray)=true:=by rfl) (hnd:ZcU d fr=true:=by rfl):
  FE c Q ks x k (⟨some d, .buildSlice t len ys.toArray,ty,pos,af,none⟩::rest) fr xs E:=λhE a w Vs hM hB hok hx=>by
 intro hlen
 refine mX (V:=NwS w.heap.size len (.cells cs.toArray e (0,0))) hok hlt hnd (NwS.staysBut hB) (λa' w' F' E' D'=>ZaC F' (Mem.start [] w') hv hle hzl hp λb w'' M''=>⟨M''.ext,b,rfl,Nat.le_trans E'.size ((M''.own _ List.mem_cons_self).resolve_left Q5),M''.heap .here⟩) (hk (λsl l h q hq=>Nat.lt_succ_of_lt (hE sl l h q hq)) a w _ hM hB hok λq hq=>?_) hlen
 rcases List.mem_cons.1 hq with rfl|hq
 ·show(Vs++[NwS w.heap.size len (.cells cs.toArray e (0,0))])[k]? =some (NwS w.heap.size len (.cells cs.toArray e (0,0)))
  rw[<-hlen]
  simp
 ·exact Ze5 hx q hq
def OpF(c:Cx)(x:RX)(xs:List (Nat×XP))(o:Oper)(fr:FN)(l:Row)(Ψ:Value->Row->Prop):Prop:=
 ∀a w,Frm a c.n c.df fr->Mem c.S c.W w l.flatten->(∀q∈xs,q.1∈ZaE o->∃n0,q.2.pred n0 (ZaP x.ol.toArray q.1 a) w)->OpTo c.P o a.eval w λv w'=>Ext x.B w w'/\∃r,Ψ v r/\Mem c.S c.W w' r.flatten
def dsFr:List (Nat×Nat)->FN->FN
 |[],_=>[]
 |p::r,sl=>match look sl p.1 with
  |some v=>(p.2,v)::dsFr r sl
  |none=>dsFr r sl
def dsOk(ops:Array Oper)(o:Oper)(Ef:List Nat)(ds:List (Nat×Nat)):Bool:=ds.all λp=>(ZaE o).contains p.1&&Ef.contains p.1&&(match (ops[p.1]?).bind (·.dst) with|some t=>Nat.beq t p.2|none=>false)
theorem ZhB:∀{sl:FN}{j:Nat}{v:Value},look sl j=some v->(j,v)∈sl
 |[],_,_,h=>by simp[look] at h
 |(t,u)::r,j,v,h=>by
  unfold look at h
  split at h
  ·rename_i hb
   cases h
   simp[Nat.eq_of_beq_eq_true hb]
  ·exact List.mem_cons_of_mem _ (ZhB h)
theorem ZfF{o:Oper}{a:Act}{sl:FN}(F:Frm a c.n c.df fr)(hs:∀q∈sl,q.1∈x.Ef->q.1∈ZaE o->ZaP x.ol.toArray q.1 a=q.2):∀{ds:List (Nat×Nat)},dsOk x.ol.toArray o x.Ef ds=true->Frm a c.n c.df (dsFr ds sl++fr)
 |[],_=>F
 |(j,t)::r,h=>by
  simp only[dsOk,List.all_cons,Bool.and_eq_true] at h
  have ih:=ZfF F hs (ds:=r) h.2
  unfold dsFr
  split
  ·rename_i v hv
   refine ih.know ?_
   have h1:=hs _ (ZhB hv) (by simpa using h.1.1.2) (by simpa using h.1.1.1)
   have h2:=h.1.2
   dsimp only at h1 h2
   unfold ZaP at h1
   revert h1 h2
   cases((x.ol.toArray[j]?).bind (·.dst)) with
   |none=>intro _ h2;cases h2
   |some t'=>intro h1 h2;rw[<-Nat.eq_of_beq_eq_true h2];exact h1
  ·exact ih
theorem Zy7(Ψ:FN->Row->Value->Row->Prop)(ds:List (Nat×Nat))(p:XP)(h:∀sl l,E sl l->OpF c x xs ⟨some d,op,ty,pos,af,none⟩ (dsFr ds sl++fr) l (Ψ sl l))(hp:∀sl l v r,E sl l->Ψ sl l v r->∀n0 w,p.pred n0 v w)
  (hk:FE c Q ks x (k+1) rest fr ((k,p)::xs) (λs r=>∃sl l v,E sl l/\Ψ sl l v r/\s=(k,v)::sl))
  (hlt:effX x.Ef x.Rl [] x.n k op=true:=by rfl) (hnd:ZcU d fr=true:=by rfl) (hds:dsOk x.ol.toArray ⟨some d,op,ty,pos,af,none⟩ x.Ef ds=true:=by rfl):
  FE c Q ks x k (⟨some d,op,ty,pos,af,none⟩::rest) fr xs E:=λhE a w Vs hM hB hok hx=>by
 obtain⟨h1,h2,h3,h4,hrf⟩:=ZcO hlt
 rintro rfl hT0 hPK
 have hsT:ZcG (ZdH x.B) (ET c λs r=>∃sl l v,E sl l/\Ψ sl l v r/\s=(Vs.length,v)::sl):=fun σ w w'⟨sl,l',q1,q2,q3⟩hE=>⟨sl,l',q1,q2,q3.later hE⟩
 refine ZcN hok h1 (XP.stays hB p) hsT hT0.2 (λhh=>absurd h2 hh) hPK (λhC ho'=>Zcn (λd' hd'=>by cases hd';exact hnd) hC ho') (λa' w' σ F he hdp hT hPp hσ hrel=>?_) (hk ?_ a w (Vs++[p.pred w.heap.size]) hM hB hok (λq hq=>?_) Q5 ⟨hsT,XT.nil rfl⟩ hPK)
 ·simp only[Region.wanted,if_true]
  obtain⟨sl,l,e1,e2,M⟩:=hT h2
  refine(h sl l e1 a' w' (ZfF F (λq hq hf hd=>?_) hds) M (λq hq hd=>⟨_,hdp q.1 hd _ (hx q hq)⟩)).mono λv w''⟨q1,r,q2,q3⟩=>⟨q1,hp _ _ _ _ e1 q2 _ _,λhh=>absurd (h3.symm.trans hh) Bool.false_ne_true,λhh=>absurd h2 hh,λ_=>⟨(Vs.length,v)::sl,r,⟨sl,l,v,e1,q2,rfl⟩,?_,q3⟩, .none h4,λq hq e=>(ZaI hrf q hq e).elim⟩
  ·rw[<-hσ q.1 (.inl hf) hd]
   exact e2 q hq
  ·intro q hq
   rcases List.mem_cons.1 hq with rfl|hq
   ·simp[updS]
   ·have:=hE sl l e1 q hq
    simp only[updS]
    rw[if_neg Q0]
    exact e2 q hq
 ·rintro s r ⟨sl,l,v,e1,_,rfl⟩ q hq
  rcases List.mem_cons.1 hq with rfl|hq
  ·exact Nat.lt_succ_self _
  ·exact Nat.lt_succ_of_lt (hE sl l e1 q hq)
 ·rcases List.mem_cons.1 hq with rfl|hq
  ·simp
  ·exact Ze5 hx q hq
theorem Zwy(Ψ:FN->Row->Row->Prop)(ds:List (Nat×Nat))(h:∀sl l,E sl l->OpF c x xs ⟨none,op,ty,pos,af,none⟩ (dsFr ds sl++fr) l (λ_=>Ψ sl l))
  (hk:FE c Q ks x (k+1) rest fr xs (λs r=>∃l,E s l/\Ψ s l r))
  (hlt:effX x.Ef x.Rl [] x.n k op=true:=by rfl) (hds:dsOk x.ol.toArray ⟨none,op,ty,pos,af,none⟩ x.Ef ds=true:=by rfl):
  FE c Q ks x k (⟨none,op,ty,pos,af,none⟩::rest) fr xs E:=λhE a w Vs hM hB hok hx=>by
 obtain⟨h1,h2,h3,h4,hrf⟩:=ZcO hlt
 rintro rfl hT0 hPK
 have hsT:ZcG (ZdH x.B) (ET c λs r=>∃l,E s l/\Ψ s l r):=fun σ w w'⟨sl,l',q1,q2,q3⟩hE=>⟨sl,l',q1,q2,q3.later hE⟩
 refine ZcN hok h1 (Kn.stays _ undef) hsT hT0.2 (λhh=>absurd h2 hh) hPK (λhC ho'=>Zcn (λd' hd'=>by cases hd') hC ho') (λa' w' σ F he hdp hT hPp hσ hrel=>?_) (hk ?_ a w (Vs++[Kn undef]) hM hB hok (Ze5 hx) Q5 ⟨hsT,XT.nil rfl⟩ hPK)
 ·simp only[Region.wanted,if_true]
  obtain⟨sl,l,e1,e2,M⟩:=hT h2
  refine(h sl l e1 a' w' (ZfF F (λq hq hf hd=>?_) hds) M (λq hq hd=>⟨_,hdp q.1 hd _ (hx q hq)⟩)).mono λv w''⟨q1,r,q2,q3⟩=>⟨q1,rfl,λhh=>absurd (h3.symm.trans hh) Bool.false_ne_true,λhh=>absurd h2 hh,λ_=>⟨sl,r,⟨l,e1,q2⟩,?_,q3⟩, .none h4,λq hq e=>(ZaI hrf q hq e).elim⟩
  ·rw[<-hσ q.1 (.inl hf) hd]
   exact e2 q hq
  ·intro q hq
   have:=hE sl l e1 q hq
   show updS σ Vs.length undef q.1=q.2
   simp only[updS]
   rw[if_neg Q0]
   exact e2 q hq
 ·rintro s r ⟨l,e1,_⟩ q hq
  exact Nat.lt_succ_of_lt (hE s l e1 q hq)
def ZiV(ops:Array Oper):List (Nat×Nat)->FN->Option FN
 |[],sl=>some sl
 |q::r,sl=>match look sl q.2 with
  |some u=>match ops[q.1]? with
   |some o=>match relV o.op u with
    |some v=>ZiV ops r ((q.1,v)::sl)
    |none=>none
   |none=>none
  |none=>none
def toFr(ops:Array Oper):FN->FN
 |[]=>[]
 |(j,v)::r=>match (ops[j]?).bind (·.dst) with
  |some t=>(t,v)::toFr ops r
  |none=>toFr ops r
theorem Zh4{ops:Array Oper}{a:Act}:∀{Rl:List (Nat×Nat)}{sl sl':FN},(∀q∈Rl,∃oq,ops[q.1]? =some oq/\relV oq.op (ZaP ops q.2 a)=some (ZaP ops q.1 a))->(∀q∈sl,ZaP ops q.1 a=q.2)->ZiV ops Rl sl=some sl'->∀q∈sl',ZaP ops q.1 a=q.2
 |[],sl,sl',_,h2,h=>by
  cases h
  exact h2
 |p::r,sl,sl',h1,h2,h=>by
  unfold ZiV at h
  split at h
  ·rename_i u hu
   split at h
   ·rename_i o ho
    split at h
    ·rename_i v hv
     refine Zh4 (λq hq=>h1 q (List.mem_cons_of_mem _ hq)) (λq hq=>?_) h
     rcases List.mem_cons.1 hq with rfl|hq
     ·obtain⟨oq,g1,g2⟩:=h1 p List.mem_cons_self
      rw[ho] at g1
      cases g1
      have h3:=h2 _ (ZhB hu)
      dsimp only at h3
      rw[h3,hv] at g2
      injection g2 with g2
      exact g2.symm
     ·exact h2 q hq
    ·cases h
   ·cases h
  ·cases h
theorem Zf5{ops:Array Oper}{a:Act}(F:Frm a c.n c.df fr):∀{sl:FN},(∀q∈sl,ZaP ops q.1 a=q.2)->Frm a c.n c.df (toFr ops sl++fr)
 |[],_=>F
 |(j,v)::r,h=>by
  have ih:=Zf5 F λq hq=>h q (List.mem_cons_of_mem _ hq)
  have h1:=h _ List.mem_cons_self
  unfold ZaP at h1
  dsimp only at h1
  unfold toFr
  split
  ·rename_i t ht
   rw[ht] at h1
   exact ih.know h1
  ·exact ih
theorem ZwB(hn:Nat.beq k x.n=true)(hEf:∀sl l,E sl l->∀q∈sl,q.1∈x.Ef)(h:∀sl l,E sl l->∃s,ZiV x.ol.toArray x.Rl sl=some s/\G c Q ks (.ops x.ol.toArray rest) (toFr x.ol.toArray s++fr) l):FE c Q ks x k rest fr xs E:=λhE a w Vs hM hB hok hx=>by
 refine Zxh hn λa' w' F he hV hT _ hR=>?_
 obtain⟨sl,l,e1,e2,M⟩:=hT
 obtain⟨s,h1,h2⟩:=h sl l e1
 refine h2 a' w' (Zf5 F (Zh4 hR (λq hq=>?_) h1)) M
 rw[<-e2 q hq]
 simp[ZdM,hEf sl l e1 q hq]
theorem Zqb{o:Oper}(h:∀a w,Frm a c.n c.df fr->Mem c.S c.W w l.flatten->∀R:Value->World->Prop,R v w->OpTo c.P o a.eval w R):OpF c x xs o fr l (λu r=>u=v/\r=l):=λa w F M _=>
 h a w F M _ ⟨Ext.refl _ _,l,⟨rfl,rfl⟩,M⟩
theorem Zh6{ι:Type}(val:ι->Value)(p:ι->Prop)(li:ι->Row) [hb:Zad c.P fn](hx:Ev fr y=some (.func (.func fn) #[] #[]))(ha:evL fr ys=some vs)
  (hc:∀w,Mem c.S c.W w l.flatten->Cal c.P fn vs.toArray w λv w'=>∃i,v=val i/\p i/\Mem [] w w' (li i).flatten):
  OpF c x xs ⟨some d, .call ⟨.value y,ys.toArray,ts⟩,ty,pos,af,none⟩ fr l (λu r=>∃i,u=val i/\p i/\r=li i++l):=λa w F M _=>
 Zav (F.e hx) (F.evs ha) (Cal.mono (hc w M) λu w' h=>by
  obtain⟨i,h1,h2,N⟩:=h
  exact⟨N.ext.any,_,⟨i,h1,h2,rfl⟩,by rw[List.flatten_append];exact M.joins N⟩)
theorem Zev{ι:Type}(j:Nat)(val:ι->Value)(p:ι->Prop)(ob:ι->Obj)(li:ι->Row){f:ι->Row}{o:Obj} [hb:Zad c.P fn](hx:Ev fr y=some (.func (.func fn) #[] #[]))(ha:evL fr ys=some vs)
  (hl:nthO l j=some [(b,o)]) (hB:b∈x.B) (hc:∀w,Mem c.S c.W w l.flatten->Cal c.P fn vs.toArray w λv w'=>∃i,v=val i/\p i/\Mem [b] w w' ((b,ob i)::(li i).flatten)) (hf:∀i,setO l j [(b,ob i)]=some (f i)):
  OpF c x xs ⟨some d, .call ⟨.value y,ys.toArray,ts⟩,ty,pos,af,none⟩ fr l (λu r=>∃i,u=val i/\p i/\r=li i++f i):=λa w F M _=>
 Zav (F.e hx) (F.evs ha) (Cal.mono (hc w M) λu w' h=>by
  obtain⟨i,h1,h2,N⟩:=h
  refine⟨N.ext.mono λk hk=>by simp at hk;subst hk;exact hB,_,⟨i,h1,h2,rfl⟩,?_⟩
  obtain⟨r,p1,p2⟩:=ZcL hl (hf i)
  have N':Mem (([(b,o)]:EN).map (·.1)) w w' ((b,ob i)::(li i).flatten):=N
  refine((M.perm p1).joinB N').perm ?_
  rw[List.flatten_append]
  refine List.Perm.trans ?_ (List.Perm.append_left _ p2.symm)
  simpa using(List.perm_middle (a:=(b,ob i)) (l₁:=(li i).flatten) (l₂:=r)).symm)
theorem vBv(h:p:=by
  have h5:=MM.nd
  simp only[List.map_append,List.nodup_append] at h5
  rw[List.append_nil]
  exact⟨Ext.refl _ _,λp hp=>MM.at_ p (List.mem_append_left _ hp),h5.1,λp hp=> .inl (List.mem_map.2 ⟨p,hp,rfl⟩)⟩):p:=h
theorem vC1(h:p:=by
  refine⟨M'.ext.mono λk hk=>?_,f ent',⟨(v',ent'),rfl,hO',rfl⟩,(MM.joinB M').perm (hf ent')⟩
  obtain⟨q,hq,rfl⟩:=List.mem_map.1 hk
  exact hB q hq):p:=h
theorem ZvP{α:Type}{enc:α->List Value}{out:List α}{x0:α}(j:Nat){st xt e:TypeId}{y1:Operand}{t2:Nat}{sz by_:Nat}{ent r:EN}{f:EN->Row} [hst:TU c.P st (.slice e)] [hel:TEl c.P e sz by_] [hxt:TNI c.P xt]
  (hx:Ev fr y1=some v) (hO:OwnS e sz v out.length (encL enc out) ent) (hl:l.flatten.Perm (ent++r)) (hB:∀q∈ent,q.1∈x.B) (hj:(j,XP.nw 1 (.cells (enc x0).toArray t' fz))∈xs) (hz:(enc x0).length=sz) (hbd:(out.length+1)*by_<=140737488355328) (hln:out.length+1<=9223372036854775807)
  (hf:∀ent',(ent'++r).Perm (f ent').flatten) (h1:(enc x0).all (·.oneCell')=true) (hd:(ZaE ⟨some d, .call ⟨.builtin .append, #[y1, .tmp t2], #[st,xt]⟩,ty,pos,af,none⟩).contains j=true:=by rfl) (ht:(x.ol.toArray[j]?).bind (·.dst)=some t2:=by rfl):
  OpF c x xs ⟨some d, .call ⟨.builtin .append, #[y1, .tmp t2], #[st,xt]⟩,ty,pos,af,none⟩ fr l (λu r=>∃j:Value×EN,u=j.1/\OwnS e sz j.1 (out++[x0]).length (encL enc (out++[x0])) j.2/\r=f j.2):=λa w F M hX=>by
 obtain⟨n0,bx,hv,_,hbx⟩:=hX _ hj (by simpa using hd)
 have hv':a.eval (.tmp t2)= .slice (some ⟨bx,0,none⟩) 1 1:=by
  unfold ZaP at hv
  dsimp only at hv
  rw[ht] at hv
  exact hv
 have hS:Zcc c.P w (.slice (some ⟨bx,0,none⟩) 1 1) 1 sz (enc x0):=Zcc.cells' hbx (by rw[Nat.one_mul,<-hz];simpa using ZfG [] (enc x0) []) h1
 have MM:=M.perm hl
 have M0:Mem (ent.map (·.1)) w w (ent++[]):=by
  exact vBv
 refine Zd5 (f:=λe'=>[]++e') hO (M0.perm List.perm_append_comm) (.app .here) (F.e hx) hv' hS hbd (λv' ent' w' hO' M'=>?_) hln
 exact vC1
def EI{ι:Type}(P:ι->Prop)(sl:ι->FN)(li:ι->Row):ESt:=λs r=>∃i,P i/\s=sl i/\r=li i
theorem Ze1(h:FE c Q ks x k rest fr xs (EI (ι:=Unit) (λ_=>True) (λ_=>[]) (λ_=>l))):FE c Q ks x k rest fr xs (E0 l):=by
 have:E0 l=EI (ι:=Unit) (λ_=>True) (λ_=>[]) (λ_=>l):=by
  funext s r
  simp[E0,EI]
 rw[this]
 exact h
section
variable {ι:Type} {P:ι->Prop} {sl:ι->FN} {li:ι->Row}
theorem vAb(h:p:=by
  have:(λs r=>∃sl' l v,EI P sl li sl' l/\(∃i j,P i/\p i j/\sl'=sl i/\v=val i j/\r=f i j)/\s=(k,v)::sl')=EI (ι:=ι×κ) (λq=>P q.1/\p q.1 q.2) (λq=>(k,val q.1 q.2)::sl q.1) (λq=>f q.1 q.2):=by
   funext s r
   apply propext
   constructor
   ·rintro⟨sl',l,v,_,⟨i,j,h1,h2,rfl,rfl,rfl⟩,rfl⟩
    exact⟨(i,j),⟨h1,h2⟩,rfl,rfl⟩
   ·rintro⟨⟨i,j⟩,⟨h1,h2⟩,rfl,rfl⟩
    exact⟨sl i,li i,val i j,⟨i,h1,rfl,rfl⟩,⟨i,j,h1,h2,rfl,rfl,rfl⟩,rfl⟩
  rw[this]
  exact hk):p:=h
theorem vAZ(h:p:=by
  rintro _ _ ⟨i,hi,rfl,rfl⟩ a w F M hx
  refine(h i hi a w F M hx).mono λv w'⟨q1,r,⟨j,q2,q3,q4⟩,q5⟩=>⟨q1,r,⟨i,j,hi,q3,rfl,q2,q4⟩,q5⟩):p:=h
theorem Zg5{κ:Type}(val:ι->κ->Value)(p:ι->κ->Prop)(f:ι->κ->Row)(ds:List (Nat×Nat))(xp:XP)
  (h:∀i,P i->OpF c x xs ⟨some d,op,ty,pos,af,none⟩ (dsFr ds (sl i)++fr) (li i) (λv r=>∃j,v=val i j/\p i j/\r=f i j)) (hp:∀i j n0 w,xp.pred n0 (val i j) w)
  (hk:FE c Q ks x (k+1) rest fr ((k,xp)::xs) (EI (ι:=ι×κ) (λq=>P q.1/\p q.1 q.2) (λq=>(k,val q.1 q.2)::sl q.1) (λq=>f q.1 q.2)))
  (hlt:effX x.Ef x.Rl [] x.n k op=true:=by rfl) (hnd:ZcU d fr=true:=by rfl) (hds:dsOk x.ol.toArray ⟨some d,op,ty,pos,af,none⟩ x.Ef ds=true:=by rfl):
  FE c Q ks x k (⟨some d,op,ty,pos,af,none⟩::rest) fr xs (EI P sl li):=by
 refine Zy7 (λs _ v r=>∃i j,P i/\p i j/\s=sl i/\v=val i j/\r=f i j) ds xp ?_ ?_ ?_ hlt hnd hds
 ·exact vAZ
 ·rintro s r v r' _ ⟨i,j,_,_,_,rfl,_⟩ n0 w
  exact hp i j n0 w
 ·exact vAb
theorem ZnV(f:ι->Row)(ds:List (Nat×Nat))(h:∀i,P i->OpF c x xs ⟨some d,op,ty,pos,af,none⟩ (dsFr ds (sl i)++fr) (li i) (λu r=>u=v/\r=f i))
  (hk:FE c Q ks x (k+1) rest ((d,v)::fr) xs (EI P sl f))
  (hlt:effX x.Ef x.Rl [] x.n k op=true:=by rfl) (hd:Nat.blt d c.n=true:=by rfl) (hds:dsOk x.ol.toArray ⟨some d,op,ty,pos,af,none⟩ x.Ef ds=true:=by rfl):
  FE c Q ks x k (⟨some d,op,ty,pos,af,none⟩::rest) fr xs (EI P sl li):=λhE a w Vs hM hB hok hx=>by
 obtain⟨h1,h2,h3,h4,hrf⟩:=ZcO hlt
 rintro rfl hT0 hPK
 have hsT:ZcG (ZdH x.B) (ET c (EI P sl f)):=fun σ w w'⟨s,l',q1,q2,q3⟩hE=>⟨s,l',q1,q2,q3.later hE⟩
 have hlt':∀i,P i->∀q∈sl i,q.1<Vs.length:=λi hi q hq=>hE _ _ ⟨i,hi,rfl,rfl⟩ q hq
 refine ZcN hok h1 (Kn.stays _ v) hsT hT0.2 (λhh=>absurd h2 hh) hPK (λhC ho=>Zd7 rfl hd hC ho) (λa' w' σ F he hdp hT hPp hσ hrel=>?_) (hk ?_ a w (Vs++[Kn v]) hM hB hok (Ze5 hx) Q5 ⟨hsT,XT.nil rfl⟩ hPK)
 ·simp only[Region.wanted,if_true]
  obtain⟨_,_,⟨i,hi,rfl,rfl⟩,e2,M⟩:=hT h2
  refine(h i hi a' w' (ZfF F (λq hq hf hd=>?_) hds) M (λq hq hd=>⟨_,hdp q.1 hd _ (hx q hq)⟩)).mono λu w''⟨q1,r,⟨q2,q4⟩,q3⟩=>⟨q1,q2,λhh=>absurd (h3.symm.trans hh) Bool.false_ne_true,λhh=>absurd h2 hh,λ_=>⟨sl i,r,⟨i,hi,rfl,q4⟩,?_,q3⟩, .none h4,λq hq e=>(ZaI hrf q hq e).elim⟩
  ·rw[<-hσ q.1 (.inl hf) hd]
   exact e2 q hq
  ·intro q hq
   have:=hlt' i hi q hq
   show updS σ Vs.length u q.1=q.2
   simp only[updS]
   rw[if_neg Q0]
   exact e2 q hq
 ·rintro _ _ ⟨i,hi,rfl,rfl⟩ q hq
  exact Nat.lt_succ_of_lt (hlt' i hi q hq)
theorem Zy1(f:ι->Row)(ds:List (Nat×Nat))(h:∀i,P i->OpF c x xs ⟨none,op,ty,pos,af,none⟩ (dsFr ds (sl i)++fr) (li i) (λ_ r=>r=f i))
  (hk:FE c Q ks x (k+1) rest fr xs (EI P sl f))
  (hlt:effX x.Ef x.Rl [] x.n k op=true:=by rfl) (hds:dsOk x.ol.toArray ⟨none,op,ty,pos,af,none⟩ x.Ef ds=true:=by rfl):
  FE c Q ks x k (⟨none,op,ty,pos,af,none⟩::rest) fr xs (EI P sl li):=by
 refine Zwy (λs _ r=>∃i,P i/\s=sl i/\r=f i) ds ?_ ?_ hlt hds
 ·rintro _ _ ⟨i,hi,rfl,rfl⟩ a w F M hx
  refine(h i hi a w F M hx).mono λv w'⟨q1,r,q2,q5⟩=>⟨q1,r,⟨i,hi,rfl,q2⟩,q5⟩
 ·have:(λs r=>∃l,EI P sl li s l/\∃i,P i/\s=sl i/\r=f i)=EI P sl f:=by
   funext s r
   apply propext
   constructor
   ·rintro⟨l,_,h⟩
    exact h
   ·rintro⟨i,h1,h2,h3⟩
    exact⟨li i,⟨i,h1,h2,rfl⟩,i,h1,h2,h3⟩
  rw[this]
  exact hk
theorem Zis(hn:Nat.beq k x.n=true)(hEf:∀i,P i->∀q∈sl i,q.1∈x.Ef)(h:∀i,P i->∃s,ZiV x.ol.toArray x.Rl (sl i)=some s/\G c Q ks (.ops x.ol.toArray rest) (toFr x.ol.toArray s++fr) (li i)):FE c Q ks x k rest fr xs (EI P sl li):=
 ZwB hn (by rintro _ _ ⟨i,hi,rfl,rfl⟩;exact hEf i hi) (by rintro _ _ ⟨i,hi,rfl,rfl⟩;exact h i hi)
end
theorem Zqd(j:Nat){o:Obj} [hb:Zad c.P fn](hx:Ev fr y=some (.func (.func fn) #[] #[]))(ha:evL fr ys=some vs)
  (hl:nthO l j=some [(b,o)]) (hB:b∈x.B) (hc:∀w,Mem c.S c.W w l.flatten->Cal c.P fn vs.toArray w λu w'=>u=v/\Mem [b] w w' [(b,o')]) (hf:setO l j [(b,o')]=some l'):
  OpF c x xs ⟨some d, .call ⟨.value y,ys.toArray,ts⟩,ty,pos,af,none⟩ fr l (λu r=>u=v/\r=l'):=λa w F M hX=>
 (Zev (ι:=Unit) j (λ_=>v) (λ_=>True) (λ_=>o') (λ_=>[]) hx ha hl hB (λw M=>Cal.mono (hc w M) λu w' h=>⟨(),h.1,trivial,by simpa using h.2⟩) (λ_=>hf) a w F M hX).mono λu w'⟨q1,r,⟨_,q2,_,q3⟩,q4⟩=>⟨q1,r,⟨q2,q3⟩,q4⟩
theorem ZaX{ι:Type}(i:Nat)(val:ι->Value)(p:ι->Prop)(ob:ι->Obj)(li:ι->Row){f:ι->Row}{o:Obj}{aa:Array Oper} [hb:Zad c.P fn](hx:Ev fr y=some (.func (.func fn) #[] #[]))(ha:evL fr ys=some vs)
  (hl:nthO l i=some [(b,o)]) (hc:∀w,Mem c.S c.W w l.flatten->Cal c.P fn vs.toArray w λv w'=>∃j,v=val j/\p j/\Mem [b] w w' ((b,ob j)::(li j).flatten)) (hf:∀j,setO l i [(b,ob j)]=some (f j))
  (hk:∀j,p j->G c Q ks (.ops aa rest) ((d,val j)::fr) (li j++f j)) (hd:Nat.blt d c.n=true:=by rfl) (hg:gOk aa fr g=some true:=by rfl):G c Q ks (.ops aa (⟨some d, .call ⟨.value y,ys.toArray,ts⟩,ty,pos,af,g⟩::rest)) fr l:=
 g_op rfl hd hg λa w F M=>Zav (F.e hx) (F.evs ha) (Cal.mono (hc w M) λu w' h a' F'=>by
  obtain⟨j,rfl,h2,N⟩:=h
  obtain⟨r,p1,p2⟩:=ZcL hl (hf j)
  have N':Mem (([(b,o)]:EN).map (·.1)) w w' ((b,ob j)::(li j).flatten):=N
  refine hk j h2 a' w' F' (((M.perm p1).joinB N').perm ?_)
  rw[List.flatten_append]
  refine List.Perm.trans ?_ (List.Perm.append_left _ p2.symm)
  simpa using(List.perm_middle (a:=(b,ob j)) (l₁:=(li j).flatten) (l₂:=r)).symm)
theorem Ztc(i:Nat){o:Obj}{aa:Array Oper} [hb:Zad c.P fn](hx:Ev fr y=some (.func (.func fn) #[] #[]))(ha:evL fr ys=some vs)
  (hl:nthO l i=some [(b,o)]) (hc:∀w,Mem c.S c.W w l.flatten->Cal c.P fn vs.toArray w λu w'=>u=v/\Mem [b] w w' [(b,o')]) (hf:setO l i [(b,o')]=some l')
  (hk:G c Q ks (.ops aa rest) ((d,v)::fr) l') (hd:Nat.blt d c.n=true:=by rfl) (hg:gOk aa fr g=some true:=by rfl):G c Q ks (.ops aa (⟨some d, .call ⟨.value y,ys.toArray,ts⟩,ty,pos,af,g⟩::rest)) fr l:=
 ZaX (ι:=Unit) i (λ_=>v) (λ_=>True) (λ_=>o') (λ_=>[]) hx ha hl (λw M=>Cal.mono (hc w M) λu w' h=>⟨(),h.1,trivial,by simpa using h.2⟩) (λ_=>hf) (λ_ _=>hk) hd hg
end
end
section
attribute [local irreducible] OpTo wpListIn Code.wpIn MW Cal
structure HL(L:List Nat)(p:Prop):Prop where
 h:p
theorem ZyK(h:p):HL [] p:=⟨h⟩
inductive SetR(b:Nat)(o o':Obj):Row->Row->Prop
 |here {l:Row}:SetR b o o' ([(b,o)]::l) ([(b,o')]::l)
 |there {p:EN} {l l':Row} (h:SetR b o o' l l'):SetR b o o' (p::l) (p::l')
theorem SetR.upd{b:Nat}{o o':Obj}{l l':Row}(h:SetR b o o' l l'):∃i,nthO l i=some [(b,o)]/\setO l i [(b,o')]=some l':=by
 induction h with
 |here=>exact⟨0,rfl,rfl⟩
 |there _ ih=>
  obtain⟨i,h1,h2⟩:=ih
  exact⟨i+1,h1,by simp only[setO,h2]⟩
section
variable {N:List Nat} {c:Cx} {Q:Exit->Act->World->Prop} {ks:List KF} {st:St} {fr:FN} {l l':Row} {all:Array Oper} {ol rest:List Oper} {d nn kx:Nat} {ty:TypeId} {pos:String} {af:Array Edge} {g:Option (Nat×Bool)}
theorem h_g{p q:Prop}(c:p->q)(k:HL N p):HL (0::N) q:=⟨c k.h⟩
theorem Zxm(k:HL N (G c Q ks st fr l)):HL N (G c Q ks st fr l):=k
theorem Zxn(k:HL N (FD c Q ks ol nn kx rest fr l)):HL N (FD c Q ks ol nn kx rest fr l):=k
theorem Zxj{ks':List KF}{st':St}{fr':FN}(h:runN c (n+1) ks st fr=(ks',st',fr'))(k:HL N (G c Q ks' st' fr' l)):HL ((n+1)::N) (G c Q ks st fr l):=⟨ZlQ _ h k.h⟩
theorem Zzn{m k':Nat}{rest':List Oper}{fr':FN}(h:runF c ol.toArray nn (m+1) kx rest fr=(k',rest',fr'))(k:HL N (FD c Q ks ol nn k' rest' fr' l)):HL ((m+1)::N) (FD c Q ks ol nn kx rest fr l):=⟨fR _ h k.h⟩
theorem ZtN{id n nt:Nat} [hm:TMix c.P](hnt:c.n=nt)(hchk:(Zb2 ol.toArray n&&Zdg ol.toArray n&&Nat.ble n ol.length&&Zg8 ol.toArray n nt&&ZcH ol.toArray n [])=true)(k:HL N (FD c Q ks ol n 0 ol fr l)):HL ((n+1000)::N) (G c Q ks (.code (.region id ol.toArray true)) fr l):=⟨ZyZ n nt hnt hchk k.h⟩
theorem Zxl [ht:TOne c.P t](hx:Ev fr x=some (.pointer (some ⟨b,off,none⟩)))(hl:InR l b (.cells cs.toArray t' fz))(hv:nth cs off=some v)
  (hk:HL N (G c Q ks (.ops all rest) ((d,v)::fr) l)) (hd:Nat.blt d c.n=true:=by rfl) (hg:gOk all fr g=some true:=by rfl):HL (0::N) (G c Q ks (.ops all (⟨some d, .load t x,ty,pos,af,g⟩::rest)) fr l):=
 ⟨g_v (λa w F M R r=>ZcB (F.e hx) (M.at_ _ hl.mem) hv r) hk.h rfl hd hg⟩
theorem Zxk [ht:TAgg c.P t n](hx:Ev fr x=some (.pointer (some ⟨b,off,none⟩)))(hl:InR l b (.cells cs.toArray t' fz))(hv:seg cs off n=some vs)
  (hk:HL N (G c Q ks (.ops all rest) ((d, .agg vs.toArray)::fr) l)) (hd:Nat.blt d c.n=true:=by rfl) (hg:gOk all fr g=some true:=by rfl):HL (0::N) (G c Q ks (.ops all (⟨some d, .load t x,ty,pos,af,g⟩::rest)) fr l):=
 ⟨g_v (λa w F M R r=>ZbM (F.e hx) (M.at_ _ hl.mem) hv r) hk.h rfl hd hg⟩
theorem Zzp [ht:TOne c.P t](hx:Ev fr x=some (.pointer (some ⟨b,off,none⟩)))(hl:InR l b (.cells cs.toArray t' fz))(hv:nth cs off=some v)
  (hk:HL N (FD c Q ks ol nn (kx+1) rest ((d,v)::fr) l)) (hlt:flo [] [] [] nn kx (.load t x)=true:=by rfl) (hd:Nat.blt d c.n=true:=by rfl) (hg:gOk ol.toArray fr g=some true:=by rfl):HL (0::N) (FD c Q ks ol nn kx (⟨some d, .load t x,ty,pos,af,g⟩::rest) fr l):=
 ⟨fd_v (λa w F M R r=>ZcB (F.e hx) (M.at_ _ hl.mem) hv r) hk.h hlt hd hg⟩
theorem Zzo [ht:TAgg c.P t n](hx:Ev fr x=some (.pointer (some ⟨b,off,none⟩)))(hl:InR l b (.cells cs.toArray t' fz))(hv:seg cs off n=some vs)
  (hk:HL N (FD c Q ks ol nn (kx+1) rest ((d, .agg vs.toArray)::fr) l)) (hlt:flo [] [] [] nn kx (.load t x)=true:=by rfl) (hd:Nat.blt d c.n=true:=by rfl) (hg:gOk ol.toArray fr g=some true:=by rfl):HL (0::N) (FD c Q ks ol nn kx (⟨some d, .load t x,ty,pos,af,g⟩::rest) fr l):=
 ⟨fd_v (λa w F M R r=>ZbM (F.e hx) (M.at_ _ hl.mem) hv r) hk.h hlt hd hg⟩
theorem ZrS{cs cs':List Value} [hs:TSz c.P t 1](hx:Ev fr x=some (.pointer (some ⟨b,off,none⟩)))(hy:Ev fr y=some v)(h1:v.oneCell'=true)(hl:SetR b (.cells cs.toArray t' (0,0)) (.cells cs'.toArray t' (0,0)) l l')(hp:put cs off [v]=some cs')
  (hk:HL N (G c Q ks (.ops all rest) fr l')):HL (0::N) (G c Q ks (.ops all (⟨none, .store t x y,ty,pos,af,none⟩::rest)) fr l):=⟨by
 obtain⟨i,hl,hl'⟩:=hl.upd
 exact Zgy i hx hy h1 hl hp hl' hk.h⟩
theorem Zxi{cs cs' vs:List Value} [hs:TAgg c.P t n](hx:Ev fr x=some (.pointer (some ⟨b,off,none⟩)))(hy:Ev fr y=some (.agg vs.toArray))(hn:vs.length=n)(h1:vs.all (·.oneCell')=true)(hl:SetR b (.cells cs.toArray t' (0,0)) (.cells cs'.toArray t' (0,0)) l l')(hp:put cs off vs=some cs')
  (hk:HL N (G c Q ks (.ops all rest) fr l')):HL (0::N) (G c Q ks (.ops all (⟨none, .store t x y,ty,pos,af,none⟩::rest)) fr l):=⟨by
 obtain⟨i,hl,hl'⟩:=hl.upd
 exact Zdf i hx hy hn h1 hl hp hl' hk.h⟩
theorem ZcW{o:Option Tmp}{op:Op}{j t:Nat}{b p q:Bool}(hj:(all[j]?).bind (·.dst)=some t)(h:look fr t=some (.bool p))(hb:p=q)(hk:HL N (G c Q ks (.ops all (⟨o,op,ty,pos,af,some (j,b)⟩::rest)) ((t, .bool q)::fr) l)):
  HL (0::N) (G c Q ks (.ops all (⟨o,op,ty,pos,af,some (j,b)⟩::rest)) fr l):=⟨Zji t h hb hk.h⟩
theorem Zc2{o:Option Tmp}{op:Op}{j t:Nat}{b p q:Bool}(hj:(ol.toArray[j]?).bind (·.dst)=some t)(h:look fr t=some (.bool p))(hb:p=q)(hk:HL N (FD c Q ks ol nn kx (⟨o,op,ty,pos,af,some (j,b)⟩::rest) ((t, .bool q)::fr) l)):
  HL (0::N) (FD c Q ks ol nn kx (⟨o,op,ty,pos,af,some (j,b)⟩::rest) fr l):=⟨Zmx t h hb hk.h⟩
section
variable {x:Operand} {f:FuncId} {xs:List Operand} {ts:Array TypeId} {vs:List Value} [hb:Zad c.P f]
theorem Zxo(hx:Ev fr x=some (.func (.func f) #[] #[]))(ha:evL fr xs=some vs)(hd:Nat.blt d c.n=true)(hg:gOk all fr g=some true)(h:∃v,(∀w,Mem c.S c.W w l.flatten->Cal c.P f vs.toArray w λu w'=>u=v/\Ext [] w w')/\HL N (G c Q ks (.ops all rest) ((d,v)::fr) l)):HL (0::N) (G c Q ks (.ops all (⟨some d, .call ⟨.value x,xs.toArray,ts⟩,ty,pos,af,g⟩::rest)) fr l):=h.elim λ_ h=>⟨Zb6 hx ha h.1 h.2.h hd hg⟩
theorem ZrT(hx:Ev fr x=some (.func (.func f) #[] #[]))(ha:evL fr xs=some vs)(hd:Nat.blt d c.n=true)(hg:gOk all fr g=some true)(h:∃v b o o' l',(∀w,Mem c.S c.W w l.flatten->Cal c.P f vs.toArray w λu w'=>u=v/\Mem [b] w w' [(b,o')])/\SetR b o o' l l'/\HL N (G c Q ks (.ops all rest) ((d,v)::fr) l')):HL (0::N) (G c Q ks (.ops all (⟨some d, .call ⟨.value x,xs.toArray,ts⟩,ty,pos,af,g⟩::rest)) fr l):=⟨by
 obtain⟨v,b,o,o',l',h1,h2,h3⟩:=h
 obtain⟨i,hl,hl'⟩:=h2.upd
 exact Ztc i hx ha hl h1 hl' h3.h hd hg⟩
theorem Zzq(hx:Ev fr x=some (.func (.func f) #[] #[]))(ha:evL fr xs=some vs)(hd:Nat.blt d c.n=true)(hlt:flo [] [] [] nn kx (.call ⟨.value x,xs.toArray,ts⟩)=true)(hg:gOk ol.toArray fr g=some true)(h:∃v,(∀w,Mem c.S c.W w l.flatten->Cal c.P f vs.toArray w λu w'=>u=v/\Ext [] w w')/\HL N (FD c Q ks ol nn (kx+1) rest ((d,v)::fr) l)):HL (0::N) (FD c Q ks ol nn kx (⟨some d, .call ⟨.value x,xs.toArray,ts⟩,ty,pos,af,g⟩::rest) fr l):=h.elim λ_ h=>⟨ZwE hx ha h.1 h.2.h hlt hd hg⟩
end
theorem W3(N:List Nat){p R:Prop}(k:R)
  (h:PL R->HL N p:=by
   intro kk
   repeat (first
    |refine ZtN rfl Q7 ?_
    |((with_reducible refine Zxm ?_);first
    |refine Zxj rfl ?_
    |(show HL _ (G _ _ _ (.ops _ (⟨_, .load _ _,_,_,_,_⟩::_)) _ _);first
     |refine Zxl rfl (by repeat (first|exact .here _|apply InR.there)) (by first|exact NthC.h cH|(dsimp only[Nat.reduceAdd];exact NthC.h cH)|with_reducible assumption|rfl) ?_
     |refine Zxk rfl (by repeat (first|exact .here _|apply InR.there)) (by first|exact SegC.h cH|(dsimp only[Nat.reduceAdd];exact SegC.h cH)|with_reducible assumption|rfl) ?_
     |refine h_g (λk=>ZgA rfl Qd Q3 k) ?_
     |refine h_g (λk=>ZiJ rfl Qd Q3 k) ?_)
    |(show HL _ (G _ _ _ (.ops _ (⟨_, .store _ _ _,_,_,_,_⟩::_)) _ _);first
     |refine ZrS rfl rfl rfl (by repeat (first|exact .here|apply SetR.there)) (by rfl) ?_
     |refine ZrS rfl rfl (Zc7 Qd) (by repeat (first|exact .here|apply SetR.there)) (by rfl) ?_
     |refine Zxi rfl rfl (by first|exact EncC.len cH|rfl) (by first|exact EncC.one|rfl) (by repeat (first|exact .here|apply SetR.there)) (by first|exact Zat ((by first|rfl|exact EncC.len cH:List.length _=_).trans (by first|exact(EncC.len cH).symm|rfl))|rfl) ?_)
    |(show HL _ (G _ _ _ (.ops _ (⟨_, .binOp .add _ _ _ _,_,_,_,_⟩::_)) _ _);first
     |refine h_g (λk=>Zim rfl rfl Qv k) ?_
     |refine h_g (λk=>Zim rfl rfl (w_u8 Q0 Q0) k) ?_
     |refine h_g (λk=>Zim rfl rfl (ZhP Q0 Q0) k) ?_
     |refine h_g (λk=>Zim rfl rfl (Ze9 Q0 Q0) k) ?_
     |refine h_g (λk=>Zim rfl rfl rfl k) ?_)
    |(show HL _ (G _ _ _ (.ops _ (⟨_, .binOp .sub _ _ _ _,_,_,_,_⟩::_)) _ _);first
     |refine h_g (λk=>ZiI rfl rfl Qv k) ?_
     |refine h_g (λk=>ZiI rfl rfl (w_u8 Q0 Q0) k) ?_
     |refine h_g (λk=>ZiI rfl rfl (ZhP Q0 Q0) k) ?_
     |refine h_g (λk=>ZiI rfl rfl (Ze9 Q0 Q0) k) ?_
     |refine h_g (λk=>ZiI rfl rfl rfl k) ?_)
    |(show HL _ (G _ _ _ (.ops _ (⟨_, .indexAddr _ _ _,_,_,_,_⟩::_)) _ _);first
     |refine h_g (λk=>Ztb rfl rfl Q0 Q0 k) ?_)
    |(show HL _ (G _ _ _ (.ops _ (⟨_, .build _ _,_,_,_,_⟩::_)) _ _);first
     |refine h_g (λk=>g_v (λa w F M R r=>Zaq F rfl Qd r) k) ?_
     |refine h_g (λk=>g_v (λa w F M R r=>Zaq F rfl rfl r) k) ?_)
    |(show HL _ (G _ _ _ (.ops _ (⟨_, .call ⟨.builtin .len,_,_⟩,_,_,_,_⟩::_)) _ _);first
     |refine h_g (λk=>ZyY rfl Qd k) ?_)
    |(show HL _ (G _ _ _ (.ops _ (⟨_, .nilCheck _,_,_,_,_⟩::_)) _ _);first
     |refine h_g (λk=>g_v (λa w F M R r=>Zan (F.e rfl) rfl r) k) ?_)
    |(show HL _ (G _ _ _ (.ops _ (⟨_, .convert _ _ _,_,_,_,_⟩::_)) _ _);first
     |refine h_g (λk=>Zei rfl rfl k) ?_)
    |(show HL _ (G _ _ _ (.code (.cond _ _ _)) _ _);first
     |refine h_g (λk=>Zii rfl Qt k) ?_
     |refine h_g (λk=>Zij rfl Qu k) ?_
     |refine h_g (λk=>Zii rfl (beq_iff_eq.2 Q0) k) ?_
     |refine h_g (λk=>Zij rfl (beq_eq_false_iff_ne.2 Q0) k) ?_
     |refine h_g (λk=>Zii rfl (bne_iff_ne.2 Q0) k) ?_
     |refine h_g (λk=>Zij rfl (bneF Q0) k) ?_
     |refine h_g (λk=>Zii rfl Qd k) ?_
     |refine h_g (λk=>Zij rfl Qd k) ?_
     |refine h_g (λk=>Zii rfl (notT Qd) k) ?_
     |refine h_g (λk=>Zij rfl (notF Qd) k) ?_)
    |(show HL _ (G _ _ _ (.ops _ (⟨_,_,_,_,_,some _⟩::_)) _ _);first
     |refine ZcW rfl rfl (q:=true) Qt ?_
     |refine ZcW rfl rfl (q:=false) Qu ?_
     |refine ZcW rfl rfl (q:=true) (beq_iff_eq.2 Q0) ?_
     |refine ZcW rfl rfl (q:=false) (beq_eq_false_iff_ne.2 Q0) ?_
     |refine ZcW rfl rfl (q:=true) (bne_iff_ne.2 Q0) ?_
     |refine ZcW rfl rfl (q:=false) (bneF Q0) ?_
     |refine ZcW rfl rfl (q:=true) Qd ?_
     |refine ZcW rfl rfl (q:=false) Qd ?_
     |refine ZcW rfl rfl (q:=true) (notT Qd) ?_
     |refine ZcW rfl rfl (q:=false) (notF Qd) ?_)
    |(show HL _ (G _ _ _ (.ext _) _ _);first|refine h_g (λk=>Zuq  k) ?_|refine h_g (λk=>Zur  k) ?_|refine h_g (λk=>g_jX  k) ?_))
    |((with_reducible refine Zxn ?_);first
    |refine Zzn rfl ?_
    |(show HL _ (FD _ _ _ _ _ _ (⟨_, .load _ _,_,_,_,_⟩::_) _ _);first
     |refine Zzp rfl (by repeat (first|exact .here _|apply InR.there)) (by first|exact NthC.h cH|(dsimp only[Nat.reduceAdd];exact NthC.h cH)|with_reducible assumption|rfl) ?_
     |refine Zzo rfl (by repeat (first|exact .here _|apply InR.there)) (by first|exact SegC.h cH|(dsimp only[Nat.reduceAdd];exact SegC.h cH)|with_reducible assumption|rfl) ?_
     |refine h_g (λk=>Zjq rfl Qd Q3 k) ?_
     |refine h_g (λk=>Zb8 rfl Qd Q3 k) ?_)
    |(show HL _ (FD _ _ _ _ _ _ (⟨_, .binOp .sub _ _ _ _,_,_,_,_⟩::_) _ _);first
     |refine h_g (λk=>ZfL rfl rfl Qv k) ?_
     |refine h_g (λk=>ZfL rfl rfl (w_u8 Q0 Q0) k) ?_
     |refine h_g (λk=>ZfL rfl rfl (ZhP Q0 Q0) k) ?_
     |refine h_g (λk=>ZfL rfl rfl (Ze9 Q0 Q0) k) ?_
     |refine h_g (λk=>ZfL rfl rfl rfl k) ?_)
    |(show HL _ (FD _ _ _ _ _ _ (⟨_, .indexAddr _ _ _,_,_,_,_⟩::_) _ _);first
     |refine h_g (λk=>Zux rfl rfl Q0 Q0 k) ?_
     |refine h_g (λk=>fd_v (λa w F M R r=>ZgZ (F.e rfl) (F.e rfl) Q0 Q0 r) k) ?_)
    |(show HL _ (FD _ _ _ _ _ _ (⟨_, .build _ _,_,_,_,_⟩::_) _ _);first
     |refine h_g (λk=>fd_v (λa w F M R r=>Zaq F rfl Qd r) k) ?_
     |refine h_g (λk=>fd_v (λa w F M R r=>Zaq F rfl rfl r) k) ?_)
    |(show HL _ (FD _ _ _ _ _ _ (⟨_, .call ⟨.builtin .len,_,_⟩,_,_,_,_⟩::_) _ _);first
     |refine h_g (λk=>Zuw rfl Qd k) ?_)
    |(show HL _ (FD _ _ _ _ _ _ (⟨_, .nilCheck _,_,_,_,_⟩::_) _ _);first
     |refine h_g (λk=>fd_v (λa w F M R r=>Zan (F.e rfl) rfl r) k) ?_)
    |(show HL _ (FD _ _ _ _ _ _ (⟨_,_,_,_,_,some _⟩::_) _ _);first
     |refine Zc2 rfl rfl (q:=true) Qt ?_
     |refine Zc2 rfl rfl (q:=false) Qu ?_
     |refine Zc2 rfl rfl (q:=true) (beq_iff_eq.2 Q0) ?_
     |refine Zc2 rfl rfl (q:=false) (beq_eq_false_iff_ne.2 Q0) ?_
     |refine Zc2 rfl rfl (q:=true) (bne_iff_ne.2 Q0) ?_
     |refine Zc2 rfl rfl (q:=false) (bneF Q0) ?_
     |refine Zc2 rfl rfl (q:=true) Qd ?_
     |refine Zc2 rfl rfl (q:=false) Qd ?_
     |refine Zc2 rfl rfl (q:=true) (notT Qd) ?_
     |refine Zc2 rfl rfl (q:=false) (notF Qd) ?_)
    |refine h_g (λk=>Zrh rfl rfl k) ?_))
   exact ZyK kk.h):p:=(h ⟨k⟩).h
theorem W4(N:List Nat){p R A:Prop}(t:A)(k:R)
  (h:A->PL R->HL N p:=by
   intro t kk
   repeat (first
    |refine ZtN rfl Q7 ?_
    |((with_reducible refine Zxm ?_);first
    |refine Zxj rfl ?_
    |(show HL _ (G _ _ _ (.ops _ (⟨_, .call ⟨.value _,_,_⟩,_,_,_,_⟩::_)) _ _);first
     |(refine Zxo rfl rfl rfl rfl ?_;refine⟨_,λw M=>by first|(apply t<;>exact cT)|(apply t.1<;>exact cT)|(apply t.2<;>exact cT)|(apply t.2.1<;>exact cT)|(apply t.2.2<;>exact cT)|(apply t.2.2.1<;>exact cT)|(apply t.2.2.2<;>exact cT)|(apply t.2.2.2.1<;>exact cT)|(apply t.2.2.2.2<;>exact cT),?_⟩)
     |(refine ZrT rfl rfl rfl rfl ?_;refine⟨_,_,_,_,_,λw M=>by first|(apply t<;>exact cT)|(apply t.1<;>exact cT)|(apply t.2<;>exact cT)|(apply t.2.1<;>exact cT)|(apply t.2.2<;>exact cT)|(apply t.2.2.1<;>exact cT)|(apply t.2.2.2<;>exact cT)|(apply t.2.2.2.1<;>exact cT)|(apply t.2.2.2.2<;>exact cT),(by repeat (first|exact .here|apply SetR.there)),?_⟩))
    |(show HL _ (G _ _ _ (.ops _ (⟨_, .load _ _,_,_,_,_⟩::_)) _ _);first
     |refine Zxl rfl (by repeat (first|exact .here _|apply InR.there)) (by first|exact NthC.h cH|(dsimp only[Nat.reduceAdd];exact NthC.h cH)|with_reducible assumption|rfl) ?_
     |refine Zxk rfl (by repeat (first|exact .here _|apply InR.there)) (by first|exact SegC.h cH|(dsimp only[Nat.reduceAdd];exact SegC.h cH)|with_reducible assumption|rfl) ?_
     |refine h_g (λk=>ZgA rfl Qd Q3 k) ?_
     |refine h_g (λk=>ZiJ rfl Qd Q3 k) ?_)
    |(show HL _ (G _ _ _ (.ops _ (⟨_, .store _ _ _,_,_,_,_⟩::_)) _ _);first
     |refine ZrS rfl rfl rfl (by repeat (first|exact .here|apply SetR.there)) (by rfl) ?_
     |refine ZrS rfl rfl (Zc7 Qd) (by repeat (first|exact .here|apply SetR.there)) (by rfl) ?_
     |refine Zxi rfl rfl (by first|exact EncC.len cH|rfl) (by first|exact EncC.one|rfl) (by repeat (first|exact .here|apply SetR.there)) (by first|exact Zat ((by first|rfl|exact EncC.len cH:List.length _=_).trans (by first|exact(EncC.len cH).symm|rfl))|rfl) ?_)
    |(show HL _ (G _ _ _ (.ops _ (⟨_, .binOp .add _ _ _ _,_,_,_,_⟩::_)) _ _);first
     |refine h_g (λk=>Zim rfl rfl Qv k) ?_
     |refine h_g (λk=>Zim rfl rfl (w_u8 Q0 Q0) k) ?_
     |refine h_g (λk=>Zim rfl rfl (ZhP Q0 Q0) k) ?_
     |refine h_g (λk=>Zim rfl rfl (Ze9 Q0 Q0) k) ?_
     |refine h_g (λk=>Zim rfl rfl rfl k) ?_)
    |(show HL _ (G _ _ _ (.ops _ (⟨_, .binOp .sub _ _ _ _,_,_,_,_⟩::_)) _ _);first
     |refine h_g (λk=>ZiI rfl rfl Qv k) ?_
     |refine h_g (λk=>ZiI rfl rfl (w_u8 Q0 Q0) k) ?_
     |refine h_g (λk=>ZiI rfl rfl (ZhP Q0 Q0) k) ?_
     |refine h_g (λk=>ZiI rfl rfl (Ze9 Q0 Q0) k) ?_
     |refine h_g (λk=>ZiI rfl rfl rfl k) ?_)
    |(show HL _ (G _ _ _ (.ops _ (⟨_, .indexAddr _ _ _,_,_,_,_⟩::_)) _ _);first
     |refine h_g (λk=>Ztb rfl rfl Q0 Q0 k) ?_)
    |(show HL _ (G _ _ _ (.ops _ (⟨_, .build _ _,_,_,_,_⟩::_)) _ _);first
     |refine h_g (λk=>g_v (λa w F M R r=>Zaq F rfl Qd r) k) ?_
     |refine h_g (λk=>g_v (λa w F M R r=>Zaq F rfl rfl r) k) ?_)
    |(show HL _ (G _ _ _ (.ops _ (⟨_, .call ⟨.builtin .len,_,_⟩,_,_,_,_⟩::_)) _ _);first
     |refine h_g (λk=>ZyY rfl Qd k) ?_)
    |(show HL _ (G _ _ _ (.ops _ (⟨_, .nilCheck _,_,_,_,_⟩::_)) _ _);first
     |refine h_g (λk=>g_v (λa w F M R r=>Zan (F.e rfl) rfl r) k) ?_)
    |(show HL _ (G _ _ _ (.ops _ (⟨_, .convert _ _ _,_,_,_,_⟩::_)) _ _);first
     |refine h_g (λk=>Zei rfl rfl k) ?_)
    |(show HL _ (G _ _ _ (.code (.cond _ _ _)) _ _);first
     |refine h_g (λk=>Zii rfl Qt k) ?_
     |refine h_g (λk=>Zij rfl Qu k) ?_
     |refine h_g (λk=>Zii rfl (beq_iff_eq.2 Q0) k) ?_
     |refine h_g (λk=>Zij rfl (beq_eq_false_iff_ne.2 Q0) k) ?_
     |refine h_g (λk=>Zii rfl (bne_iff_ne.2 Q0) k) ?_
     |refine h_g (λk=>Zij rfl (bneF Q0) k) ?_
     |refine h_g (λk=>Zii rfl Qd k) ?_
     |refine h_g (λk=>Zij rfl Qd k) ?_
     |refine h_g (λk=>Zii rfl (notT Qd) k) ?_
     |refine h_g (λk=>Zij rfl (notF Qd) k) ?_)
    |(show HL _ (G _ _ _ (.ops _ (⟨_,_,_,_,_,some _⟩::_)) _ _);first
     |refine ZcW rfl rfl (q:=true) Qt ?_
     |refine ZcW rfl rfl (q:=false) Qu ?_
     |refine ZcW rfl rfl (q:=true) (beq_iff_eq.2 Q0) ?_
     |refine ZcW rfl rfl (q:=false) (beq_eq_false_iff_ne.2 Q0) ?_
     |refine ZcW rfl rfl (q:=true) (bne_iff_ne.2 Q0) ?_
     |refine ZcW rfl rfl (q:=false) (bneF Q0) ?_
     |refine ZcW rfl rfl (q:=true) Qd ?_
     |refine ZcW rfl rfl (q:=false) Qd ?_
     |refine ZcW rfl rfl (q:=true) (notT Qd) ?_
     |refine ZcW rfl rfl (q:=false) (notF Qd) ?_)
    |(show HL _ (G _ _ _ (.ext _) _ _);first|refine h_g (λk=>Zuq  k) ?_|refine h_g (λk=>Zur  k) ?_|refine h_g (λk=>g_jX  k) ?_))
    |((with_reducible refine Zxn ?_);first
    |refine Zzn rfl ?_
    |(refine Zzq rfl rfl rfl rfl rfl ?_;refine⟨_,λw M=>by first|(apply t<;>exact cT)|(apply t.1<;>exact cT)|(apply t.2<;>exact cT)|(apply t.2.1<;>exact cT)|(apply t.2.2<;>exact cT)|(apply t.2.2.1<;>exact cT)|(apply t.2.2.2<;>exact cT)|(apply t.2.2.2.1<;>exact cT)|(apply t.2.2.2.2<;>exact cT),?_⟩)
    |(show HL _ (FD _ _ _ _ _ _ (⟨_, .load _ _,_,_,_,_⟩::_) _ _);first
     |refine Zzp rfl (by repeat (first|exact .here _|apply InR.there)) (by first|exact NthC.h cH|(dsimp only[Nat.reduceAdd];exact NthC.h cH)|with_reducible assumption|rfl) ?_
     |refine Zzo rfl (by repeat (first|exact .here _|apply InR.there)) (by first|exact SegC.h cH|(dsimp only[Nat.reduceAdd];exact SegC.h cH)|with_reducible assumption|rfl) ?_
     |refine h_g (λk=>Zjq rfl Qd Q3 k) ?_
     |refine h_g (λk=>Zb8 rfl Qd Q3 k) ?_)
    |(show HL _ (FD _ _ _ _ _ _ (⟨_, .binOp .sub _ _ _ _,_,_,_,_⟩::_) _ _);first
     |refine h_g (λk=>ZfL rfl rfl Qv k) ?_
     |refine h_g (λk=>ZfL rfl rfl (w_u8 Q0 Q0) k) ?_
     |refine h_g (λk=>ZfL rfl rfl (ZhP Q0 Q0) k) ?_
     |refine h_g (λk=>ZfL rfl rfl (Ze9 Q0 Q0) k) ?_
     |refine h_g (λk=>ZfL rfl rfl rfl k) ?_)
    |(show HL _ (FD _ _ _ _ _ _ (⟨_, .indexAddr _ _ _,_,_,_,_⟩::_) _ _);first
     |refine h_g (λk=>Zux rfl rfl Q0 Q0 k) ?_
     |refine h_g (λk=>fd_v (λa w F M R r=>ZgZ (F.e rfl) (F.e rfl) Q0 Q0 r) k) ?_)
    |(show HL _ (FD _ _ _ _ _ _ (⟨_, .build _ _,_,_,_,_⟩::_) _ _);first
     |refine h_g (λk=>fd_v (λa w F M R r=>Zaq F rfl Qd r) k) ?_
     |refine h_g (λk=>fd_v (λa w F M R r=>Zaq F rfl rfl r) k) ?_)
    |(show HL _ (FD _ _ _ _ _ _ (⟨_, .call ⟨.builtin .len,_,_⟩,_,_,_,_⟩::_) _ _);first
     |refine h_g (λk=>Zuw rfl Qd k) ?_)
    |(show HL _ (FD _ _ _ _ _ _ (⟨_, .nilCheck _,_,_,_,_⟩::_) _ _);first
     |refine h_g (λk=>fd_v (λa w F M R r=>Zan (F.e rfl) rfl r) k) ?_)
    |(show HL _ (FD _ _ _ _ _ _ (⟨_,_,_,_,_,some _⟩::_) _ _);first
     |refine Zc2 rfl rfl (q:=true) Qt ?_
     |refine Zc2 rfl rfl (q:=false) Qu ?_
     |refine Zc2 rfl rfl (q:=true) (beq_iff_eq.2 Q0) ?_
     |refine Zc2 rfl rfl (q:=false) (beq_eq_false_iff_ne.2 Q0) ?_
     |refine Zc2 rfl rfl (q:=true) (bne_iff_ne.2 Q0) ?_
     |refine Zc2 rfl rfl (q:=false) (bneF Q0) ?_
     |refine Zc2 rfl rfl (q:=true) Qd ?_
     |refine Zc2 rfl rfl (q:=false) Qd ?_
     |refine Zc2 rfl rfl (q:=true) (notT Qd) ?_
     |refine Zc2 rfl rfl (q:=false) (notF Qd) ?_)
    |refine h_g (λk=>Zrh rfl rfl k) ?_))
   exact ZyK kk.h):p:=(h t ⟨k⟩).h
section
variable {ι:Type}
theorem yN{J:LI ι}{i:ι}(j:ι)(h2:J.p j)(h1:J.μ j<J.μ i:=by first|omega|(dsimp only;omega))(hfr:Zgt ((J.fi j).map (·.1)) fr=some (J.fi j):=by rfl)(hl:(J.li j).Sublist l:=by(try dsimp only);repeat (first|exact .refl _|with_reducible exact sC0 _|with_reducible apply sC2|apply sC1)):G c (LQ J c Q ks i) [] (.ext .normal) fr l:=Zgz j h2 h1 (λa F=>F.only _ hfr) hl
theorem yJ{J:LJ ι}(j:ι)(h2:J.p j)(hfr:Zgt ((J.fi j).map (·.1)) fr=some (J.fi j):=by rfl)(hl:(J.li j).Sublist l:=by(try dsimp only);repeat (first|exact .refl _|with_reducible exact sC0 _|with_reducible apply sC2|apply sC1)):G c (JQ J c Q ks) [] (.ext .normal) fr l:=Zra j h2 (λa F=>F.only _ hfr) hl
end
end
theorem yS{R:Value->World->Prop}{fn:Func}{x:Code}(hfn:Tryz.prog.funcs[f]? =some fn)(hb:fn.body=some x)(hn:fn.ntmps=n)
  (h:G ⟨prog,none,n,[],[],W,fldT,slcT,Zbj,Zbi⟩ (Post prog fn R) [] (.code x) (Zfj 0 vs) []) (hle:Nat.ble vs.length n=true:=by rfl):Cal prog f vs.toArray W R:=Zwn Zbj Zbi hfn hb hn hle h
end
section
theorem Zcm{P:Program}{fn:Func}{x:Code}{R:Value->World->Prop}(S:List Nat){o:Obj}{flds:List (Nat×Nat×Nat)}{slcs:List Nat}(hb:W.heap[b]? =some o)(hbS:b∈S)(hf:(flds.all λq=>ZdU P q.1 q.2.1 q.2.2)=true)(hs:(slcs.all λt=>ZoH P t)=true)
  (hfn:P.funcs[f]? =some fn) (hx:fn.body=some x) (hn:fn.ntmps=n) (hle:Nat.ble vs.length n=true)
  (h:G ⟨P,none,n,[],S,W,flds,slcs,hf,hs⟩ (Post P fn R) [] (.code x) (Zfj 0 vs) [[(b,o)]]):Cal P f vs.toArray W R:=
 Zar S hfn hx hn hle λa w F M hw=>h a w F (M.came hw hb hbS Q5)
section
attribute [local irreducible] OpTo wpListIn Code.wpIn MW Cal
def ipC(a:List Int):List Value:=a.map (Value.int .u8)
def ZdC(b:Int):Int:=if 128<(if b<0 then 0 else b) then 128 else(if b<0 then 0 else b)
def ZdG(n i:Int):Int:=if 8<(if n-8*i<0 then 0 else n-8*i) then 8 else(if n-8*i<0 then 0 else n-8*i)
def Zdz(a:List Int)(n:Int)(i:Nat):Int:=ZbL .andNot .u8 (a.getD i 0) (Int.fdiv 255 (2^min (ZdG n i).toNat 8))
def mrow(a:List Int)(n:Int)(i:Nat):List Value:=(List.range 16).map (λj=>if j<i then .int .u8 (Zdz a n j) else .int .u8 0)++[.int .i64 n]
theorem Zua(h:i<a.length):nth (ipC a) (0+(i:Int).toNat*1)=some (.int .u8 (a.getD i 0)):=by
 rw[Zcl];simp[ipC,h]
theorem put1{xs:List Value}{off q:Nat}(v:Value)(h:off=q)(hq:q<xs.length):put xs off [v]=some (xs.set q v):=by
 subst h
 rw[ZiY _ _ _ (by simp;omega)]
 congr 1
 have:=ZgM xs off v [] hq
 simp only[ZbD,List.length_nil,List.nil_append,Nat.add_zero,List.take_append_drop] at this
 exact this.symm
theorem Zsw{n:Int}(h:i<16):put (mrow a n i) (0+0+(i:Int).toNat*1) [.int .u8 (Zdz a n i)]=some (mrow a n (i+1)):=by
 rw[put1 (q:=i) _ Q0 (by simp[mrow];omega)]
 congr 1
 unfold mrow
 rw[List.set_append_left _ _ (by simpa using h)]
 congr 1
 apply List.ext_getElem Q5
 intro j h1 h2
 simp only[List.getElem_set,List.getElem_map,List.getElem_range]
 split
 ·subst_vars;simp
 ·have:j<i↔j<i+1:=by omega
  simp[this]
theorem ZyH(a:List Int)(ha:a.length=16)(bits:Int)(W:World):
  Cal prog 179 [.agg (ipC a).toArray, .int .i64 bits].toArray W λv w'=>v= .agg (mrow a (ZdC bits) 16).toArray/\Ext [] W w':=by
 obtain⟨ip,rfl⟩:∃ip,ip=a:=⟨_,rfl⟩
 refine Zar (n:=33) [] Tryz.func179 rfl rfl rfl ?_
 intro a w F M hwW
 refine W1 2 ?_;intro a F
 refine Qs F M ?_;clear F M;intro b1 w M a F
 (refine sD F (Zay M ?_);clear F M;intro b2 w M a F)
 refine W1 8 ?_;intro a F
 (refine sD F (Zay M ?_);clear F M;intro b3 w M a F)
 refine W5 10 trivial ?_;intro a w F M
 refine ZbK (λk a w=>∃i:Nat,k=16-i/\i<=16/\Frm a 33 [] [(12, .int .i64 i),(5, .pointer (some ⟨b3,0,none⟩)),(4, .pointer (some ⟨b2,0,none⟩)),(2, .pointer (some ⟨b1,0,none⟩))]/\Mem [] W w [(b3, .cells (mrow ip (ZdC bits) i).toArray 65 (0,0)),(b2, .cells #[.int .u8 0, .int .u8 0, .int .u8 0, .int .u8 0, .int .u8 0, .int .u8 0, .int .u8 0, .int .u8 0, .int .u8 0, .int .u8 0, .int .u8 0, .int .u8 0, .int .u8 0, .int .u8 0, .int .u8 0, .int .u8 0, .int .i64 0] 65 (0,0)),(b1, .cells (ipC ip).toArray 63 (0,0))]) 16 ⟨0,rfl,Q0,F.only [12,5,4,2] rfl,M⟩ ?_
 clear F M
 have hcb:0<=ZdC bits/\ZdC bits<=128:=by unfold ZdC;split<;>(try split)<;>omega
 rintro k a w ⟨i,hk,hi,F,M⟩
 refine W1 6 ?_;intro a F
 refine c_if F rfl (λhc=>?_) (λhc=>?_)
 ·replace hc:=dqU hc
  have hlt:i<16:=by omega
  refine W1 22 ?_;intro a F
  replace F:=F.only [6,7,12,5,4,2] rfl
  refine Za4 9 F Q7 ?_
  intro w1 hE hok
  have M1:=M.later hE
  refine W2 3 hok ?_
  (refine mK hok rfl rfl (λa' w' F' E'=>ZgY (M1.later E') (F'.e rfl) Q1 (Zua (a:=ip) (i:=i) Q0) ⟨Ext.refl _ _,rfl⟩) ?_)
  refine W2 5 hok ?_
  (refine Qx M1 ?_;clear F M M1 hok hE;intro a w F M;(try dsimp only at F))
  (refine ZaW rfl F (ZfA M (F.e rfl) (F.e rfl) rfl Q1 (Zsw hlt) Q1 ?_);clear F M;intro w M a F)
  refine W1 8 ?_;intro a F
  exact⟨_,Q0,i+1,rfl,Q0,F.only [12,5,4,2] rfl,M⟩
 ·replace hc:=dqV hc
  obtain rfl:i=16:=by omega
  refine W5 12 trivial ?_;intro a w F M
  refine ZdP (F.only [4] rfl) rfl (.cons (.cell (F.e rfl) (Zam TAgg.h (M.heap (.there .here)) rfl)) .nil) ⟨rfl,M.ext⟩
end
section
attribute [local irreducible] OpTo wpListIn Code.wpIn MW Cal
theorem Zwd(L:List Int)(i:Nat)(x:Int):ipC (L.set i x)=(ipC L).set i (.int .u8 x):=by simp[ipC,List.map_set]
end
section
attribute [local irreducible] OpTo wpListIn Code.wpIn MW Cal
structure IsIP(ip:List Int):Prop where
 len:ip.length=16
 bd:∀x∈ip,0<=x/\x<256
theorem IsIP.at_(h:IsIP ip)(i:Nat):0<=ip.getD i 0/\ip.getD i 0<256:=by
 rcases Nat.lt_or_ge i ip.length with hl|hl
 ·rw[List.getD_eq_getElem?_getD,List.getElem?_eq_getElem hl];exact h.bd _ (List.getElem_mem hl)
 ·rw[List.getD_eq_getElem?_getD,List.getElem?_eq_none hl];simp
theorem Zl9(h:IsIP ip)(hi:i<16)(hn:n=i):nth (ipC ip) n=some (.int .u8 (ip.getD i 0)):=by
 subst hn
 have:=h.len
 rw[Zcl];simp[ipC,List.getElem?_eq_getElem (show n<ip.length by omega)]
end
section
attribute [local irreducible] OpTo wpListIn Code.wpIn MW Cal
end
section
attribute [local irreducible] OpTo wpListIn Code.wpIn MW Cal
theorem ZdR{l:List Int}(h:l.length=16):∃x0 x1 x2 x3 x4 x5 x6 x7 x8 x9 x10 x11 x12 x13 x14 x15:Int,l=[x0,x1,x2,x3,x4,x5,x6,x7,x8,x9,x10,x11,x12,x13,x14,x15]:=
 match l,h with
 |[x0,x1,x2,x3,x4,x5,x6,x7,x8,x9,x10,x11,x12,x13,x14,x15],_=>⟨x0,x1,x2,x3,x4,x5,x6,x7,x8,x9,x10,x11,x12,x13,x14,x15,rfl⟩
def Zb4(a:List Int)(n:Int):List Int:=(List.range 16).map (Zdz a n)
def pfC(a:List Int)(n:Int):List Value:=ipC a++[.int .i64 n]
def ZcI(a:List Int)(n:Int):Bool:=decide (0<=n)&&decide (n<=128)&&(Zb4 a n==a)
theorem ZbP(a:List Int)(n:Int):(Zb4 a n).length=16:=by simp[Zb4]
theorem Zv3(a:List Int)(n:Int):mrow a n 16=pfC (Zb4 a n) n:=by
 unfold mrow pfC Zb4 ipC
 rw[List.map_map]
 congr 1
theorem Zrk:∀a b:List Int,a.length=b.length->eqVs (ipC a) (ipC b)=(a==b)
 |[],[],_=>rfl
 |x::a,y::b,h=>by
  have:=Zrk a b (by simpa using h)
  simp only[ipC] at this
  simp[ipC,eqVs,eqV,this]
theorem Ziu{a b:List Int}{n m:Int}(h:a.length=b.length):eqVs (pfC a n) (pfC b m)=(a==b&&n==m):=by
 unfold pfC
 rw[ZaL _ _ _ _ (by simp[ipC,h]),Zrk a b h]
 simp[eqVs,eqV]
def modI(a n:Int):Int:=if a.tmod n<0 then a.tmod n+n else a.tmod n
theorem Zkt{n:Int}(h0:0<=n)(h1:n<=128):ZdC n=n:=by unfold ZdC;rw[if_neg (show ¬n<0 by omega),if_neg Q0]
theorem Zv8(a:List Int)(ha:a.length=16)(n:Int)(W:World):Cal prog 179 [.agg (ipC a).toArray, .int .i64 n].toArray W λv w'=>v= .agg (pfC (Zb4 a (ZdC n)) (ZdC n)).toArray/\Ext [] W w':=
 (ZyH a ha n W).mono λv w' h=>⟨by rw[h.1,Zv3],h.2⟩
def pfK:List LK:=[.i .u8, .i .u8, .i .u8, .i .u8, .i .u8, .i .u8, .i .u8, .i .u8, .i .u8, .i .u8, .i .u8, .i .u8, .i .u8, .i .u8, .i .u8, .i .u8, .i .i64]
theorem Zrg(ha:a.length=16)(n:Int):ZaZ pfK (pfC a n)=true:=by
 obtain⟨x0,x1,x2,x3,x4,x5,x6,x7,x8,x9,x10,x11,x12,x13,x14,x15,rfl⟩:=ZdR ha
 rfl
theorem ZhX{xs:List Value}(h:xs.length=k):seg xs 0 k=some xs:=by
 have h1:=ZfG [] xs []
 rw[h] at h1
 simpa using h1
theorem ZgU(ha:a.length=16)(n:Int):(pfC a n).length=17:=by simp[pfC,ipC,ha]
theorem Zdq(ha:a.length=16):(ipC a).length=16:=by simp[ipC,ha]
theorem Zpx(ha:a.length=16)(n:Int):seg (pfC a n) 0 17=some (pfC a n):=ZhX (ZgU ha n)
theorem ZjM(ha:a.length=16)(n:Int):seg (pfC a n) 0 16=some (ipC a):=by
 have h1:=ZfG [] (ipC a) [.int .i64 n]
 rw[Zdq ha] at h1
 simpa[pfC] using h1
theorem Znw(ha:a.length=16)(n:Int):nth (pfC a n) 16=some (.int .i64 n):=by
 rw[Zcl];simp[pfC,ipC,ha]
theorem ZdK(p:List Int)(n:Int)(hp:p.length=16)(W:World):Cal prog 84 [.agg (pfC p n).toArray].toArray W λv w'=>v= .bool (ZcI p n)/\Ext [] W w':=by
 have e1:=Zpx hp n
 have e2:=ZjM hp n
 have e3:=Znw hp n
 have e4:=Zrg hp n
 have e5:=Zrg (ZbP p n) n
 have q1:=Ziu (n:=n) (m:=n) (show(Zb4 p n).length=p.length by rw[ZbP,hp])
 refine yS (n:=20) Tryz.func84 rfl rfl ?_
 by_cases h0:0<=n
 ·by_cases h1:n<=128
  ·have hcl:=Zkt h0 h1
   refine gQ 2 rfl (Zai rfl rfl λb1=>?_)
   refine W4 [4,1018,1,0,2,0,1,0,3,0,1,0,1,0,0,0] @Zv8 ?_
   refine fd_v (λa w F M R r=>Zi5 (F.e rfl) (F.e rfl) Q2 Q2 r) ?_
   refine W3 [2,0,3] ?_
   refine Zae rfl rfl rfl λw M=>?_
   exact⟨by rw[hcl,q1];simp[ZcI,h0,h1],M.ext⟩
  ·refine gQ 2 rfl ?_
   refine Zai rfl rfl λb1=>?_
   refine W3 [4,1018,1,0,2,0,1,0,3,0,9,0,3] ?_
   refine Zae rfl rfl rfl λw M=>?_
   exact⟨by show Value.bool _=Value.bool _;simp[ZcI,h1],M.ext⟩
 ·refine gQ 2 rfl ?_
  refine Zai rfl rfl λb1=>?_
  refine W3 [4,1018,1,0,2,0,14,0,3] ?_
  refine Zae rfl rfl rfl λw M=>?_
  exact⟨by show Value.bool _=Value.bool _;simp[ZcI,h0],M.ext⟩
end
section
attribute [local irreducible] OpTo wpListIn Code.wpIn MW Cal
end
section
attribute [local irreducible] OpTo wpListIn Code.wpIn MW Cal
end
section
theorem Zqg(a:List Int):(ipC a).all (·.oneCell')=true:=by
 rw[List.all_eq_true]
 intro v hv
 obtain⟨x,_,rfl⟩:=List.mem_map.1 hv
 rfl
theorem Zqf(a:List Int)(n:Int):(pfC a n).all (·.oneCell')=true:=by
 unfold pfC
 rw[List.all_append,Zqg]
 rfl
theorem Zv6(x:Int){n:Int}(hn:0<n):0<=modI x n/\modI x n<n:=by
 have h1:=Int.tmod_lt_of_pos x hn
 have h2: -n<x.tmod n:=by have:=Int.tmod_lt_of_pos (-x) hn;rw[Int.neg_tmod] at this;omega
 unfold modI
 split<;>omega
end
section
def cutB(x:Int)(k:Nat):Int:=ZbL .andNot .u8 x (Int.fdiv 255 (2^min k 8))
theorem Ztt:∀x:Fin 256,∀k:Fin 9,cutB (x.1:Int) k.1=((x.1/2^(8-k.1)*2^(8-k.1):Nat):Int):=by decide+kernel
theorem ZgF{x k:Nat}(hx:x<256)(hk:k<=8):cutB (x:Int) k=((x/2^(8-k)*2^(8-k):Nat):Int):=Ztt ⟨x,hx⟩ ⟨k,Q0⟩
theorem ZsP:∀x:Fin 256,∀k j:Fin 9,(x.1/2^(8-k.1)*2^(8-k.1))/2^(8-j.1)*2^(8-j.1)=x.1/2^(8-min j.1 k.1)*2^(8-min j.1 k.1):=by decide+kernel
theorem ZwT{x:Int}(h0:0<=x)(h1:x<256)(hk:k<=8):0<=cutB x k/\cutB x k<256:=by
 obtain⟨n,rfl⟩:=Int.eq_ofNat_of_zero_le h0
 rw[ZgF Q0 hk]
 have:=Nat.div_mul_le_self n (2^(8-k))
 omega
theorem Zru{x:Int}(h0:0<=x)(h1:x<256)(hk:k<=8)(hj:j<=8):cutB (cutB x k) j=cutB x (min j k):=by
 obtain⟨n,rfl⟩:=Int.eq_ofNat_of_zero_le h0
 have hn:n<256:=by omega
 have:=Nat.div_mul_le_self n (2^(8-k))
 rw[ZgF hn hk,ZgF Q0 hj,ZgF hn Q0,ZsP ⟨n,hn⟩ ⟨k,Q0⟩ ⟨j,Q0⟩]
theorem ZhD(n i:Int):(ZdG n i).toNat<=8:=by unfold ZdG;split<;>(try split)<;>omega
theorem ZcC(a:List Int)(n:Int)(i:Nat):Zdz a n i=cutB (a.getD i 0) (ZdG n i).toNat:=rfl
theorem ZnD(a:List Int)(n:Int)(h:i<16):(Zb4 a n).getD i 0=Zdz a n i:=by simp[Zb4,h]
theorem ZqF{a b:List Int}{n m:Int}:Zb4 a n=Zb4 b m↔∀i,i<16->Zdz a n i=Zdz b m i:=by
 unfold Zb4
 constructor
 ·intro h i hi
  have:=congrArg (λl=>l.getD i 0) h
  simpa[hi] using this
 ·intro h
  exact List.map_congr_left λi hi=>h i (List.mem_range.1 hi)
def minI(m n:Int):Int:=if n<m then n else m
theorem Zs2(m n i:Int):min (ZdG m i).toNat (ZdG n i).toNat=(ZdG (minI m n) i).toNat:=by
 unfold minI ZdG
 split<;>split<;>split<;>(try split)<;>(try split)<;>omega
theorem ZqE{p:List Int}(hp:IsIP p)(m n:Int):Zb4 (Zb4 p n) m=Zb4 p (minI m n):=by
 rw[ZqF]
 intro i hi
 rw[ZcC,ZnD _ _ hi,ZcC,ZcC,Zru (hp.at_ i).1 (hp.at_ i).2 (ZhD _ _) (ZhD _ _),Zs2]
theorem Zk4{p:List Int}(hp:IsIP p)(n:Int):IsIP (Zb4 p n):=by
 refine⟨ZbP p n,λx hx=>?_⟩
 unfold Zb4 at hx
 obtain⟨i,_,rfl⟩:=List.mem_map.1 hx
 exact ZwT (hp.at_ i).1 (hp.at_ i).2 (ZhD _ _)
theorem Zqw(m:Int):minI m m=m:=by unfold minI;split<;>rfl
theorem ZiN{p:List Int}(hp:IsIP p){m:Int}(h0:0<=m)(h1:m<=128):ZcI (Zb4 p m) m=true:=by
 simp[ZcI,h0,h1,ZqE hp,Zqw]
end
section
attribute [local irreducible] OpTo wpListIn Code.wpIn MW Cal
end
section
attribute [local irreducible] OpTo wpListIn Code.wpIn MW Cal
end
section
attribute [local irreducible] OpTo wpListIn Code.wpIn MW Cal
def Zo4:List Int:=[0,0,0,0,0,0,0,0,0,0,0,0,0,0,0,0]
end
section
attribute [local irreducible] OpTo wpListIn Code.wpIn MW Cal
end
section
attribute [local irreducible] OpTo wpListIn Code.wpIn MW Cal
theorem Mem.less{S S':List Nat}{l new:EN}(M:Mem S W w l)(h:∀k∈S,k∈S'∨∃o,Has l k o/\W.heap[k]? =some o)(hs:new.Sublist l)(hn:∀p∈new,p.1∈S->p.1∈S'):Mem S' W w new:=
 ⟨⟨M.ext.os,M.ext.tape,M.ext.output,M.ext.size,M.ext.dr,λk hk hS'=>by
  by_cases hS:k∈S
  ·rcases h k hS with h1|⟨o,h1,h2⟩
   ·exact absurd h1 hS'
   ·rw[M.heap h1,h2]
  ·exact M.ext.block k hk hS⟩,λp hp=>M.at_ p (hs.subset hp),M.nd.sublist (hs.map _),λp hp=>(M.own p (hs.subset hp)).imp_left (hn p hp)⟩
def tobj(p:Option Addr)(len cap k:Nat):Obj:= .cells [.slice p len cap, .int .i64 k].toArray 113 (0,0)
def i64C(xs:List Int):List Value:=xs.map (Value.int .i64)
structure Zbz(W:World)(bt:Nat)(p:Option Addr)(len:Nat)(xs:List Int):Prop where
 lenE:xs.length=len
 small:len<=400
 bd:∀x∈xs,-9223372036854775808<=x/\x<=9223372036854775807
 mem:0<len->∃b o cs t fz,p=some ⟨b,o,none⟩/\b≠bt/\W.heap[b]? =some (.cells cs t fz)/\seg cs.toList o len=some (i64C xs)
theorem Zbz.later{p:Option Addr}{len:Nat}(h:Zbz W bt p len xs)(E:Ext [bt] W w):Zbz w bt p len xs:=
 ⟨h.lenE,h.small,h.bd,λhl=>by
  obtain⟨b,o,cs,t,fz,h1,h2,h3,h4⟩:=h.mem hl
  exact⟨b,o,cs,t,fz,h1,h2,by rw[E.block b (Array.getElem?_eq_some_iff.1 h3).1 (by simpa using h2)];exact h3,h4⟩⟩
def nxV(xs:List Int)(k:Nat)(n:Int):Int:=if k<xs.length then modI (xs.getD k 0) n else 0
def nxK(xs:List Int)(k:Nat):Nat:=if k<xs.length then k+1 else k
theorem Zbb(xs:List Int)(k:Nat){n:Int}(hn:0<n):0<=nxV xs k n/\nxV xs k n<n:=by
 unfold nxV
 split
 ·exact Zv6 _ hn
 ·omega
theorem Za1{p:Option Addr}{len cap k:Nat}(n:Int)(hn:0<n)(hn2:n<=9223372036854775807)(W:World)(hT:Zbz W bt p len xs)(hb:W.heap[bt]? =some (tobj p len cap k)):
  Cal prog 28 [.pointer (some ⟨bt,0,none⟩), .int .i64 n].toArray W λv w'=>v= .int .i64 (nxV xs k n)/\Mem [bt] W w' [(bt,tobj p len cap (nxK xs k))]:=by
 have hlen:=hT.lenE
 by_cases hk:k<len
 ·obtain⟨b,o,cs,t,fz,rfl,hne,hbb,hs⟩:=hT.mem Q0
  have hnt:nth cs.toList (o+(k:Int).toNat*1)=some (.int .i64 (xs.getD k 0)):=by
   obtain⟨h1,h2⟩:=Zed _ _ _ _ hs
   have h3:=h2 k hk
   rw[Zcl,show o+(k:Int).toNat*1=o+k by omega,h3]
   have hl:k<xs.length:=by omega
   simp[i64C,hl]
  have hxk:=hT.bd (xs.getD k 0) (by rw[List.getD_eq_getElem?_getD,List.getElem?_eq_getElem Q0];exact List.getElem_mem _)
  have hr:=Int.tmod_lt_of_pos (xs.getD k 0) hn
  have hr2: -n<(xs.getD k 0).tmod n:=by have:=Int.tmod_lt_of_pos (-(xs.getD k 0)) hn;rw[Int.neg_tmod] at this;omega
  have hsm:=hT.small
  have hv:nxV xs k n=modI (xs.getD k 0) n:=by unfold nxV;rw[if_pos Q0]
  have hkk:nxK xs k=k+1:=by unfold nxK;rw[if_pos Q0]
  rw[hv,hkk]
  unfold modI
  refine Zar (n:=41) [bt,b] Tryz.func28 rfl rfl rfl ?_
  intro a w F M hwW
  replace M:=M.came hwW hb Q5 Q5
  replace M:=M.came hwW (o:= .cells cs.toList.toArray t fz) (by simpa using hbb) Q5 (by simp;exact λh=>hne h.symm)
  unfold tobj at M
  refine W1 7 ?_;intro a F
  refine Za4 10 F Q7 ?_
  intro w1 hE hok
  have M1:=M.later hE
  refine W2 10 hok ?_
  (refine Qx M1 ?_;clear F M M1 hok hE;intro a w F M;(try dsimp only at F))
  refine W1 6 ?_;intro a F
  refine Za4 12 F Q7 ?_
  intro w1 hE hok
  have M1:=M.later hE
  refine W2 12 hok ?_
  (refine Qx M1 ?_;clear F M M1 hok hE;intro a w F M;(try dsimp only at F))
  refine W5 22 trivial ?_;intro a w F M
  generalize(xs.getD k 0).tmod n=r at*
  have fin:∀w',Mem [bt,b] W w' [(b, .cells cs.toList.toArray t fz),(bt, .cells [.slice (some ⟨b,o,none⟩) len cap, .int .i64 ((k:Int)+1)].toArray 113 (0,0))]->Mem [bt] W w' [(bt,tobj (some ⟨b,o,none⟩) len cap (k+1))]:=λw' M'=>
   M'.less (λq hq=>by
    simp only[List.mem_cons,List.not_mem_nil,or_false] at hq
    rcases hq with rfl|rfl
    ·exact .inl Q5
    ·exact .inr ⟨_, .here,by simpa using hbb⟩) (List.sublist_cons_self _ _) (λq hq _=>by simp at hq;subst hq;simp)
  refine c_if F rfl (λhc=>?_) (λhc=>?_)
  ·replace hc:=dqU hc
   rw[if_pos hc]
   refine W1 14 ?_;intro a F
   exact Qq F (⟨rfl,fin _ M⟩)
  ·replace hc:=dqV hc
   rw[if_neg hc]
   refine W1 9 ?_;intro a F
   exact Qq F (⟨rfl,fin _ M⟩)
 ·have hv:nxV xs k n=0:=by unfold nxV;rw[if_neg Q0]
  have hkk:nxK xs k=k:=by unfold nxK;rw[if_neg Q0]
  rw[hv,hkk]
  refine Zar (n:=41) [bt] Tryz.func28 rfl rfl rfl ?_
  intro a w F M hwW
  replace M:=M.came hwW hb Q5 Q5
  unfold tobj at M
  refine W1 7 ?_;intro a F
  refine Za4 10 F Q7 ?_
  intro w1 hE hok
  have M1:=M.later hE
  refine W2 10 hok ?_
  (refine Qx M1 ?_;clear F M M1 hok hE;intro a w F M;(try dsimp only at F))
  refine W1 10 ?_;intro a F
  exact Qq F (⟨rfl,M⟩)
end
section
attribute [local irreducible] OpTo wpListIn Code.wpIn MW Cal
theorem Mem.turn1{W0 w w':World}{l l':EN}{o o':Obj}(M:Mem S W0 w l)(N:Mem [b] w w' [(b,o')])(hu:Upd l b o o' l'):Mem S W0 w' l':=M.turned hu N.ext (N.heap .here)
def ZmI(xs:List Int)(k:Nat)(n:Int):Bool:=nxV xs k n==n-1
theorem Zhl{p:Option Addr}{len cap k:Nat}(n:Int)(hn:0<n)(hn2:n<=9223372036854775807)(W:World)(hT:Zbz W bt p len xs)(hb:W.heap[bt]? =some (tobj p len cap k)):
  Cal prog 14 [.pointer (some ⟨bt,0,none⟩), .int .i64 n].toArray W λv w'=>v= .bool (ZmI xs k n)/\Mem [bt] W w' [(bt,tobj p len cap (nxK xs k))]:=by
 refine Zar (n:=11) [bt] Tryz.func14 rfl rfl rfl ?_
 intro a w F M hwW
 replace M:=M.came hwW hb Q5 Q5
 refine W1 9 ?_;intro a F
 (refine sD F (Zav (F.e rfl) (F.evs rfl) (Cal.mono (Za1 n hn hn2 _ (hT.later M.ext) (M.heap .here)) ?_));clear F;clear a;have M0:=M;clear M;rintro _ w ⟨rfl,N⟩ a F)
 replace M:=M0.turn1 N .here
 refine W1 7 ?_;intro a F
 exact Qq F (⟨rfl,M⟩)
structure ZjB(W:World)(v:Value)(xs:List Int):Prop where
 ex:∃p cap,v= .slice p xs.length cap/\xs.length<=cap/\(0<xs.length->∃b o cs t fz,p=some ⟨b,o,none⟩/\W.heap[b]? =some (.cells cs t fz)/\seg cs.toList o xs.length=some (i64C xs))
 bd:∀x∈xs,-9223372036854775808<=x/\x<=9223372036854775807
 small:xs.length<=9223372036854775807
def ZdJ(xs:List Int):List Int:=xs.take 400
theorem Zm3:∀(cs:List Value)(off n:Nat),seg cs off n=if off+n<=cs.length then some ((cs.drop off).take n) else none
 |[],0,0=>by simp[seg]
 | _::_,0,0=>by simp[seg]
 |[],0,n+1=>by simp[seg]
 |[],off+1,n=>by cases n<;>simp[seg]
 |x::xs,0,n+1=>by
  simp only[seg]
  rw[Zm3 xs 0 n]
  by_cases h:n<=xs.length
  ·rw[if_pos Q0,if_pos (by simp;omega)];simp
  ·rw[if_neg Q0,if_neg (by simp;omega)]
 |x::xs,off+1,n=>by
  have:seg (x::xs) (off+1) n=seg xs off n:=by cases n<;>rfl
  rw[this,Zm3 xs off n]
  by_cases h:off+n<=xs.length
  ·rw[if_pos h,if_pos (by simp;omega)];simp
  ·rw[if_neg h,if_neg (by simp;omega)]
theorem Zsb{cs ys:List Value}{off n m:Nat}(h:seg cs off n=some ys)(hm:m<=n):seg cs off m=some (ys.take m):=by
 rw[Zm3] at h⊢
 split at h
 ·rename_i hle
  rw[if_pos Q0]
  simp only[Option.some.injEq] at h
  subst h
  rw[List.take_take,Nat.min_eq_left hm]
 ·cases h
theorem ZrY{W w':World}{p:Option Addr}(hE:Ext [] W w')(hbt:W.heap.size<=bt)(hbd:∀x∈xs,-9223372036854775808<=x/\x<=9223372036854775807)
  (hm:0<xs.length->∃b o cs t fz,p=some ⟨b,o,none⟩/\W.heap[b]? =some (.cells cs t fz)/\seg cs.toList o xs.length=some (i64C xs)):Zbz w' bt p (ZdJ xs).length (ZdJ xs):=by
 refine⟨rfl,by unfold ZdJ;rw[List.length_take];omega,λx hx=>hbd x (List.mem_of_mem_take hx),λhl=>?_⟩
 have hl0:0<xs.length:=by unfold ZdJ at hl;rw[List.length_take] at hl;omega
 obtain⟨b,o,cs,t,fz,h1,h2,h3⟩:=hm hl0
 have hlt:=(Array.getElem?_eq_some_iff.1 h2).1
 refine⟨b,o,cs,t,fz,h1,Q0,by rw[hE.block b hlt Q5];exact h2,?_⟩
 have:=Zsb h3 (show(ZdJ xs).length<=xs.length by unfold ZdJ;rw[List.length_take];omega)
 rw[this]
 unfold i64C ZdJ
 rw[<-List.map_take,List.length_take,Nat.min_comm,<-List.take_take,List.take_of_length_le (show(List.take 400 xs).length<=xs.length by rw[List.length_take];omega)]
theorem vCG(h:p:=by
  refine Qs F M ?_;clear F M;intro bt w M a F
  refine W1 4 ?_;intro a F
  refine Qq F (⟨bt,rfl,?_⟩)
  rw[hl];exact M):p:=h
theorem Zz0{p:Option Addr}(xs:List Int)(W:World)(hI:ZjB W (.slice p xs.length cap) xs)(hcap:xs.length<=cap):Cal prog 11 [.slice p xs.length cap].toArray W λx w'=>∃bt,x= .pointer (some ⟨bt,0,none⟩)/\Mem [] W w' [(bt,tobj p (ZdJ xs).length cap 0)]:=by
 have hsm:=hI.small
 by_cases h4:400<xs.length
 ·obtain⟨b,o,hpp⟩:∃b o,p=some ⟨b,o,none⟩:=by
   obtain⟨p',cap',h1,_,h3⟩:=hI.ex
   cases h1
   obtain⟨b,o,_,_,_,h5,_⟩:=h3 Q0
   exact⟨b,o,h5⟩
  have hl:(ZdJ xs).length=400:=by unfold ZdJ;rw[List.length_take];omega
  refine Zar (n:=11) [] Tryz.func11 rfl rfl rfl ?_
  intro a w F M hwW
  refine W1 16 ?_;intro a F
  (refine sD F (ZjT (F.e rfl) (F.e rfl) (λ_ _=>trivial) Q0 Q0 ?_);clear F a;intro a F)
  refine W1 7 ?_;intro a F
  exact vCG
 ·have hl:(ZdJ xs).length=xs.length:=by unfold ZdJ;rw[List.length_take];omega
  refine Zar (n:=11) [] Tryz.func11 rfl rfl rfl ?_
  intro a w F M hwW
  refine W1 20 ?_;intro a F
  exact vCG
theorem ZjB.later(h:ZjB W v xs)(E:Ext [] W w):ZjB w v xs:=by
 refine⟨?_,h.bd,h.small⟩
 obtain⟨p,cap,h1,h2,h3⟩:=h.ex
 refine⟨p,cap,h1,h2,λhl=>?_⟩
 obtain⟨b,o,cs,t,fz,g1,g2,g3⟩:=h3 hl
 exact⟨b,o,cs,t,fz,g1,by rw[E.block b (Array.getElem?_eq_some_iff.1 g2).1 Q5];exact g2,g3⟩
end
section
attribute [local irreducible] OpTo wpListIn Code.wpIn MW Cal
def cmpV(x y:Int):Int:=if x<y then-1 else if y<x then 1 else 0
theorem vBQ(h:p:=by
  refine W1 14 ?_;intro a F
  exact Qq F (⟨rfl,M.ext⟩)):p:=h
theorem Zmc(x:Int)(W:World):Cal prog 280 [.int .i64 x].toArray W λv w'=>v= .bool false/\Ext [] W w':=by
 refine Zar (n:=6) [] Tryz.func280 rfl rfl rfl ?_
 intro a w F M hwW
 exact vBQ
theorem vA5(h:p:=by
  exact Zae rfl rfl rfl λw M=>⟨rfl,M.ext⟩):p:=h
theorem Zrw(x y:Int)(W:World):Cal prog 184 [.int .i64 x, .int .i64 y].toArray W λv w'=>v= .int .i64 (cmpV x y)/\Ext [] W w':=by
 have hcase:x<y∨y<x∨x=y:=by omega
 unfold cmpV
 rcases hcase with h|h|h
 ·rw[if_pos h]
  refine yS (n:=20) Tryz.func184 rfl rfl ?_
  refine W4 [8,0,6,0,29,0,7] @Zmc ?_
  exact vA5
 ·rw[if_neg Q0,if_pos h]
  refine yS (n:=20) Tryz.func184 rfl rfl ?_
  refine W4 [8,0,6,0,29,0,10,0,7] @Zmc ?_
  exact vA5
 ·rw[if_neg Q0,if_neg Q0]
  refine yS (n:=20) Tryz.func184 rfl rfl ?_
  refine W4 [8,0,6,0,29,0,10,0,8] @Zmc ?_
  exact vA5
theorem Zmd(x:Int)(W:World):Cal prog 281 [.int .u64 x].toArray W λv w'=>v= .bool false/\Ext [] W w':=by
 refine Zar (n:=6) [] Tryz.func281 rfl rfl rfl ?_
 intro a w F M hwW
 exact vBQ
theorem Zrx(x y:Int)(W:World):Cal prog 185 [.int .u64 x, .int .u64 y].toArray W λv w'=>v= .int .i64 (cmpV x y)/\Ext [] W w':=by
 have hcase:x<y∨y<x∨x=y:=by omega
 unfold cmpV
 rcases hcase with h|h|h
 ·rw[if_pos h]
  refine yS (n:=20) Tryz.func185 rfl rfl ?_
  refine W4 [8,0,6,0,29,0,7] @Zmd ?_
  exact vA5
 ·rw[if_neg Q0,if_pos h]
  refine yS (n:=20) Tryz.func185 rfl rfl ?_
  refine W4 [8,0,6,0,29,0,10,0,7] @Zmd ?_
  exact vA5
 ·rw[if_neg Q0,if_neg Q0]
  refine yS (n:=20) Tryz.func185 rfl rfl ?_
  refine W4 [8,0,6,0,29,0,10,0,8] @Zmd ?_
  exact vA5
def orV:List Int->Int
 |[]=>0
 |x::xs=>if x=0 then orV xs else x
theorem Zvj(h:seg cs off n=some (i64C xs))(hi:i<n){q:Nat}(hq:q=off+i):nth cs q=some (.int .i64 (xs.getD i 0)):=by
 obtain⟨h1,h2⟩:=Zed _ _ _ _ h
 have:=h2 i hi
 subst hq
 rw[Zcl,this]
 have hxn:xs.length=n:=by simpa[i64C] using h1
 have hl:i<xs.length:=by omega
 simp[i64C,hl]
theorem or_c(xs:List Int)(n:Nat)(hn:xs.length=n)(hn2:n<=1000)(W:World)(hb:W.heap[b]? =some (.cells (i64C xs).toArray t fz)):Cal prog 182 [.slice (some ⟨b,0,none⟩) n n].toArray W λv w'=>v= .int .i64 (orV xs)/\Ext [] W w':=by
 have hs:seg (i64C xs) 0 n=some (i64C xs):=ZhX (by simp[i64C,hn])
 refine Zar (n:=18) [b] Tryz.func182 rfl rfl rfl ?_
 intro a w F M hwW
 replace M:=M.came hwW hb Q5 Q5
 refine W1 19 ?_;intro a F
 refine ZbK (λk a w=>∃i:Nat,k=n-i/\i<=n/\orV xs=orV (xs.drop i)/\Frm a 18 [] [(8, .int .i64 i),(7, .int .i64 n),(6, .slice (some ⟨b,0,none⟩) n n),(3, .int .i64 0)]/\Mem [b] W w [(b, .cells (i64C xs).toArray t fz)]) n ⟨0,rfl,Q0,rfl,F.only [8,7,6,3] rfl,M⟩ ?_
 clear F M
 rintro k a w ⟨i,hk,hi,hor,F,M⟩
 by_cases hlt:i<n
 ·have e1:=Zvj hs hlt (q:=0+(i:Int).toNat*1) Q0
  have hd:xs.drop i=xs.getD i 0::xs.drop (i+1):=by
   rw[List.drop_eq_getElem_cons Q0,List.getD_eq_getElem?_getD,List.getElem?_eq_getElem Q0];rfl
  rw[hd] at hor
  by_cases h0:xs.getD i 0=0
  ·refine W1 34 ?_;intro a F
   exact⟨_,Q0,i+1,rfl,Q0,by rw[hor];simp only[orV,h0,if_true],F.only [8,7,6,3] rfl,M⟩
  ·refine W1 38 ?_;intro a F
   refine Qq F ?_
   exact⟨by rw[hor];simp only[orV,h0,if_false],M.back1 .here hb⟩
 ·obtain rfl:i=n:=by omega
  rw[List.drop_of_length_le Q0] at hor
  refine W1 19 ?_;intro a F
  refine Qq F ?_
  exact⟨by rw[hor];rfl,M.back1 .here hb⟩
end
section
attribute [local irreducible] OpTo wpListIn Code.wpIn MW Cal
end
section
def bitX(x:Int)(r:Nat):Int:=ZbL .and .u8 (Int.fdiv x (2^min (7-(r:Int)).toNat IntKind.u8.bits)) 1
def bitI(a:List Int)(i:Nat):Int:=bitX (a.getD (i/8) 0) (i % 8)
theorem Zw4:∀x:Fin 256,∀r:Fin 8,bitX (x.1:Int) r.1=((x.1/2^(7-r.1) % 2:Nat):Int):=by decide+kernel
theorem Zpe:∀x:Fin 256,∀k:Fin 9,(x.1/2^(8-k.1)*2^(8-k.1)=x.1)↔∀r:Fin 8,k.1<=r.1->x.1/2^(7-r.1) % 2=0:=by decide+kernel
theorem ZsV:∀x:Fin 256,∀r:Fin 8,ZbL .or .u8 (cutB (x.1:Int) r.1) (IntKind.u8.wrap (bitX (x.1:Int) r.1*2^min (7-(r.1:Int)).toNat IntKind.u8.bits))=cutB (x.1:Int) (r.1+1):=by decide+kernel
theorem Ztu:∀x:Fin 256,cutB (x.1:Int) 0=0:=by decide+kernel
theorem Zkv{x:Nat}{r:Nat}(hx:x<256)(hr:r<8):bitX (x:Int) r=((x/2^(7-r) % 2:Nat):Int):=Zw4 ⟨x,hx⟩ ⟨r,hr⟩
theorem Zku(ha:IsIP a)(j:Nat):∃x:Nat,x<256/\a.getD j 0=(x:Int):=by
 have:=ha.at_ j
 obtain⟨x,hx⟩:=Int.eq_ofNat_of_zero_le this.1
 exact⟨x,Q0,hx⟩
theorem Zw5(ha:IsIP a)(i:Nat):bitI a i=0∨bitI a i=1:=by
 obtain⟨x,hx,hxe⟩:=Zku ha (i/8)
 unfold bitI
 rw[hxe,Zkv hx (Nat.mod_lt _ Q0)]
 omega
theorem ZqN{n j r:Nat}(hr:r<8):(ZdG (n:Int) j).toNat<=r↔n<=8*j+r:=by
 unfold ZdG
 split<;>(try split)<;>omega
theorem Zmh{p:List Int}(hp:IsIP p)(n:Int):Zb4 p n=p↔∀j,j<16->Zdz p n j=p.getD j 0:=by
 constructor
 ·intro h j hj
  rw[<-ZnD p n hj,h]
 ·intro h
  apply List.ext_getElem (by rw[ZbP,hp.len])
  intro j h1 h2
  have hj:j<16:=by rw[ZbP] at h1;exact h1
  have e:=h j hj
  simp only[Zb4,List.getElem_map,List.getElem_range]
  rw[e,List.getD_eq_getElem?_getD,List.getElem?_eq_getElem h2]
  rfl
theorem ZiO{p:List Int}(hp:IsIP p)(n:Nat):Zb4 p (n:Int)=p↔∀i,n<=i->i<128->bitI p i=0:=by
 rw[Zmh hp]
 have key:∀j,j<16->(Zdz p n j=p.getD j 0↔∀r,r<8->(ZdG (n:Int) j).toNat<=r->bitI p (8*j+r)=0):=by
  intro j hj
  obtain⟨x,hx,hxe⟩:=Zku hp j
  have hk:=ZhD (n:Int) (j:Int)
  rw[ZcC,hxe,ZgF hx hk]
  have hv:=Zpe ⟨x,hx⟩ ⟨(ZdG (n:Int) j).toNat,Q0⟩
  simp only at hv
  constructor
  ·intro h r hr hkr
   have h':x/2^(8-(ZdG (n:Int) j).toNat)*2^(8-(ZdG (n:Int) j).toNat)=x:=by exact_mod_cast h
   have:=hv.1 h' ⟨r,hr⟩ hkr
   unfold bitI
   rw[show(8*j+r)/8=j by omega,show(8*j+r) % 8=r by omega,hxe,Zkv hx hr]
   simp only at this
   omega
  ·intro h
   have:x/2^(8-(ZdG (n:Int) j).toNat)*2^(8-(ZdG (n:Int) j).toNat)=x:=hv.2 λr hkr=>by
    have h1:=h r.1 r.2 hkr
    unfold bitI at h1
    rw[show(8*j+r.1)/8=j by omega,show(8*j+r.1) % 8=r.1 by omega,hxe,Zkv hx r.2] at h1
    omega
   exact_mod_cast this
 constructor
 ·intro h i hi hlt
  have:=(key (i/8) Q0).1 (h (i/8) Q0) (i % 8) (Nat.mod_lt _ Q0) ((ZqN (Nat.mod_lt _ Q0)).2 Q0)
  rwa[show 8*(i/8)+i % 8=i by omega] at this
 ·intro h j hj
  exact(key j hj).2 λr hr hkr=>h _ ((ZqN hr).1 hkr) Q0
theorem ZqD(ha:IsIP a)(hi:i<128):ZbL .or .u8 (Zdz a (i:Int) (i/8)) (IntKind.u8.wrap (bitI a i*2^min (7-((i % 8:Nat):Int)).toNat IntKind.u8.bits))=Zdz a ((i:Int)+1) (i/8):=by
 obtain⟨x,hx,hxe⟩:=Zku ha (i/8)
 have k1:(ZdG (i:Int) ((i/8:Nat):Int)).toNat=i % 8:=by unfold ZdG;split<;>(try split)<;>omega
 have k2:(ZdG ((i:Int)+1) ((i/8:Nat):Int)).toNat=i % 8+1:=by unfold ZdG;split<;>(try split)<;>omega
 rw[ZcC,ZcC,k1,k2]
 unfold bitI
 rw[hxe]
 exact ZsV ⟨x,hx⟩ ⟨i % 8,Nat.mod_lt _ Q0⟩
theorem ZoG(hj:j≠i/8):Zdz a ((i:Int)+1) j=Zdz a (i:Int) j:=by
 have:ZdG ((i:Int)+1) (j:Int)=ZdG (i:Int) (j:Int):=by unfold ZdG;split<;>(try split)<;>(try split)<;>(try split)<;>omega
 rw[ZcC,ZcC,this]
theorem ZsU(hi:i<128):(Zb4 a (i:Int)).set (i/8) (Zdz a ((i:Int)+1) (i/8))=Zb4 a ((i:Int)+1):=by
 unfold Zb4
 apply List.ext_getElem Q5
 intro j h1 h2
 simp only[List.getElem_set,List.getElem_map,List.getElem_range]
 split
 ·subst_vars;rfl
 ·rename_i hne
  exact(ZoG (λh=>hne h.symm)).symm
theorem ZqC(ha:IsIP a):Zb4 a 0=Zo4:=by
 have:∀j,j<16->Zdz a 0 j=0:=λj hj=>by
  obtain⟨x,hx,hxe⟩:=Zku ha j
  have k:(ZdG 0 (j:Int)).toNat=0:=by unfold ZdG;split<;>(try split)<;>omega
  rw[ZcC,hxe,k]
  exact Ztu ⟨x,hx⟩
 unfold Zb4
 rw[List.map_congr_left (g:=λ_=>(0:Int)) λj hj=>this j (List.mem_range.1 hj)]
 rfl
end
section
attribute [local irreducible] OpTo wpListIn Code.wpIn MW Cal
theorem quo8(hi:i<=1000):IntKind.i64.wrap ((i:Int).tdiv 8)=((i/8:Nat):Int):=by
 rw[Int.tdiv_eq_ediv_of_nonneg Q0,ZlB Q0 Q0];omega
theorem rem8(i:Nat):(i:Int).tmod 8=((i % 8:Nat):Int):=by
 rw[Int.tmod_eq_emod_of_nonneg Q0];omega
theorem Zzx(a:List Int)(ha:IsIP a)(i:Nat)(hi:i<128)(W:World):Cal prog 178 [.agg (ipC a).toArray, .int .i64 i].toArray W λv w'=>v= .int .u8 (bitI a i)/\Ext [] W w':=by
 have hlt:i % 8<8:=Nat.mod_lt _ Q0
 have hn:nth (ipC a) (0+((i/8:Nat):Int).toNat*1)=some (.int .u8 (a.getD (i/8) 0)):=Zua (by rw[ha.len];omega)
 refine Zar (n:=15) [] Tryz.func178 rfl rfl rfl ?_
 intro a w F M hwW
 refine W1 2 ?_;intro a F
 refine Qs F M ?_;clear F M;intro b2 w M a F
 refine W1 7 ?_;intro a F
 rw[quo8 (i:=i) Q0] at F
 refine W1 4 ?_;intro a F
 rw[rem8 i] at F
 refine W1 8 ?_;intro a F
 exact Qq F (⟨rfl,M.ext⟩)
theorem Zel(p:List Int)(n:Int)(hp:IsIP p)(W:World):Cal prog 168 [.agg (pfC p n).toArray].toArray W λv w'=>v= .bool (ZcI p n)/\Ext [] W w':=by
 have e2:=ZjM hp.len n
 have e3:=Znw hp.len n
 by_cases h0:n<0
 ·refine Zar (n:=23) [] Tryz.func168 rfl rfl rfl ?_
  intro a w F M hwW
  refine W1 2 ?_;intro a F
  refine Qs F M ?_;clear F M;intro b1 w M a F
  refine W1 24 ?_;intro a F
  refine Qq F ?_
  exact (⟨by simp[Zce,ZcI,show ¬0<=n by omega],M.ext⟩)
 ·by_cases h1:128<n
  ·refine Zar (n:=23) [] Tryz.func168 rfl rfl rfl ?_
   intro a w F M hwW
   refine W1 2 ?_;intro a F
   refine Qs F M ?_;clear F M;intro b1 w M a F
   refine W1 24 ?_;intro a F
   refine Qq F ?_
   exact (⟨by simp[Zce,ZcI,show ¬n<=128 by omega],M.ext⟩)
  ·obtain⟨k,rfl⟩:=Int.eq_ofNat_of_zero_le (show 0<=n by omega)
   have hv:ZcI p (k:Int)=decide (Zb4 p (k:Int)=p):=by
    have h2:(0:Int)<=k:=by omega
    have h3:(k:Int)<=128:=by omega
    simp only[ZcI,h2,h3,decide_true,Bool.true_and]
    by_cases h:Zb4 p (k:Int)=p
    ·rw[dqT h,beq_iff_eq];exact h
    ·rw[dqF h,beq_eq_false_iff_ne];exact h
   rw[hv]
   refine Zar (n:=23) [] Tryz.func168 rfl rfl rfl ?_
   intro a w F M hwW
   refine W1 2 ?_;intro a F
   refine Qs F M ?_;clear F M;intro b1 w M a F
   refine W1 28 ?_;intro a F
   refine ZbK (λm a w=>∃i:Nat,m=128-i/\k<=i/\i<=128/\(∀j,k<=j->j<i->bitI p j=0)/\Frm a 23 [] [(3, .int .i64 i),(1, .pointer (some ⟨b1,0,none⟩))]/\Mem [] W w [(b1, .cells (pfC p k).toArray 65 (0,0))]) (128-k) ⟨k,rfl,Q0,Q0,λj h1 h2=>by omega,F.only [3,1] rfl,M⟩ ?_
   clear F M
   rintro m a w ⟨i,hm,hki,hi,hall,F,M⟩
   by_cases hlt:i<128
   ·refine W5 18 @Zzx ?_;intro a w F M
    by_cases hb:bitI p i=0
    ·refine W1 13 ?_;intro a F
     refine⟨_,Q0,i+1,rfl,Q0,Q0,λj h1 h2=>?_,F.only [3,1] rfl,M⟩
     by_cases e:j=i
     ·subst e;exact hb
     ·exact hall j h1 Q0
    ·refine W1 15 ?_;intro a F
     refine Qq F (⟨?_,M.ext⟩)
     rw[dqF λh=>hb ((ZiO hp k).1 h i hki hlt)]
   ·obtain rfl:i=128:=by omega
    refine W1 19 ?_;intro a F
    refine Qq F (⟨?_,M.ext⟩)
    rw[dqT ((ZiO hp k).2 λj h1 h2=>hall j h1 h2)]
theorem ZsO(hi:i<128)(n:Int):nth (pfC (Zb4 a (i:Int)) n) (0+0+((i/8:Nat):Int).toNat*1)=some (.int .u8 (Zdz a (i:Int) (i/8))):=by
 have h:i/8<16:=by omega
 rw[Zcl,show 0+0+((i/8:Nat):Int).toNat*1=i/8 by omega]
 unfold pfC ipC
 rw[List.getElem?_append_left (by simp[ZbP,h]),List.getElem?_map]
 simp[Zb4,h]
theorem Zsx(ha:IsIP a)(hi:i<128)(n:Int):put (pfC (Zb4 a (i:Int)) n) (0+0+((i/8:Nat):Int).toNat*1) [.int .u8 (ZbL .or .u8 (Zdz a (i:Int) (i/8)) (IntKind.u8.wrap (bitI a i*2^min (7-((i % 8:Nat):Int)).toNat IntKind.u8.bits)))]=some (pfC (Zb4 a ((i:Int)+1)) n):=by
 have h:i/8<16:=by omega
 rw[ZqD ha hi,put1 (q:=i/8) _ Q0 (by simp[pfC,ipC,ZbP];omega)]
 congr 1
 unfold pfC ipC
 rw[List.set_append_left _ _ (by simp[ZbP,h]),<-List.map_set,ZsU hi]
theorem ZpU(a:List Int)(ha:IsIP a)(n:Int)(W:World):Cal prog 82 [.agg (ipC a).toArray, .int .i64 n].toArray W λv w'=>v= .agg (pfC (Zb4 a (ZdC n)) (ZdC n)).toArray/\Ext [] W w':=by
 have e1:=ZhX (Zdq ha.len)
 obtain⟨c,hc⟩:∃c:Nat,ZdC n=(c:Int):=Int.eq_ofNat_of_zero_le (by unfold ZdC;split<;>(try split)<;>omega)
 have hc2:c<=128:=by(have:ZdC n<=128:=by(unfold ZdC;split<;>(try split)<;>omega));omega
 obtain⟨ip,rfl⟩:∃ip,ip=a:=⟨_,rfl⟩
 rw[hc]
 have hz:=ZqC ha
 refine Zar (n:=34) [] Tryz.func82 rfl rfl rfl ?_
 intro a w F M hwW
 refine W1 2 ?_;intro a F
 refine Qs F M ?_;clear F M;intro b2 w M a F
 (refine sD F (Zay M ?_);clear F M;intro b4 w M a F)
 refine W1 14 ?_;intro a F
 rw[show(if 128<(if n<0 then 0 else n) then(128:Int) else(if n<0 then 0 else n))=(c:Int) from hc] at F
 skip
 (refine sD F (Zay M ?_);clear F M;intro b5 w M a F)
 refine W5 10 trivial ?_;intro a w F M
 replace M:Mem [] W w [(b5, .cells (pfC (Zb4 ip ((0:Nat):Int)) c).toArray 65 (0,0)),(b4, .cells (pfC Zo4 0).toArray 65 (0,0)),(b2, .cells (ipC ip).toArray 63 (0,0))]:=by
  rw[show((0:Nat):Int)=0 from rfl,hz]
  exact M
 refine ZbK (λk a w=>∃i:Nat,k=c-i/\i<=c/\Frm a 34 [] [(6, .int .i64 i),(1, .int .i64 c),(2, .pointer (some ⟨b2,0,none⟩)),(4, .pointer (some ⟨b4,0,none⟩)),(5, .pointer (some ⟨b5,0,none⟩))]/\Mem [] W w [(b5, .cells (pfC (Zb4 ip (i:Int)) c).toArray 65 (0,0)),(b4, .cells (pfC Zo4 0).toArray 65 (0,0)),(b2, .cells (ipC ip).toArray 63 (0,0))]) c ⟨0,rfl,Q0,F.only [6,1,2,4,5] rfl,M⟩ ?_
 clear F M
 rintro k a w ⟨i,hk,hi,F,M⟩
 by_cases hlt:i<c
 ·have hm8:i % 8<8:=Nat.mod_lt _ Q0
  have n1:=ZsO (a:=ip) (i:=i) Q0 (c:Int)
  have hb:=Zw5 ha i
  refine W1 13 ?_;intro a F
  refine Za4 16 F Q7 ?_
  intro w1 hE hok
  have M1:=M.later hE
  refine W2 1 hok ?_
  (refine mK hok rfl rfl (λa' w' F' E'=>Zk0 (F'.e rfl) (F'.e rfl) Q0 (quo8 (i:=i) Q0) ⟨Ext.refl _ _,rfl⟩) ?_)
  refine W2 5 hok ?_
  (refine mK hok rfl rfl (λa' w' F' E'=>Zav (F'.e rfl) (F'.evs rfl) (Cal.mono (Zzx ip ha i Q0 _) λ_ _ hh=>⟨hh.2,hh.1⟩)) ?_)
  refine W2 1 hok ?_
  (refine mK hok rfl rfl (λa' w' F' E'=>Zyn (F'.e rfl) (F'.e rfl) Q0 (rem8 i) ⟨Ext.refl _ _,rfl⟩) ?_)
  refine W2 6 hok ?_
  (refine Qx M1 ?_;clear F M M1 hok hE;intro a w F M;(try dsimp only at F))
  (refine ZaW rfl F (ZfA M (F.e rfl) (F.e rfl) rfl Q1 (Zsx ha Q0 _) Q1 ?_);clear F M;intro w M a F)
  refine W1 9 ?_;intro a F
  refine⟨_,Q0,i+1,rfl,Q0,F.only [6,1,2,4,5] rfl,?_⟩
  rw[show((i+1:Nat):Int)=(i:Int)+1 by omega]
  exact M
 ·obtain rfl:i=c:=by omega
  have s2:=Zpx (ZbP ip (i:Int)) (i:Int)
  refine W1 17 ?_;intro a F
  (refine ZaW rfl F (Zap M (F.e rfl) (F.e rfl) (ZgU (ZbP ip (i:Int)) i) (Zqf _ _)  Q1  (Zat (by rw[ZgU (ZbP ip (i:Int)) i];rfl)) Q1 ?_);clear F M;intro w M a F)
  with_reducible refine ZdS (Zc6 (ZiK ?_))
  refine ZdP F rfl (.cons (.cell (F.e rfl) (Zam TAgg.h (M.heap Q1) s2)) .nil) ⟨rfl,M.ext⟩
end
section
attribute [local irreducible] OpTo wpListIn Code.wpIn MW Cal
end
section
attribute [local irreducible] OpTo wpListIn Code.wpIn MW Cal
end
section
attribute [local irreducible] OpTo wpListIn Code.wpIn MW Cal
theorem IsIP.set(h:IsIP ip)(i:Nat){x:Int}(h0:0<=x)(h1:x<256):IsIP (ip.set i x):=
 ⟨by rw[List.length_set];exact h.len,λy hy=>by
  rcases List.mem_or_eq_of_mem_set hy with hy|rfl
  ·exact h.bd y hy
  ·exact⟨h0,h1⟩⟩
end
section
end
section
attribute [local irreducible] OpTo wpListIn Code.wpIn MW Cal
end
theorem Ztx(x y:Int)(W:World):Cal prog 185 [.int .u64 x, .int .u64 y].toArray W λv w'=>v= .int .i64 (cmpV x y)/\Ext [] W w':=Zrx x y W
section
attribute [local irreducible] OpTo wpListIn Code.wpIn MW Cal
theorem vBH(h:p:=by
  simp only[IntKind.wrap,IntKind.signed,IntKind.bits,Bool.false_and,Bool.false_eq_true,if_false]
  omega):p:=h
theorem ZlA(m n:Int):0<=ZbL .xor .u8 m n/\ZbL .xor .u8 m n<256:=by
 unfold ZbL
 exact vBH
theorem Zv1{p:Option Addr}{len cap k:Nat}(n:Int)(hn:0<n)(hn2:n<=9223372036854775807)(W:World)(hT:Zbz W bt p len xs)(hb:W.heap[bt]? =some (tobj p len cap k)):
  Cal prog 28 [.pointer (some ⟨bt,0,none⟩), .int .i64 n].toArray W λv w'=>∃x k',v= .int .i64 x/\(0<=x/\x<n)/\Mem [bt] W w' [(bt,tobj p len cap k')]:=
 Cal.mono (Za1 n hn hn2 W hT hb) λ_ _ h=>⟨_,_,h.1,Zbb _ _ hn,h.2⟩
theorem Zw2{p:Option Addr}{len cap k:Nat}(n:Int)(hn:0<n)(hn2:n<=9223372036854775807)(W:World)(hT:Zbz W bt p len xs)(hb:W.heap[bt]? =some (tobj p len cap k)):
  Cal prog 14 [.pointer (some ⟨bt,0,none⟩), .int .i64 n].toArray W λv w'=>∃x k',v= .bool x/\Mem [bt] W w' [(bt,tobj p len cap k')]:=
 Cal.mono (Zhl n hn hn2 W hT hb) λ_ _ h=>⟨_,_,h.1,h.2⟩
theorem ZAh{p:Option Addr}{len cap k:Nat}(W:World)(hT:Zbz W bt p len xs)(hb:W.heap[bt]? =some (tobj p len cap k)):
  Cal prog 25 [.pointer (some ⟨bt,0,none⟩)].toArray W λv w'=>∃x k',v= .int .u64 x/\(1<=x/\x<=5)/\Mem [bt] W w' [(bt,tobj p len cap k')]:=by
 refine Zar (n:=7) [bt] Tryz.func25 rfl rfl rfl ?_
 intro a w F M hwW
 replace M:=M.came hwW hb Q5 Q5
 refine W1 8 ?_;intro a F
 (refine sD F (Zav (F.e rfl) (F.evs rfl) (Cal.mono (Zv1 5 Q0 Q0 _ (hT.later M.ext) (M.heap .here)) ?_));clear F;clear a;have M0:=M;clear M;rintro _ w ⟨x,k',rfl,hx,N⟩ a F)
 replace M:=M0.turn1 N .here
 refine W1 6 ?_;intro a F
 exact Qq F (⟨1+x,k',rfl,Q0,M⟩)
def Zag(t:Int):Bool:=decide (0<=t)&&decide (t<=1099511627776)
def Zaz(a d:Int):Int:=if 1099511627776<a+d then 1099511627776 else a+d
theorem ZfN{v u:Value}{n m:Nat}{xs ys:List Int}(W:World)(h:SlAt W 1 v n (ipC xs))(k:SlAt W 1 u m (ipC ys))(hx:∀x∈xs,0<=x/\x<256)(hy:∀x∈ys,0<=x/\x<256):
  Cal prog 183 [v,u].toArray W λx w'=>x= .int .i64 (cmpL xs ys)/\Ext [] W w':=by
 refine Zar (n:=8) [] Tryz.func183 rfl rfl rfl ?_
 intro a w F M hwW
 refine W1 9 ?_;intro a F
 (refine sD F (Zl8 (F.e rfl) Tryz.func279 Q7 Q7 Q7 (e:=Extern.BytealgCompare.compare) Q7 (F.evs rfl) (ZlP (h.later M.ext) (k.later M.ext) hx hy) ?_);clear F a;intro a F)
 refine W1 4 ?_;intro a F
 exact Qq F (⟨rfl,M.ext⟩)
end
section
attribute [local irreducible] OpTo wpListIn Code.wpIn MW Cal
end
section
attribute [local irreducible] OpTo wpListIn Code.wpIn MW Cal
theorem Zff{A B C Y:List Value}(ho:off=A.length)(hl:B.length=Y.length):put (A++(B++C)) off Y=some (A++(Y++C)):=by
 subst ho
 rw[ZiY _ _ _ (by simp;omega),ZbD]
 congr 1
 rw[List.take_left' rfl,List.drop_append,List.drop_eq_nil_of_le Q0,List.nil_append,show A.length+Y.length-A.length=Y.length by omega,<-hl,List.drop_left' rfl]
theorem ZgQ{A B C:List Value}(ho:off=A.length)(hn:n=B.length):seg (A++(B++C)) off n=some B:=by
 subst ho;subst hn;exact ZfG A B C
theorem Zk8{lr:EN}{b vb:Nat}{o o' o2:Obj}(h:Has (lr++[(b,o)]) vb o2)(hne:vb≠b):Has (lr++[(b,o')]) vb o2:=by
 induction lr with
 |nil=>
  cases h with
  |here=>exact absurd rfl hne
  |there h=>cases h
 |cons p lr ih=>
  cases h with
  |here=>exact .here
  |there h=>exact .there (ih h)
end
section
attribute [local irreducible] OpTo wpListIn Code.wpIn MW Cal
end
section
attribute [local irreducible] OpTo wpListIn Code.wpIn MW Cal
end
section
attribute [local irreducible] OpTo wpListIn Code.wpIn MW Cal
end
section
attribute [local irreducible] OpTo wpListIn Code.wpIn MW Cal
theorem Ze7{α:Type}(f:α->Bool){ls:List α}(hi:i<ls.length):(ls.take (i+1)).filter f=(ls.take i).filter f++if f ls[i] then [ls[i]] else []:=by
 rw[List.take_add_one,List.getElem?_eq_getElem hi,List.filter_append]
 congr 1
 simp only[Option.toList_some,List.filter_cons,List.filter_nil]
end
section
end
section
attribute [local irreducible] OpTo wpListIn Code.wpIn MW Cal
end
section
attribute [local irreducible] OpTo wpListIn Code.wpIn MW Cal
theorem Zas(t:Int)(W:World):Cal prog 74 [.int .i64 t].toArray W λv w'=>v= .bool (Zag t)/\Ext [] W w':=by
 unfold Zag
 by_cases h:0<=t
 ·rw[dqT h,Bool.true_and]
  refine yS (n:=9) Tryz.func74 rfl rfl ?_
  refine W3 [10,0,7] ?_
  exact vA5
 ·rw[dqF h,Bool.false_and]
  refine yS (n:=9) Tryz.func74 rfl rfl ?_
  refine W3 [10,0,7] ?_
  exact vA5
theorem vBi(h:p:=by
  refine W3 [9,0] ?_
  exact g_v (λa w F M R r=>ZiE (F.e rfl) (F.e rfl) r) (gQ 4 rfl (Zae rfl rfl rfl λw M=>⟨rfl,M.ext⟩))):p:=h
theorem ZcS(a d:Int)(h0:0<=a)(h1:a<=1099511627776)(d0:0<=d)(d1:d<=1099511627776)(W:World):Cal prog 93 [.int .i64 a, .int .i64 d].toArray W λv w'=>v= .int .i64 (Zaz a d)/\Ext [] W w':=by
 refine yS (n:=9) Tryz.func93 rfl rfl ?_
 exact vBi
theorem Ziz{p q:List Int}:∀(i:Nat),i<=p.length->p.length=q.length->(∀j,j<i->p.getD j 0=q.getD j 0)->cmpL p q=cmpL (p.drop i) (q.drop i)
 |0,_,_,_=>by simp
 |i+1,h1,h2,h=>by
  rw[Ziz i Q0 h2 λj hj=>h j Q0,List.drop_eq_getElem_cons (show i<p.length by omega),List.drop_eq_getElem_cons (show i<q.length by omega)]
  have:=h i Q0
  simp only[List.getD_eq_getElem?_getD,List.getElem?_eq_getElem (show i<p.length by omega),List.getElem?_eq_getElem (show i<q.length by omega),Option.getD_some] at this
  simp[cmpL,this]
theorem Zrz{p q:List Int}(h1:i<p.length)(h2:p.length=q.length)(h:∀j,j<i->p.getD j 0=q.getD j 0):cmpL p q=if p.getD i 0<q.getD i 0 then-1 else if q.getD i 0<p.getD i 0 then 1 else cmpL (p.drop (i+1)) (q.drop (i+1)):=by
 rw[Ziz i Q0 h2 h,List.drop_eq_getElem_cons (show i<p.length by omega),List.drop_eq_getElem_cons (show i<q.length by omega)]
 simp[cmpL,List.getD_eq_getElem?_getD,List.getElem?_eq_getElem (show i<p.length by omega),List.getElem?_eq_getElem (show i<q.length by omega)]
theorem Zef(p q:List Int)(hp:IsIP p)(hq:IsIP q)(W:World):Cal prog 282 [.agg (ipC p).toArray, .agg (ipC q).toArray].toArray W λx w'=>x= .int .i64 (cmpL p q)/\Ext [] W w':=by
 have l1:=hp.len
 have l2:=hq.len
 refine yS (n:=24) Tryz.func282 rfl rfl (gQ 2 rfl (Zai rfl rfl λb2=>Zai rfl rfl λb3=>gQ 10 rfl (Zau (ι:=Nat) ⟨λi=>16-i,λi=>i<=16/\(∀j,j<i->p.getD j 0=q.getD j 0),λi=>[(5, .int .i64 i),(3, .pointer (some ⟨b3,0,none⟩)),(2, .pointer (some ⟨b2,0,none⟩))],λi=>[[(b3, .cells (ipC q).toArray 63 (0,0))],[(b2, .cells (ipC p).toArray 63 (0,0))]]⟩ 0 ⟨Q0,Q0⟩ (λa F=>F.only [5,3,2] rfl) Qa ?_)))
 rintro i ⟨hi,hv⟩
 by_cases hlt:i<16
 ·have hst:=Zrz Q0 Q0 hv
  have f1:nth (ipC p) (0+(i:Int).toNat*1)=some (.int .u8 (p.getD i 0)):=Zl9 hp hlt Q0
  have f2:nth (ipC q) (0+(i:Int).toNat*1)=some (.int .u8 (q.getD i 0)):=Zl9 hq hlt Q0
  by_cases c1:p.getD i 0<q.getD i 0
  ·rw[if_pos c1] at hst
   rw[hst]
   refine W3 [7,0,6,1007,1,0,0,1,0,0,1,0,2,0,9,0,2] ?_
   exact vA5
  ·rw[if_neg c1] at hst
   by_cases c2:q.getD i 0<p.getD i 0
   ·rw[if_pos c2] at hst
    rw[hst]
    refine W3 [7,0,6,1007,1,0,0,1,0,0,1,0,2,0,3,1007,1,0,0,1,0,0,1,0,2,0,8,0,2] ?_
    exact vA5
   ·refine W3 [7,0,6,1007,1,0,0,1,0,0,1,0,2,0,3,1007,1,0,0,1,0,0,1,0,2,0,5,0,2] ?_
    exact yN (i+1) ⟨Q0,λj hj=>(Nat.lt_or_ge j i).elim (hv j) λh1=>(show i=j by omega)▸(show p.getD i 0=q.getD i 0 by omega)⟩
 ·obtain rfl:i=16:=by omega
  have:cmpL p q=0:=by rw[Ziz 16 Q0 Q0 hv,List.drop_eq_nil_of_le Q0,List.drop_eq_nil_of_le Q0];rfl
  rw[this]
  refine W3 [10,0,8] ?_
  exact vA5
end
section
attribute [local irreducible] OpTo wpListIn Code.wpIn MW Cal
end
section
attribute [local irreducible] OpTo wpListIn Code.wpIn MW Cal
end
section
attribute [local irreducible] OpTo wpListIn Code.wpIn MW Cal
end
section
attribute [local irreducible] OpTo wpListIn Code.wpIn MW Cal
def wip0(xs:List Int)(k:Nat):List Int:=[32,1,13,184,0,nxV xs k 2,nxV xs (nxK xs k) 2,0,0,0,0,0,0,0,0,nxV xs (nxK xs (nxK xs k)) 6]
def wip4(xs:List Int)(k:Nat):Nat:=nxK xs (nxK xs (nxK xs (nxK xs k)))
def wipV(xs:List Int)(k:Nat):List Int:=if ZmI xs (nxK xs (nxK xs (nxK xs k))) 9 then(wip0 xs k).set (nxV xs (wip4 xs k) 16).toNat (ZbL .xor .u8 ((wip0 xs k).getD (nxV xs (wip4 xs k) 16).toNat 0) (IntKind.u8.wrap (1*2^min (nxV xs (nxK xs (wip4 xs k)) 8).toNat IntKind.u8.bits))) else wip0 xs k
def wipK(xs:List Int)(k:Nat):Nat:=if ZmI xs (nxK xs (nxK xs (nxK xs k))) 9 then nxK xs (nxK xs (wip4 xs k)) else wip4 xs k
theorem Zpa(xs:List Int)(k:Nat):IsIP (wip0 xs k):=by
 have h1:=Zbb xs k (n:=2) Q0
 have h2:=Zbb xs (nxK xs k) (n:=2) Q0
 have h3:=Zbb xs (nxK xs (nxK xs k)) (n:=6) Q0
 exact⟨rfl,by intro x hx;simp[wip0] at hx;omega⟩
theorem ZjD(xs:List Int)(k:Nat):IsIP (wipV xs k):=by
 unfold wipV
 split
 ·exact(Zpa xs k).set _ (ZlA _ _).1 (ZlA _ _).2
 ·exact Zpa xs k
theorem ZtL{p:Option Addr}{len cap k:Nat}(W:World)(hT:Zbz W bt p len xs)(hb:W.heap[bt]? =some (tobj p len cap k)):
  Cal prog 46 [.pointer (some ⟨bt,0,none⟩)].toArray W λv w'=>v= .agg (ipC (wipV xs k)).toArray/\Mem [bt] W w' [(bt,tobj p len cap (wipK xs k))]:=by
 refine Zar (n:=28) [bt] Tryz.func46 rfl rfl rfl ?_
 intro a w F M hwW
 replace M:=M.came hwW hb Q5 Q5
 refine W1 2 ?_;intro a F
 (refine sD F (Zay M ?_);clear F M;intro b2 w M a F)
 refine W1 5 ?_;intro a F
 (refine sD F (Zav (F.e rfl) (F.evs rfl) (Cal.mono (Za1 2 Q0 Q0 _ (hT.later M.ext) (M.heap (.there .here))) ?_));clear F;clear a;have M0:=M;clear M;rintro _ w ⟨rfl,N⟩ a F)
 have hx1:=Zbb xs k (n:=2) Q0
 replace M:=M0.turn1 N (.there .here)
 refine W1 2 ?_;intro a F
 (refine sD F (Zav (F.e rfl) (F.evs rfl) (Cal.mono (Za1 2 Q0 Q0 _ (hT.later M.ext) (M.heap (.there .here))) ?_));clear F;clear a;have M0:=M;clear M;rintro _ w ⟨rfl,N⟩ a F)
 have hx2:=Zbb xs (nxK xs k) (n:=2) Q0
 replace M:=M0.turn1 N (.there .here)
 refine W1 2 ?_;intro a F
 (refine sD F (Zay M ?_);clear F M;intro b3 w M a F)
 refine W5 6 trivial ?_;intro a w F M
 (refine sD F (Zav (F.e rfl) (F.evs rfl) (Cal.mono (Za1 6 Q0 Q0 _ (hT.later M.ext) (M.heap (.there (.there .here)))) ?_));clear F;clear a;have M0:=M;clear M;rintro _ w ⟨rfl,N⟩ a F)
 have hx3:=Zbb xs (nxK xs (nxK xs k)) (n:=6) Q0
 replace M:=M0.turn1 N (.there (.there .here))
 refine W5 9 trivial ?_;intro a w F M
 obtain⟨ip,hipd,hip,M⟩:∃ip,ip=wip0 xs k/\IsIP ip/\Mem [bt] W w [(bt,tobj p len cap (nxK xs (nxK xs (nxK xs k)))),(b3, .cells (ipC ip).toArray 63 (0,0)),(b2, .cells (ipC [0,0,0,0,0,0,0,0,0,0,0,0,0,0,0,0]).toArray 63 (0,0))]:=
  ⟨wip0 xs k,rfl,⟨rfl,by intro x hx;simp[wip0] at hx;omega⟩,M.perm ((List.Perm.refl _).trans (List.perm_append_comm (l₁:=[_,_]) (l₂:=[_])))⟩
 (refine sD F (Zav (F.e rfl) (F.evs rfl) (Cal.mono (Zhl 9 Q0 Q0 _ (hT.later M.ext) (M.heap .here)) ?_));clear F;clear a;have M0:=M;clear M;rintro _ w ⟨rfl,N⟩ a F)
 replace M:=M0.turn1 N .here
 clear M0
 have e0:seg (ipC ip) 0 16=some (ipC ip):=ZhX (Zdq hip.len)
 rw[show nxK xs (nxK xs (nxK xs (nxK xs k)))=wip4 xs k from rfl] at M
 obtain⟨k4,hk4⟩:∃k4,k4=wip4 xs k:=⟨_,rfl⟩
 rw[<-hk4] at M
 cases hc:ZmI xs (nxK xs (nxK xs (nxK xs k))) 9
 all_goals rw[hc] at F
 ·refine W1 8 ?_;intro a F
  (refine ZaW rfl F (Zap M (F.e rfl) (F.e rfl) (Zdq hip.len) (Zqg _)  Q1  (Zat (by rw[Zdq hip.len];rfl)) Q1 ?_);clear F M;intro w M a F)
  with_reducible refine ZdS (Zc6 (ZiK ?_))
  exact ZdP F rfl (.cons (.cell (F.e rfl) (Zam TAgg.h (M.heap (.there (.there .here))) e0)) .nil) ⟨by rw[show wipV xs k=ip by rw[hipd];unfold wipV;rw[if_neg (by simp[hc])]];rfl,by rw[show wipK xs k=k4 by rw[hk4];unfold wipK;rw[if_neg (by simp[hc])]];exact M.sub (.cons_cons _ (.cons _ (.cons _ (.refl _))))⟩
 ·replace F:=F.only [0,2,3,16] rfl
  have v1:=Zbb xs k4 (n:=16) Q0
  have v2:=Zbb xs (nxK xs k4) (n:=8) Q0
  have hib:=hip.at_ (nxV xs k4 16).toNat
  have h1:nth (ipC ip) (0+(nxV xs k4 16).toNat*1)=some (.int .u8 (ip.getD (nxV xs k4 16).toNat 0)):=Zl9 hip Q0 Q0
  refine W1 3 ?_;intro a F
  refine ZwZ (l0:=[(bt,tobj p len cap k4)]) [bt] [1,5] M 9 F Q7 ?_
  intro w1 M1 hok hef
  have hB:∀k∈[bt],k∈([(bt,tobj p len cap k4)]:EN).map (·.1):=by simp
  have hTw:∀w',Ext [bt] w1 w'->Zbz w' bt p len xs:=λw' E=>hT.later (M1.ext.trans (E.mono Q5))
  refine W2 1 hok ?_
  refine mE (T':=λ_ w=>Mem _ _ w ([(bt,tobj p len cap (nxK xs k4))]++_)) hok rfl rfl (λ_ _ _ h k=>h.later k) (λa' w' σ' F' E' T'=>Zav (F'.e rfl) (F'.evs rfl) (Cal.mono (Za1 16 Q0 Q0 _ (hTw _ E') (T'.heap .here)) λ_ _ hh=>⟨hh.2.ext,hh.1,Mem.turn1 T' hh.2 .here⟩)) ?_
  refine W2 3 hok ?_
  refine mE (T':=λ_ w=>Mem _ _ w ([(bt,tobj p len cap (nxK xs (nxK xs k4)))]++_)) hok rfl rfl (λ_ _ _ h k=>h.later k) (λa' w' σ' F' E' T'=>Zav (F'.e rfl) (F'.evs rfl) (Cal.mono (Za1 8 Q0 Q0 _ (hTw _ E') (T'.heap .here)) λ_ _ hh=>⟨hh.2.ext,hh.1,Mem.turn1 T' hh.2 .here⟩)) ?_
  refine W2 3 hok ?_
  clear hTw
  (refine ZiG rfl hef ?_;clear F M;intro a w F hE2 hX M hDD hPP;clear M1;clear hX;clear hE2;clear hok;clear hef;clear hB;clear hDD;clear hPP;(try dsimp only at F);(try simp only[List.cons_append,List.nil_append] at M))
  have hbd:=ZlA (ip.getD (nxV xs k4 16).toNat 0) (IntKind.u8.wrap (1*2^min (nxV xs (nxK xs k4) 8).toNat IntKind.u8.bits))
  obtain⟨z,hz⟩:∃z,z=ZbL BinOp.xor IntKind.u8 (ip.getD (nxV xs k4 16).toNat 0) (IntKind.u8.wrap (1*2^min (nxV xs (nxK xs k4) 8).toNat IntKind.u8.bits)):=⟨_,rfl⟩
  rw[<-hz] at F hbd
  refine W1 1 ?_;intro a F
  (refine ZaW rfl F (ZfA M (F.e rfl) (F.e rfl) rfl Q1 (put1 (q:=(nxV xs k4 16).toNat) _ Q0 (by rw[Zdq hip.len];omega)) Q1 ?_);clear F M;intro w M a F)
  rw[<-Zwd] at M
  have hip2:=hip.set (nxV xs k4 16).toNat hbd.1 hbd.2
  obtain⟨ip2,hi2⟩:∃ip2,ip2=ip.set (nxV xs k4 16).toNat z:=⟨_,rfl⟩
  rw[<-hi2] at M hip2
  have e2:seg (ipC ip2) 0 16=some (ipC ip2):=ZhX (Zdq hip2.len)
  refine W1 5 ?_;intro a F
  (refine ZaW rfl F (Zap M (F.e rfl) (F.e rfl) (Zdq hip2.len) (Zqg _)  Q1  (Zat (by rw[Zdq hip2.len];rfl)) Q1 ?_);clear F M;intro w M a F)
  with_reducible refine ZdS (Zc6 (ZiK ?_))
  exact ZdP F rfl (.cons (.cell (F.e rfl) (Zam TAgg.h (M.heap (.there (.there .here))) e2)) .nil) ⟨by rw[show wipV xs k=ip2 by rw[hi2,hz,hipd,hk4];unfold wipV;rw[if_pos hc]];rfl,by rw[show wipK xs k=nxK xs (nxK xs k4) by rw[hk4];unfold wipK;rw[if_pos hc]];exact M.sub (.cons_cons _ (.cons _ (.cons _ (.refl _))))⟩
end
section
attribute [local irreducible] OpTo wpListIn Code.wpIn MW Cal
def wtV(xs:List Int)(k:Nat)(base:Int):Int:=if 0<(if base+nxV xs k 60-30<1099511627776 then base+nxV xs k 60-30 else 1099511627776) then(if base+nxV xs k 60-30<1099511627776 then base+nxV xs k 60-30 else 1099511627776) else 0
theorem ZuQ{p:Option Addr}{len cap k:Nat}(base:Int)(h0:0<=base)(h1:base<=1099511627776)(W:World)(hT:Zbz W bt p len xs)(hb:W.heap[bt]? =some (tobj p len cap k)):
  Cal prog 44 [.pointer (some ⟨bt,0,none⟩), .int .i64 base].toArray W λv w'=>v= .int .i64 (wtV xs k base)/\Mem [bt] W w' [(bt,tobj p len cap (nxK xs k))]:=by
 refine Zar (n:=12) [bt] Tryz.func44 rfl rfl rfl ?_
 intro a w F M hwW
 replace M:=M.came hwW hb Q5 Q5
 have hx:=Zbb xs k (n:=60) Q0
 refine W1 9 ?_;intro a F
 (refine sD F (Zav (F.e rfl) (F.evs rfl) (Cal.mono (Za1 60 Q0 Q0 _ (hT.later M.ext) (M.heap .here)) ?_));clear F;clear a;have M0:=M;clear M;rintro _ w ⟨rfl,N⟩ a F)
 replace M:=M0.turn1 N .here
 clear M0
 refine W1 8 ?_;intro a F
 exact Qq F (⟨rfl,M⟩)
theorem Zqt{k:IntKind}{i:Int}(h0:0<=i)(h1:i<xs.length):nth (xs.map (Value.int k)) (0+i.toNat*1)=some (.int k (xs.getD i.toNat 0)):=by
 have h:i.toNat<xs.length:=by omega
 rw[Zcl,show 0+i.toNat*1=i.toNat by omega]
 simp[h]
def ZjG:List Int:=[128,128,64,56,48,32,0,127,3,60]
theorem Zr1(i:Nat):0<=ZjG.getD i 0/\ZjG.getD i 0<=128:=by
 rcases Nat.lt_or_ge i 10 with h|h
 ·have:∀i:Fin 10,0<=ZjG.getD i.val 0/\ZjG.getD i.val 0<=128:=by decide
  exact this ⟨i,h⟩
 ·rw[List.getD_eq_getElem?_getD,List.getElem?_eq_none (by simpa[ZjG] using h)]
  simp
def wpN(xs:List Int)(k:Nat):Int:=if ZmI xs (nxK xs k) 7 then nxV xs (nxK xs (nxK xs k)) 129 else ZjG.getD (nxV xs k 10).toNat 0
def wpK0(xs:List Int)(k:Nat):Nat:=if ZmI xs (nxK xs k) 7 then nxK xs (nxK xs (nxK xs k)) else nxK xs (nxK xs k)
def wpA(xs:List Int)(k:Nat):List Int:=wipV xs (wpK0 xs k)
def wpK(xs:List Int)(k:Nat):Nat:=wipK xs (wpK0 xs k)
theorem ZtK(xs:List Int)(k:Nat):0<=wpN xs k/\wpN xs k<=128:=by
 have h1:=Zbb xs (nxK xs (nxK xs k)) (n:=129) Q0
 unfold wpN
 split
 ·omega
 ·exact Zr1 _
theorem vAi(h:p:=by
  (refine sD F (Zav (F.e rfl) (F.evs rfl) (Cal.mono (ZtL _ (hT.later M.ext) (M.heap (.there (.there .here)))) ?_));clear F;clear a;have M0:=M;clear M;rintro _ w ⟨rfl,N⟩ a F)
  replace M:=M0.turn1 N (.there (.there .here))
  refine W1 1 ?_;intro a F
  (refine Qy F M rfl rfl (Cal.to (ZpU (wpA xs k) (ZjD _ _) (wpN xs k) _) (by rw[hcl])) ?_;clear F M a;intro w a M F)
  (refine ZaW rfl F (Zap M (F.e rfl) (F.e rfl) (ZgU (ZbP _ _) _) (Zqf _ _)  Q1  (Zat (by rw[ZgU (ZbP (wpA xs k) (wpN xs k)) (wpN xs k)];rfl)) Q1 ?_);clear F M;intro w M a F)
  with_reducible refine ZdS (Zc6 (ZiK ?_))
  refine ZdP F rfl (.cons (.cell (F.e rfl) (Zam TAgg.h (M.heap Q1) s3)) .nil) ⟨rfl,M.sub (by repeat (first|exact List.Sublist.refl _|apply sC1))⟩):p:=h
theorem Zo8{p:Option Addr}{len cap k:Nat}(W:World)(hT:Zbz W bt p len xs)(hb:W.heap[bt]? =some (tobj p len cap k)):
  Cal prog 83 [.pointer (some ⟨bt,0,none⟩)].toArray W λv w'=>v= .agg (pfC (Zb4 (wpA xs k) (wpN xs k)) (wpN xs k)).toArray/\Mem [bt] W w' [(bt,tobj p len cap (wpK xs k))]:=by
 have v1:=Zbb xs k (n:=10) Q0
 have v3:=Zbb xs (nxK xs (nxK xs k)) (n:=129) Q0
 have n1:=Zqt (k:= .i64) (xs:=ZjG) v1.1 (by simpa[ZjG] using v1.2)
 have hbd:=ZtK xs k
 have hcl:ZdC (wpN xs k)=wpN xs k:=Zkt hbd.1 hbd.2
 have s3:=Zpx (ZbP (wpA xs k) (wpN xs k)) (wpN xs k)
 refine Zar (n:=17) [bt] Tryz.func83 rfl rfl rfl ?_
 intro a w F M hwW
 replace M:=M.came hwW hb Q5 Q5
 refine W1 2 ?_;intro a F
 (refine sD F (Zay M ?_);clear F M;intro b2 w M a F)
 refine W1 4 ?_;intro a F
 (refine sD F (ZaC F M rfl rfl rfl rfl ?_);clear F M;intro b4 w M a F)
 refine W1 1 ?_;intro a F
 (refine sD F (Zav (F.e rfl) (F.evs rfl) (Cal.mono (Za1 10 Q0 Q0 _ (hT.later M.ext) (M.heap (.there (.there .here)))) ?_));clear F;clear a;have M0:=M;clear M;rintro _ w ⟨rfl,N⟩ a F)
 replace M:=M0.turn1 N (.there (.there .here))
 (refine sD F (Zex (F.e rfl) (F.e rfl) Q0 Q0 ?_);clear F a;intro a F)
 (refine sD F (ZgY M (F.e rfl) Q1 (n1) ?_);clear F a;intro a F)
 refine W1 7 ?_;intro a F
 (refine sD F (Zav (F.e rfl) (F.evs rfl) (Cal.mono (Zhl 7 Q0 Q0 _ (hT.later M.ext) (M.heap (.there (.there .here)))) ?_));clear F;clear a;have M0:=M;clear M;rintro _ w ⟨rfl,N⟩ a F)
 replace M:=M0.turn1 N (.there (.there .here))
 cases hc:ZmI xs (nxK xs k) 7
 ·rw[hc] at F
  have hN:wpN xs k=ZjG.getD (nxV xs k 10).toNat 0:=by unfold wpN;rw[hc];rfl
  have hK:wpK0 xs k=nxK xs (nxK xs k):=by unfold wpK0;rw[hc];rfl
  rw[<-hK] at M
  rw[<-hN] at F
  refine W1 8 ?_;intro a F
  exact vAi
 ·rw[hc] at F
  have hN:wpN xs k=nxV xs (nxK xs (nxK xs k)) 129:=by unfold wpN;rw[hc];rfl
  have hK:wpK0 xs k=nxK xs (nxK xs (nxK xs k)):=by unfold wpK0;rw[hc];rfl
  refine W1 5 ?_;intro a F
  (refine sD F (Zav (F.e rfl) (F.evs rfl) (Cal.mono (Za1 129 Q0 Q0 _ (hT.later M.ext) (M.heap (.there (.there .here)))) ?_));clear F;clear a;have M0:=M;clear M;rintro _ w ⟨rfl,N⟩ a F)
  replace M:=M0.turn1 N (.there (.there .here))
  rw[<-hK] at M
  rw[<-hN] at F
  refine W1 6 ?_;intro a F
  exact vAi
end
section
attribute [local irreducible] OpTo wpListIn Code.wpIn MW Cal
end
section
attribute [local irreducible] OpTo wpListIn Code.wpIn MW Cal
end
section
attribute [local irreducible] OpTo wpListIn Code.wpIn MW Cal
end
section
end
section
attribute [local irreducible] OpTo wpListIn Code.wpIn MW Cal
end
end
section
open Go.ChangeShapes Go.WideShapes Go.ChangeAt Go.RowKit
def loK:IntKind->Int
 | .i64=> -9223372036854775808| .u64=>0| .u32=>0| .u16=>0| .u8=>0| .i32=> -2147483648|k=>k.min
def hiK:IntKind->Int
 | .i64=>9223372036854775807| .u64=>18446744073709551615| .u32=>4294967295| .u16=>65535| .u8=>255| .i32=>2147483647|k=>k.max
theorem ZqP{k:IntKind}{n:Int}(h:(Lit.int k n).wf=true):loK k<=n/\n<=hiK k:=by
 have:=ZzN h
 cases k<;>simp[IntKind.min,IntKind.max,IntKind.signed,IntKind.bits,loK,hiK] at this⊢<;>omega
theorem ZaH{k:IntKind}(h:wfV (.i k) v=true):∃n,v= .int k n/\loK k<=n/\n<=hiK k:=by
 cases v<;>simp[wfV] at h
 rename_i k' n
 obtain⟨rfl,hw⟩:=h
 exact⟨n,rfl,ZqP hw⟩
theorem Zax{k:LK}{ks:List LK}{xs:List Value}(h:wfK (k::ks) xs=true):∃x ys,xs=x::ys/\wfV k x=true/\wfK ks ys=true:=by
 cases xs with
 |nil=>cases h
 |cons x ys=>simp only[wfK,Bool.and_eq_true] at h;exact⟨x,ys,rfl,h.1,h.2⟩
theorem ZfP{xs:List Value}(h:wfK [] xs=true):xs=[]:=by
 cases xs with
 |nil=>rfl
 |cons x ys=>cases h
theorem Zg3:∀(xs:List Value)(n:Nat),wfK (List.replicate n (.i .u8)) xs=true->∃a:List Int,xs=ipC a/\a.length=n/\∀x∈a,0<=x/\x<256
 |[],0,_=>⟨[],rfl,rfl,by simp⟩
 |[],n+1,h=>by simp[List.replicate_succ,wfK] at h
 | _::_,0,h=>by simp[wfK] at h
 |x::xs,n+1,h=>by
  simp only[List.replicate_succ,wfK,Bool.and_eq_true] at h
  obtain⟨a,rfl,hl,hb⟩:=Zg3 xs n h.2
  obtain⟨m,rfl,h0,h1⟩:=ZaH h.1
  refine⟨m::a,rfl,by simp[hl],λy hy=>?_⟩
  rcases List.mem_cons.1 hy with rfl|hy
  ·simp only[loK,hiK] at h0 h1;omega
  ·exact hb y hy
section
variable {H:Type} {enc:TypeId×Value->H} {w:World} {r:Reach} {b0 base:Nat} {sp:Nat->Bool} {held:Bool} {v:Value} {d:DataW H} {p:List MemPlace}
theorem ZbY:∀{ks ks':List LK}{xs:List Value},wfK (ks++ks') xs=true->∃ys zs,xs=ys++zs/\wfK ks ys=true/\wfK ks' zs=true
 |[],ks',xs,h=>⟨[],xs,rfl,rfl,h⟩
 |k::ks,ks',[],h=>by cases h
 |k::ks,ks',x::xs,h=>by
  simp only[List.cons_append,wfK,Bool.and_eq_true] at h
  obtain⟨ys,zs,rfl,h1,h2⟩:=ZbY h.2
  exact⟨x::ys,zs,rfl,by simp[wfK,h.1,h1],h2⟩
end
set_option maxRecDepth 100000 in
theorem ZvQ{H:Type}{enc:TypeId×Value->H}{r:Reach}{b0 base:Nat}{held:Bool}{d:DataW H}{p:List MemPlace}(hval:Value.okWide prog w r b0 22 v)(h:DataW.Trod enc prog w base (λ_=>true) held 22 v d p):
  ∃xs q cap,v= .slice q xs.length cap/\xs.length<=cap/\ZjB w v xs:=by
 obtain⟨a,len,cap,rfl⟩:=okWide_slice Tryz.underlying22 hval
 obtain⟨fuel,hf⟩:=h
 have hone:(Value.slice a len cap).cells.toList=[Value.slice a len cap]:=rfl
 rw[hone] at hf
 rcases open_ints Tryz.underlying22 Tryz.underlying3 Q7 hf with⟨h1,_⟩|⟨a',len',cap',zs,h1,_,hlc,hcm,hzl,_,hat,hwf⟩
 ·cases h1
  exact⟨[],none,0,rfl,by simp,⟨⟨none,0,rfl,by simp,λh=>absurd h Q5⟩,by simp,by simp⟩⟩
 ·cases h1
  simp only[if_true] at hzl
  have hml:maxLen=9223372036854775807:=rfl
  have htl:(zs.take len).length=len:=by rw[List.length_take];omega
  refine⟨zs.take len,some a',cap,by rw[htl],Q0,⟨⟨some a',cap,by rw[htl],Q0,λhl=>?_⟩,λx hx=>?_,Q0⟩⟩
  ·rw[htl] at hl
   have h0:=hat 0 Q0
   have hsp:a'.spot=none:=by
    cases hs:a'.spot with
    |none=>rfl
    |some q=>
     have e0:a'.add 0=a':=by simp[Addr.add]
     rw[e0] at h0
     simp only[World.cell?,hs] at h0
     split at h0<;>simp at h0
   obtain⟨b,o,sp⟩:=a'
   simp only at hsp
   subst hsp
   have hadd:∀i,(⟨b,o,none⟩:Addr).add i=⟨b,o+i,none⟩:=λi=>ZbX b o i
   rw[hadd] at h0
   cases hb:w.heap[b]? with
   |none=>simp[World.cell?,hb] at h0
   |some ob=>
    cases ob with
    |cells cs t fz=>
     refine⟨b,o,cs,t,fz,rfl,hb,?_⟩
     have hcell:∀i,i<zs.length->cs[o+i]? =some (.int .i64 (zs.getD i 0)):=λi hi=>by
      have:=hat i hi
      rw[hadd] at this
      simpa[World.cell?,hb] using this
     have hle:o+len<=cs.toList.length:=by
      have:=hcell (len-1) Q0
      have:=(Array.getElem?_eq_some_iff.1 this).1
      simp only[Array.length_toList]
      omega
     rw[htl,Zm3,if_pos hle]
     congr 1
     apply List.ext_getElem
     ·simp only[List.length_take,List.length_drop,i64C,List.length_map]
      omega
     ·intro i h1 h2
      have hi:i<len:=by simp only[List.length_take] at h1;omega
      have:=hcell i Q0
      have h3:=Array.getElem?_eq_some_iff.1 this
      obtain⟨h4,h5⟩:=h3
      simp only[List.getElem_take,List.getElem_drop,Array.getElem_toList,h5,i64C,List.getElem_map]
      rw[List.getD_eq_getElem?_getD,List.getElem?_eq_getElem Q0]
      rfl
    | _=>simp[World.cell?,hb] at h0
  ·have:=ZqP (hwf x (List.mem_of_mem_take hx))
   exact this
end
section
theorem Zxe(a:Addr)(m r:Nat):(a.add m).add r=a.add (m+r):=by
 obtain⟨b,o,sp⟩:=a
 unfold Addr.add
 by_cases hm:m=0
 ·subst hm
  simp
 ·by_cases hr:r=0
  ·subst hr;simp[hm]
  ·simp[hm,hr,show ¬m+r=0 by omega];omega
section
variable {H:Type} {enc:TypeId×Value->H} {P:Program} {w:World} {base:Nat} {sp:Nat->Bool} {held:Bool}
theorem ZeQ{α:Type}{encE:α->List Value}{Is:α->Prop}{t e:TypeId}(ht:P.underlying t=some (.slice e))(hsz:P.cellsOf e=sz)(h0:0<sz)
  (hdec:∀n cs y,DataW.trod enc P w base sp held n e cs=some y->∃x:α,Is x/\cs=encE x) {fuel:Nat}  {x:DataW H×List MemPlace} (h:DataW.trod enc P w base sp held fuel t cs=some x):
  ∃(v:Value)(ls:List α),cs=[v]/\(∀x∈ls,Is x)/\SlAt w sz v ls.length (encL encE ls)/\ls.length<=9223372036854775807:=by
 rcases DataW.trod_slice ht h with⟨rfl,_⟩|⟨a,len,cap,elems,rest,n,_,rfl,_,_,hlc,hcm,hel,hat,_,_⟩
 ·exact⟨_,[],rfl,by simp,SlAt.nil _ _,by simp⟩
 have hml:maxLen=9223372036854775807:=rfl
 rw[hsz] at hat
 have key:∀k,k<=len->∃ls:List α,ls.length=k/\(∀x∈ls,Is x)/\(encL encE ls).length=k*sz/\∀j,j<k*sz->w.cell? (a.add j)=(encL encE ls)[j]? :=by
  intro k
  induction k with
  |zero=>exact λ_=>⟨[],rfl,by simp,by simp[Zto],by simp⟩
  |succ k ih=>
   intro hk
   obtain⟨ls,h1,h2,h3,h4⟩:=ih Q0
   have hb:=hat k Q0
   rw[List.getElem?_eq_getElem Q0,Option.bind_eq_some_iff] at hb
   obtain⟨ck,hc,hy⟩:=hb
   obtain⟨x,hx,rfl⟩:=hdec _ _ _ hy
   obtain⟨_,hcl,hca⟩:=World.cells?_some hc
   refine⟨ls++[x],by simp[h1],λz hz=>?_,?_,λj hj=>?_⟩
   ·rcases List.mem_append.1 hz with h|h
    ·exact h2 z h
    ·simp only[List.mem_singleton] at h
     rw[h];exact hx
   ·rw[ZbC,Zdd,List.length_append,h3,hcl,Nat.add_mul];omega
   ·rw[ZbC,Zdd]
    rcases Nat.lt_or_ge j (k*sz) with h|h
    ·rw[List.getElem?_append_left Q0]
     exact h4 j h
    ·rw[List.getElem?_append_right Q0,h3,<-hca (j-k*sz) (by rw[Nat.add_mul] at hj;omega),Zxe]
     congr 2
     omega
 obtain⟨ls,h1,h2,h3,h4⟩:=key len (Nat.le_refl _)
 refine⟨_,ls,rfl,h2,⟨some a,cap,by rw[h1],Q0,λ_ _=>trivial,by rw[h3,h1],λhl=>?_⟩,Q0⟩
 have hpos:0<len*sz:=Nat.mul_pos Q0 h0
 have hc0:=h4 0 hpos
 have hsp:a.spot=none:=by
  cases hs:a.spot with
  |none=>rfl
  |some q=>
   have e0:a.add 0=a:=by simp[Addr.add]
   rw[e0,List.getElem?_eq_getElem Q0] at hc0
   simp only[World.cell?,hs] at hc0
   split at hc0<;>simp at hc0
 obtain⟨b,o,spt⟩:=a
 simp only at hsp
 subst hsp
 have hadd:∀i,(⟨b,o,none⟩:Addr).add i=⟨b,o+i,none⟩:=λi=>ZbX b o i
 rw[hadd,List.getElem?_eq_getElem Q0] at hc0
 cases hb:w.heap[b]? with
 |none=>simp[World.cell?,hb] at hc0
 |some ob=>
  cases ob with
  |cells cs t fz=>
   refine⟨b,o,cs.toList,t,fz,rfl,by simpa using hb,?_⟩
   have hcell:∀i,i<len*sz->cs[o+i]? =(encL encE ls)[i]? :=λi hi=>by
    have:=h4 i hi
    rw[hadd] at this
    simpa[World.cell?,hb] using this
   have hle:o+len*sz<=cs.toList.length:=by
    have:=hcell (len*sz-1) Q0
    rw[List.getElem?_eq_getElem Q0] at this
    have:=(Array.getElem?_eq_some_iff.1 this).1
    simp only[Array.length_toList]
    omega
   rw[h1,Zoj,if_pos hle]
   congr 1
   apply List.ext_getElem?
   intro i
   rcases Nat.lt_or_ge i (len*sz) with hi|hi
   ·rw[List.getElem?_take_of_lt hi,List.getElem?_drop,Array.getElem?_toList,hcell i hi]
   ·rw[List.getElem?_eq_none (by simp;omega),List.getElem?_eq_none Q0]
  | _=>simp[World.cell?,hb] at hc0
end
structure DstV where
 dip:List Int
 dbits:Int
 sip:List Int
 sbits:Int
 rt:Int
 deriving DecidableEq
def dvC(o:DstV):List Value:=pfC o.dip o.dbits++(pfC o.sip o.sbits++([.int .u64 o.rt]))
def IsDv(o:DstV):Prop:=IsIP o.dip/\IsIP o.sip
theorem vA1(h:p:=by
  obtain⟨_,_,_,_,_,_,_,_,_,_,_,_,_,_,_,_,e0⟩:=ZdR (show f_dip.length=16 from(h.1).len)
  obtain⟨_,_,_,_,_,_,_,_,_,_,_,_,_,_,_,_,e1⟩:=ZdR (show f_sip.length=16 from(h.2).len)
  subst e0
  subst e1
  rfl):p:=h
theorem Zbl{o:DstV}(h:IsDv o):(dvC o).length=35:=by
 obtain⟨f_dip,f_dbits,f_sip,f_sbits,f_rt⟩:=o
 exact vA1
theorem Zcx{o:DstV}(h:IsDv o):seg (dvC o) 0 35=some (dvC o):=ZbH (Zbl h)
theorem Zrn{o:DstV}(h:IsDv o):seg (dvC o) 0 17=some (pfC o.dip o.dbits):=by
 obtain⟨f_dip,f_dbits,f_sip,f_sbits,f_rt⟩:=o
 exact vA1
theorem ZuA{o:DstV}(h:IsDv o):seg (dvC o) 0 16=some (ipC o.dip):=by
 obtain⟨f_dip,f_dbits,f_sip,f_sbits,f_rt⟩:=o
 exact vA1
theorem Zke{o:DstV}(h:IsDv o):nth (dvC o) 16=some (.int .i64 o.dbits):=by
 obtain⟨f_dip,f_dbits,f_sip,f_sbits,f_rt⟩:=o
 exact vA1
theorem Zrl{o:DstV}(h:IsDv o):seg (dvC o) 17 17=some (pfC o.sip o.sbits):=by
 obtain⟨f_dip,f_dbits,f_sip,f_sbits,f_rt⟩:=o
 exact vA1
theorem Zuy{o:DstV}(h:IsDv o):seg (dvC o) 17 16=some (ipC o.sip):=by
 obtain⟨f_dip,f_dbits,f_sip,f_sbits,f_rt⟩:=o
 exact vA1
theorem Zkd{o:DstV}(h:IsDv o):nth (dvC o) 33=some (.int .i64 o.sbits):=by
 obtain⟨f_dip,f_dbits,f_sip,f_sbits,f_rt⟩:=o
 exact vA1
theorem vCL(h:p:=by
  obtain⟨z0,z1,z2,z3,z4,z5,z6,z7,z8,z9,z10,z11,z12,z13,z14,z15,ez⟩:=ZdR hz.len
  subst ez
  rfl):p:=h
theorem ZoN{o:DstV}(h:IsDv o){z:List Int}(hz:IsIP z)(y:Int):put (dvC o) 17 (pfC z y)=some (dvC {o with sip:=z,sbits:=y}):=by
 obtain⟨f_dip,f_dbits,f_sip,f_sbits,f_rt⟩:=o
 obtain⟨_,_,_,_,_,_,_,_,_,_,_,_,_,_,_,_,e0⟩:=ZdR (show f_dip.length=16 from(h.1).len)
 obtain⟨_,_,_,_,_,_,_,_,_,_,_,_,_,_,_,_,e1⟩:=ZdR (show f_sip.length=16 from(h.2).len)
 subst e0
 subst e1
 exact vCL
theorem Zrm{o:DstV}(h:IsDv o):nth (dvC o) 34=some (.int .u64 o.rt):=by
 obtain⟨f_dip,f_dbits,f_sip,f_sbits,f_rt⟩:=o
 exact vA1
theorem Zek(o:DstV):(dvC o).all (·.oneCell')=true:=by
 simp[pfC,ipC,dvC,Value.oneCell']
def dvZ:List Value:=[.int .u8 0, .int .u8 0, .int .u8 0, .int .u8 0, .int .u8 0, .int .u8 0, .int .u8 0, .int .u8 0, .int .u8 0, .int .u8 0, .int .u8 0, .int .u8 0, .int .u8 0, .int .u8 0, .int .u8 0, .int .u8 0, .int .i64 0, .int .u8 0, .int .u8 0, .int .u8 0, .int .u8 0, .int .u8 0, .int .u8 0, .int .u8 0, .int .u8 0, .int .u8 0, .int .u8 0, .int .u8 0, .int .u8 0, .int .u8 0, .int .u8 0, .int .u8 0, .int .u8 0, .int .i64 0, .int .u64 0]
theorem Ztq{o:DstV}(h:IsDv o):ZaD [(0,17),(17,17),(34,1)] dvZ [(0,pfC o.dip o.dbits),(1,pfC o.sip o.sbits),(2,[.int .u64 o.rt])]=some (dvC o):=by
 obtain⟨f_dip,f_dbits,f_sip,f_sbits,f_rt⟩:=o
 exact vA1
theorem ZeE{o:DstV}(h:IsDv o):ZaD (Zcu 1 35) (Zc4 dvZ (1*35)) [(0,dvC o)]=some (dvC o):=by
 obtain⟨f_dip,f_dbits,f_sip,f_sbits,f_rt⟩:=o
 exact vA1
abbrev dvK:List LK:=[.i .u8, .i .u8, .i .u8, .i .u8, .i .u8, .i .u8, .i .u8, .i .u8, .i .u8, .i .u8, .i .u8, .i .u8, .i .u8, .i .u8, .i .u8, .i .u8, .i .i64, .i .u8, .i .u8, .i .u8, .i .u8, .i .u8, .i .u8, .i .u8, .i .u8, .i .u8, .i .u8, .i .u8, .i .u8, .i .u8, .i .u8, .i .u8, .i .u8, .i .i64, .i .u64]
theorem ZaG{o:DstV}(h:IsDv o):ZaZ dvK (dvC o)=true:=by
 obtain⟨f_dip,f_dbits,f_sip,f_sbits,f_rt⟩:=o
 exact vA1
theorem vA8(h:p:=by
  simp[eqVs,eqV,Bool.and_eq_true,beq_iff_eq,Bool.and_true,and_assoc,decide_eq_true_eq,List.cons_append,List.nil_append]):p:=h
theorem Zc3{a b:DstV}(ha:IsDv a)(hb:IsDv b):eqVs (dvC a) (dvC b)=decide (a=b):=by
 have l0:a.dip.length=b.dip.length:=by rw[(ha.1).len,(hb.1).len]
 have l1:a.sip.length=b.sip.length:=by rw[(ha.2).len,(hb.2).len]
 rw[Bool.eq_iff_iff,decide_eq_true_eq]
 obtain⟨a_dip,a_dbits,a_sip,a_sbits,a_rt⟩:=a
 obtain⟨b_dip,b_dbits,b_sip,b_sbits,b_rt⟩:=b
 dsimp only at l0 l1
 simp only[dvC,DstV.mk.injEq]
 rw[ZaL _ _ _ _ (by first|rfl|assumption|(simp[pfC,ipC];assumption))]
 rw[ZaL _ _ _ _ (by first|rfl|assumption|(simp[pfC,ipC];assumption))]
 rw[Ziu l0]
 rw[Ziu l1]
 exact vA8
abbrev dvsC(l:List DstV):List Value:=encL dvC l
theorem Ziw{l:List DstV}(h:∀x∈l,IsDv x):∀x∈l,(dvC x).length=35:=λx hx=>Zbl (h x hx)
structure DisV where
 seq:Int
 met:Int
 deriving DecidableEq
def diC(o:DisV):List Value:=[.int .u16 o.seq, .int .i64 o.met]
def IsDi(o:DisV):Prop:=True
theorem ZbE{o:DisV}(h:IsDi o):(diC o).length=2:=by
 obtain⟨f_seq,f_met⟩:=o
 rfl
theorem ZbR{o:DisV}(h:IsDi o):seg (diC o) 0 2=some (diC o):=ZbH (ZbE h)
theorem Zrp{o:DisV}(h:IsDi o):nth (diC o) 0=some (.int .u16 o.seq):=by
 obtain⟨f_seq,f_met⟩:=o
 rfl
theorem ZgE{o:DisV}(h:IsDi o):nth (diC o) 1=some (.int .i64 o.met):=by
 obtain⟨f_seq,f_met⟩:=o
 rfl
theorem Ze8(o:DisV):(diC o).all (·.oneCell')=true:=by
 simp[pfC,ipC,diC,Value.oneCell']
def diZ:List Value:=[.int .u16 0, .int .i64 0]
abbrev diK:List LK:=[.i .u16, .i .i64]
theorem Zg9{o:DisV}(h:IsDi o):ZaZ diK (diC o)=true:=by
 obtain⟨f_seq,f_met⟩:=o
 rfl
theorem Zki{a b:DisV}(ha:IsDi a)(hb:IsDi b):eqVs (diC a) (diC b)=decide (a=b):=by
 rw[Bool.eq_iff_iff,decide_eq_true_eq]
 obtain⟨a_seq,a_met⟩:=a
 obtain⟨b_seq,b_met⟩:=b
 simp only[diC,DisV.mk.injEq]
 exact vA8
structure AdvV where
 to:DstV
 own:DisV
 deriving DecidableEq
def avC(o:AdvV):List Value:=dvC o.to++(diC o.own)
def IsAv(o:AdvV):Prop:=IsDv o.to/\IsDi o.own
theorem vA0(h:p:=by
  obtain⟨_,_,_,_,_,_,_,_,_,_,_,_,_,_,_,_,e0⟩:=ZdR (show f_to_dip.length=16 from(h.1.1).len)
  obtain⟨_,_,_,_,_,_,_,_,_,_,_,_,_,_,_,_,e1⟩:=ZdR (show f_to_sip.length=16 from(h.1.2).len)
  subst e0
  subst e1
  rfl):p:=h
theorem Zcy{o:AdvV}(h:IsAv o):(avC o).length=37:=by
 obtain⟨⟨f_to_dip,f_to_dbits,f_to_sip,f_to_sbits,f_to_rt⟩,⟨f_own_seq,f_own_met⟩⟩:=o
 exact vA0
theorem ZjA{o:AdvV}(h:IsAv o):seg (avC o) 0 37=some (avC o):=ZbH (Zcy h)
theorem Zft{o:AdvV}(h:IsAv o):seg (avC o) 0 35=some (dvC o.to):=by
 obtain⟨⟨f_to_dip,f_to_dbits,f_to_sip,f_to_sbits,f_to_rt⟩,⟨f_own_seq,f_own_met⟩⟩:=o
 exact vA0
theorem ZgH{o:AdvV}(h:IsAv o):seg (avC o) 35 2=some (diC o.own):=by
 obtain⟨⟨f_to_dip,f_to_dbits,f_to_sip,f_to_sbits,f_to_rt⟩,⟨f_own_seq,f_own_met⟩⟩:=o
 exact vA0
theorem Zjz{o:AdvV}(h:IsAv o):nth (avC o) 35=some (.int .u16 o.own.seq):=by
 obtain⟨⟨f_to_dip,f_to_dbits,f_to_sip,f_to_sbits,f_to_rt⟩,⟨f_own_seq,f_own_met⟩⟩:=o
 exact vA0
theorem ZdY{o:AdvV}(h:IsAv o):nth (avC o) 36=some (.int .i64 o.own.met):=by
 obtain⟨⟨f_to_dip,f_to_dbits,f_to_sip,f_to_sbits,f_to_rt⟩,⟨f_own_seq,f_own_met⟩⟩:=o
 exact vA0
theorem vB9(h:p:=by
  obtain⟨_,_,_,_,_,_,_,_,_,_,_,_,_,_,_,_,e0⟩:=ZdR (show f_to_dip.length=16 from(h.1.1).len)
  obtain⟨_,_,_,_,_,_,_,_,_,_,_,_,_,_,_,_,e1⟩:=ZdR (show f_to_sip.length=16 from(h.1.2).len)
  subst e0
  subst e1
  obtain⟨z_seq,z_met⟩:=z
  rfl):p:=h
theorem ZoV{o:AdvV}(h:IsAv o){z:DisV}(hz:IsDi z):put (avC o) 35 (diC z)=some (avC {o with own:=z}):=by
 obtain⟨⟨f_to_dip,f_to_dbits,f_to_sip,f_to_sbits,f_to_rt⟩,⟨f_own_seq,f_own_met⟩⟩:=o
 exact vB9
theorem ZfO{o:AdvV}(h:IsAv o)(z:Int):put (avC o) 36 [.int .i64 z]=some (avC {o with own:= {o.own with met:=z}}):=by
 obtain⟨⟨f_to_dip,f_to_dbits,f_to_sip,f_to_sbits,f_to_rt⟩,⟨f_own_seq,f_own_met⟩⟩:=o
 exact vA0
theorem Zco(o:AdvV):(avC o).all (·.oneCell')=true:=by
 simp[pfC,ipC,avC,dvC,diC,Value.oneCell']
def avZ:List Value:=[.int .u8 0, .int .u8 0, .int .u8 0, .int .u8 0, .int .u8 0, .int .u8 0, .int .u8 0, .int .u8 0, .int .u8 0, .int .u8 0, .int .u8 0, .int .u8 0, .int .u8 0, .int .u8 0, .int .u8 0, .int .u8 0, .int .i64 0, .int .u8 0, .int .u8 0, .int .u8 0, .int .u8 0, .int .u8 0, .int .u8 0, .int .u8 0, .int .u8 0, .int .u8 0, .int .u8 0, .int .u8 0, .int .u8 0, .int .u8 0, .int .u8 0, .int .u8 0, .int .u8 0, .int .i64 0, .int .u64 0, .int .u16 0, .int .i64 0]
theorem Zn5{o:AdvV}(h:IsAv o):ZaD [(0,35),(35,2)] avZ [(0,dvC o.to),(1,diC o.own)]=some (avC o):=by
 obtain⟨⟨f_to_dip,f_to_dbits,f_to_sip,f_to_sbits,f_to_rt⟩,⟨f_own_seq,f_own_met⟩⟩:=o
 exact vA0
theorem ZbS{o:AdvV}(h:IsAv o):ZaD (Zcu 1 37) (Zc4 avZ (1*37)) [(0,avC o)]=some (avC o):=by
 obtain⟨⟨f_to_dip,f_to_dbits,f_to_sip,f_to_sbits,f_to_rt⟩,⟨f_own_seq,f_own_met⟩⟩:=o
 exact vA0
abbrev avK:List LK:=[.i .u8, .i .u8, .i .u8, .i .u8, .i .u8, .i .u8, .i .u8, .i .u8, .i .u8, .i .u8, .i .u8, .i .u8, .i .u8, .i .u8, .i .u8, .i .u8, .i .i64, .i .u8, .i .u8, .i .u8, .i .u8, .i .u8, .i .u8, .i .u8, .i .u8, .i .u8, .i .u8, .i .u8, .i .u8, .i .u8, .i .u8, .i .u8, .i .u8, .i .i64, .i .u64, .i .u16, .i .i64]
theorem Zw7{o:AdvV}(h:IsAv o):ZaZ avK (avC o)=true:=by
 obtain⟨⟨f_to_dip,f_to_dbits,f_to_sip,f_to_sbits,f_to_rt⟩,⟨f_own_seq,f_own_met⟩⟩:=o
 exact vA0
theorem ZAk{a b:AdvV}(ha:IsAv a)(hb:IsAv b):eqVs (avC a) (avC b)=decide (a=b):=by
 have l0:=Zc3 (ha.1) (hb.1)
 have m0:(dvC a.to).length=(dvC b.to).length:=by rw[Zbl (ha.1),Zbl (hb.1)]
 have l1:=Zki (ha.2) (hb.2)
 have m1:(diC a.own).length=(diC b.own).length:=by rw[ZbE (ha.2),ZbE (hb.2)]
 rw[Bool.eq_iff_iff,decide_eq_true_eq]
 obtain⟨a_to,a_own⟩:=a
 obtain⟨b_to,b_own⟩:=b
 dsimp only at l0 l1 m0 m1
 simp only[avC,AdvV.mk.injEq]
 rw[ZaL _ _ _ _ (by first|rfl|assumption|(simp[pfC,ipC];assumption))]
 rw[l0]
 rw[l1]
 exact vA8
abbrev avsC(l:List AdvV):List Value:=encL avC l
theorem ZbV{l:List AdvV}(h:∀x∈l,IsAv x):∀x∈l,(avC x).length=37:=λx hx=>Zcy (h x hx)
theorem Zkw{l:List AdvV}:(avsC l).all (·.oneCell')=true:=Ze2 λx _=>Zco x
structure InsV where
 to:DstV
 nb:Int
 own:DisV
 btn:Int
 til:Int
 deriving DecidableEq
def inC(o:InsV):List Value:=dvC o.to++([.int .u64 o.nb]++(diC o.own++([.int .i64 o.btn, .int .i64 o.til])))
def IsIn(o:InsV):Prop:=IsDv o.to/\IsDi o.own
theorem Zbu{o:InsV}(h:IsIn o):(inC o).length=40:=by
 obtain⟨⟨f_to_dip,f_to_dbits,f_to_sip,f_to_sbits,f_to_rt⟩,f_nb,⟨f_own_seq,f_own_met⟩,f_btn,f_til⟩:=o
 exact vA0
theorem Zfl{o:InsV}(h:IsIn o):seg (inC o) 0 40=some (inC o):=ZbH (Zbu h)
theorem Zgu{o:InsV}(h:IsIn o):seg (inC o) 0 35=some (dvC o.to):=by
 obtain⟨⟨f_to_dip,f_to_dbits,f_to_sip,f_to_sbits,f_to_rt⟩,f_nb,⟨f_own_seq,f_own_met⟩,f_btn,f_til⟩:=o
 exact vA0
theorem Zs5{o:InsV}(h:IsIn o):nth (inC o) 34=some (.int .u64 o.to.rt):=by
 obtain⟨⟨f_to_dip,f_to_dbits,f_to_sip,f_to_sbits,f_to_rt⟩,f_nb,⟨f_own_seq,f_own_met⟩,f_btn,f_til⟩:=o
 exact vA0
theorem ZqT{o:InsV}(h:IsIn o){z:DstV}(hz:IsDv z):put (inC o) 0 (dvC z)=some (inC {o with to:=z}):=by
 obtain⟨⟨f_to_dip,f_to_dbits,f_to_sip,f_to_sbits,f_to_rt⟩,f_nb,⟨f_own_seq,f_own_met⟩,f_btn,f_til⟩:=o
 obtain⟨_,_,_,_,_,_,_,_,_,_,_,_,_,_,_,_,e0⟩:=ZdR (show f_to_dip.length=16 from(h.1.1).len)
 obtain⟨_,_,_,_,_,_,_,_,_,_,_,_,_,_,_,_,e1⟩:=ZdR (show f_to_sip.length=16 from(h.1.2).len)
 subst e0
 subst e1
 obtain⟨z_dip,z_dbits,z_sip,z_sbits,z_rt⟩:=z
 obtain⟨y0_0,y0_1,y0_2,y0_3,y0_4,y0_5,y0_6,y0_7,y0_8,y0_9,y0_10,y0_11,y0_12,y0_13,y0_14,y0_15,g0⟩:=ZdR (show z_dip.length=16 from(hz.1).len)
 obtain⟨y1_0,y1_1,y1_2,y1_3,y1_4,y1_5,y1_6,y1_7,y1_8,y1_9,y1_10,y1_11,y1_12,y1_13,y1_14,y1_15,g1⟩:=ZdR (show z_sip.length=16 from(hz.2).len)
 subst g0
 subst g1
 rfl
theorem Zs6{o:InsV}(h:IsIn o):nth (inC o) 35=some (.int .u64 o.nb):=by
 obtain⟨⟨f_to_dip,f_to_dbits,f_to_sip,f_to_sbits,f_to_rt⟩,f_nb,⟨f_own_seq,f_own_met⟩,f_btn,f_til⟩:=o
 exact vA0
theorem Zk7{o:InsV}(h:IsIn o)(z:Int):put (inC o) 35 [.int .u64 z]=some (inC {o with nb:=z}):=by
 obtain⟨⟨f_to_dip,f_to_dbits,f_to_sip,f_to_sbits,f_to_rt⟩,f_nb,⟨f_own_seq,f_own_met⟩,f_btn,f_til⟩:=o
 exact vA0
theorem Zuk{o:InsV}(h:IsIn o):seg (inC o) 36 2=some (diC o.own):=by
 obtain⟨⟨f_to_dip,f_to_dbits,f_to_sip,f_to_sbits,f_to_rt⟩,f_nb,⟨f_own_seq,f_own_met⟩,f_btn,f_til⟩:=o
 exact vA0
theorem Zjf{o:InsV}(h:IsIn o):nth (inC o) 36=some (.int .u16 o.own.seq):=by
 obtain⟨⟨f_to_dip,f_to_dbits,f_to_sip,f_to_sbits,f_to_rt⟩,f_nb,⟨f_own_seq,f_own_met⟩,f_btn,f_til⟩:=o
 exact vA0
theorem Zjg{o:InsV}(h:IsIn o):nth (inC o) 37=some (.int .i64 o.own.met):=by
 obtain⟨⟨f_to_dip,f_to_dbits,f_to_sip,f_to_sbits,f_to_rt⟩,f_nb,⟨f_own_seq,f_own_met⟩,f_btn,f_til⟩:=o
 exact vA0
theorem ZoJ{o:InsV}(h:IsIn o){z:DisV}(hz:IsDi z):put (inC o) 36 (diC z)=some (inC {o with own:=z}):=by
 obtain⟨⟨f_to_dip,f_to_dbits,f_to_sip,f_to_sbits,f_to_rt⟩,f_nb,⟨f_own_seq,f_own_met⟩,f_btn,f_til⟩:=o
 exact vB9
theorem ZiH{o:InsV}(h:IsIn o)(z:Int):put (inC o) 37 [.int .i64 z]=some (inC {o with own:= {o.own with met:=z}}):=by
 obtain⟨⟨f_to_dip,f_to_dbits,f_to_sip,f_to_sbits,f_to_rt⟩,f_nb,⟨f_own_seq,f_own_met⟩,f_btn,f_til⟩:=o
 exact vA0
theorem Zum{o:InsV}(h:IsIn o):nth (inC o) 38=some (.int .i64 o.btn):=by
 obtain⟨⟨f_to_dip,f_to_dbits,f_to_sip,f_to_sbits,f_to_rt⟩,f_nb,⟨f_own_seq,f_own_met⟩,f_btn,f_til⟩:=o
 exact vA0
theorem ZoK{o:InsV}(h:IsIn o)(z:Int):put (inC o) 38 [.int .i64 z]=some (inC {o with btn:=z}):=by
 obtain⟨⟨f_to_dip,f_to_dbits,f_to_sip,f_to_sbits,f_to_rt⟩,f_nb,⟨f_own_seq,f_own_met⟩,f_btn,f_til⟩:=o
 exact vA0
theorem Zuj{o:InsV}(h:IsIn o):nth (inC o) 39=some (.int .i64 o.til):=by
 obtain⟨⟨f_to_dip,f_to_dbits,f_to_sip,f_to_sbits,f_to_rt⟩,f_nb,⟨f_own_seq,f_own_met⟩,f_btn,f_til⟩:=o
 exact vA0
theorem ZoI{o:InsV}(h:IsIn o)(z:Int):put (inC o) 39 [.int .i64 z]=some (inC {o with til:=z}):=by
 obtain⟨⟨f_to_dip,f_to_dbits,f_to_sip,f_to_sbits,f_to_rt⟩,f_nb,⟨f_own_seq,f_own_met⟩,f_btn,f_til⟩:=o
 exact vA0
theorem ZcE(o:InsV):(inC o).all (·.oneCell')=true:=by
 simp[pfC,ipC,inC,dvC,diC,Value.oneCell']
def inZ:List Value:=[.int .u8 0, .int .u8 0, .int .u8 0, .int .u8 0, .int .u8 0, .int .u8 0, .int .u8 0, .int .u8 0, .int .u8 0, .int .u8 0, .int .u8 0, .int .u8 0, .int .u8 0, .int .u8 0, .int .u8 0, .int .u8 0, .int .i64 0, .int .u8 0, .int .u8 0, .int .u8 0, .int .u8 0, .int .u8 0, .int .u8 0, .int .u8 0, .int .u8 0, .int .u8 0, .int .u8 0, .int .u8 0, .int .u8 0, .int .u8 0, .int .u8 0, .int .u8 0, .int .u8 0, .int .i64 0, .int .u64 0, .int .u64 0, .int .u16 0, .int .i64 0, .int .i64 0, .int .i64 0]
theorem Zs7{o:InsV}(h:IsIn o):ZaD [(0,35),(35,1),(36,2),(38,1),(39,1)] inZ [(0,dvC o.to),(1,[.int .u64 o.nb]),(2,diC o.own),(3,[.int .i64 o.btn]),(4,[.int .i64 o.til])]=some (inC o):=by
 obtain⟨⟨f_to_dip,f_to_dbits,f_to_sip,f_to_sbits,f_to_rt⟩,f_nb,⟨f_own_seq,f_own_met⟩,f_btn,f_til⟩:=o
 exact vA0
theorem Zcw{o:InsV}(h:IsIn o):ZaD (Zcu 1 40) (Zc4 inZ (1*40)) [(0,inC o)]=some (inC o):=by
 obtain⟨⟨f_to_dip,f_to_dbits,f_to_sip,f_to_sbits,f_to_rt⟩,f_nb,⟨f_own_seq,f_own_met⟩,f_btn,f_til⟩:=o
 exact vA0
abbrev inK:List LK:=[.i .u8, .i .u8, .i .u8, .i .u8, .i .u8, .i .u8, .i .u8, .i .u8, .i .u8, .i .u8, .i .u8, .i .u8, .i .u8, .i .u8, .i .u8, .i .u8, .i .i64, .i .u8, .i .u8, .i .u8, .i .u8, .i .u8, .i .u8, .i .u8, .i .u8, .i .u8, .i .u8, .i .u8, .i .u8, .i .u8, .i .u8, .i .u8, .i .u8, .i .i64, .i .u64, .i .u64, .i .u16, .i .i64, .i .i64, .i .i64]
theorem Zwh{o:InsV}(h:IsIn o):ZaZ inK (inC o)=true:=by
 obtain⟨⟨f_to_dip,f_to_dbits,f_to_sip,f_to_sbits,f_to_rt⟩,f_nb,⟨f_own_seq,f_own_met⟩,f_btn,f_til⟩:=o
 exact vA0
theorem ZAa{a b:InsV}(ha:IsIn a)(hb:IsIn b):eqVs (inC a) (inC b)=decide (a=b):=by
 have l0:=Zc3 (ha.1) (hb.1)
 have m0:(dvC a.to).length=(dvC b.to).length:=by rw[Zbl (ha.1),Zbl (hb.1)]
 have l1:=Zki (ha.2) (hb.2)
 have m1:(diC a.own).length=(diC b.own).length:=by rw[ZbE (ha.2),ZbE (hb.2)]
 rw[Bool.eq_iff_iff,decide_eq_true_eq]
 obtain⟨a_to,a_nb,a_own,a_btn,a_til⟩:=a
 obtain⟨b_to,b_nb,b_own,b_btn,b_til⟩:=b
 dsimp only at l0 l1 m0 m1
 simp only[inC,InsV.mk.injEq]
 rw[ZaL _ _ _ _ (by first|rfl|assumption|(simp[pfC,ipC];assumption))]
 rw[ZaL _ _ _ _ (by first|rfl|assumption|(simp[pfC,ipC];assumption))]
 rw[ZaL _ _ _ _ (by first|rfl|assumption|(simp[pfC,ipC];assumption))]
 rw[l0]
 rw[l1]
 exact vA8
abbrev insC(l:List InsV):List Value:=encL inC l
theorem ZbU{l:List InsV}(h:∀x∈l,IsIn x):∀x∈l,(inC x).length=40:=λx hx=>Zbu (h x hx)
theorem ZqQ{l:List InsV}:(insC l).all (·.oneCell')=true:=Ze2 λx _=>ZcE x
instance {o:DstV}:SegC (dvC o) 0 35 (dvC o) (IsDv o):=⟨Zcx⟩
instance {o:DstV}:SegC (dvC o) 0 17 (pfC o.dip o.dbits) (IsDv o):=⟨Zrn⟩
instance {o:DstV}:NthC (dvC o) 16 (.int .i64 o.dbits) (IsDv o):=⟨Zke⟩
instance {o:DstV}:SegC (dvC o) 17 17 (pfC o.sip o.sbits) (IsDv o):=⟨Zrl⟩
instance {o:DstV}:NthC (dvC o) 33 (.int .i64 o.sbits) (IsDv o):=⟨Zkd⟩
instance {o:DstV}:NthC (dvC o) 34 (.int .u64 o.rt) (IsDv o):=⟨Zrm⟩
instance {o:DisV}:SegC (diC o) 0 2 (diC o) (IsDi o):=⟨ZbR⟩
instance {o:DisV}:NthC (diC o) 0 (.int .u16 o.seq) (IsDi o):=⟨Zrp⟩
instance {o:DisV}:NthC (diC o) 1 (.int .i64 o.met) (IsDi o):=⟨ZgE⟩
instance {o:AdvV}:SegC (avC o) 0 37 (avC o) (IsAv o):=⟨ZjA⟩
instance {o:AdvV}:SegC (avC o) 0 35 (dvC o.to) (IsAv o):=⟨Zft⟩
instance {o:AdvV}:SegC (avC o) 35 2 (diC o.own) (IsAv o):=⟨ZgH⟩
instance {o:AdvV}:NthC (avC o) 35 (.int .u16 o.own.seq) (IsAv o):=⟨Zjz⟩
instance {o:AdvV}:NthC (avC o) 36 (.int .i64 o.own.met) (IsAv o):=⟨ZdY⟩
instance {o:InsV}:SegC (inC o) 0 40 (inC o) (IsIn o):=⟨Zfl⟩
instance {o:InsV}:SegC (inC o) 0 35 (dvC o.to) (IsIn o):=⟨Zgu⟩
instance {o:InsV}:NthC (inC o) 34 (.int .u64 o.to.rt) (IsIn o):=⟨Zs5⟩
instance {o:InsV}:NthC (inC o) 35 (.int .u64 o.nb) (IsIn o):=⟨Zs6⟩
instance {o:InsV}:SegC (inC o) 36 2 (diC o.own) (IsIn o):=⟨Zuk⟩
instance {o:InsV}:NthC (inC o) 36 (.int .u16 o.own.seq) (IsIn o):=⟨Zjf⟩
instance {o:InsV}:NthC (inC o) 37 (.int .i64 o.own.met) (IsIn o):=⟨Zjg⟩
instance {o:InsV}:NthC (inC o) 38 (.int .i64 o.btn) (IsIn o):=⟨Zum⟩
instance {o:InsV}:NthC (inC o) 39 (.int .i64 o.til) (IsIn o):=⟨Zuj⟩
instance {o:DstV}:EncC (dvC o) 35 (IsDv o):=⟨Zbl,Zek _⟩
instance {o:DisV}:EncC (diC o) 2 (IsDi o):=⟨ZbE,Ze8 _⟩
instance {o:AdvV}:EncC (avC o) 37 (IsAv o):=⟨Zcy,Zco _⟩
instance {o:InsV}:EncC (inC o) 40 (IsIn o):=⟨Zbu,ZcE _⟩
end
section
def keyD(d:DstV):List Int:=d.dip++(d.dbits::(d.sip++[d.sbits,d.rt]))
def cmpD(a b:DstV):Int:=cmpL (keyD a) (keyD b)
theorem Za0(a:DstV):cmpD a a=0:=Ziy _
theorem ZbJ(a b:DstV):cmpD b a= -cmpD a b:=Zfo _ _
theorem Za6{a b c:DstV}(h:cmpD a b<0)(k:cmpD b c<0):cmpD a c<0:=Zde h k
theorem Zcg{a b:DstV}(ha:IsDv a)(hb:IsDv b)(h:cmpD a b=0):a=b:=by
 have h1:=Zix h
 obtain⟨d1,d2,s1,s2,r⟩:=a
 obtain⟨e1,e2,t1,t2,q⟩:=b
 simp only[keyD] at h1
 obtain⟨h2,h3⟩:=List.append_inj h1 (by rw[(show IsIP d1 from ha.1).len,(show IsIP e1 from hb.1).len])
 simp only[List.cons.injEq] at h3
 obtain⟨h4,h5⟩:=List.append_inj h3.2 (by rw[(show IsIP s1 from ha.2).len,(show IsIP t1 from hb.2).len])
 simp only[List.cons.injEq,and_true] at h5
 rw[h2,h3.1,h4,h5.1,h5.2]
theorem Zkp{a b:DstV}(ha:IsDv a)(hb:IsDv b):cmpD a b=0↔a=b:=⟨Zcg ha hb,λh=>by rw[h];exact Za0 b⟩
def cmpI(a b:Int):Int:=if a<b then-1 else if b<a then 1 else 0
def orI(a b:Int):Int:=if a=0 then b else a
theorem ZeF(x y:Int)(xs ys:List Int):cmpL (x::xs) (y::ys)=orI (cmpI x y) (cmpL xs ys):=by
 simp only[cmpL,orI,cmpI]
 split
 ·rfl
 ·split<;>rfl
theorem ZhK:∀(xs ys us vs:List Int),xs.length=ys.length->cmpL (xs++us) (ys++vs)=orI (cmpL xs ys) (cmpL us vs)
 |[],[],_,_,_=>rfl
 |x::xs,y::ys,us,vs,h=>by
  rw[List.cons_append,List.cons_append,ZeF,ZeF,ZhK xs ys us vs (by simpa using h)]
  simp only[orI]
  split<;>simp_all
 |[],_::_,_,_,h=>by cases h
 | _::_,[],_,_,h=>by cases h
theorem ZrA{a b:DstV}(ha:IsDv a)(hb:IsDv b):cmpD a b=orI (cmpL a.dip b.dip) (orI (cmpI a.dbits b.dbits) (orI (cmpL a.sip b.sip) (orI (cmpI a.sbits b.sbits) (cmpI a.rt b.rt)))):=by
 unfold cmpD keyD
 rw[ZhK _ _ _ _ (by rw[ha.1.len,hb.1.len]),ZeF,ZhK _ _ _ _ (by rw[ha.2.len,hb.2.len]),ZeF,ZeF]
 congr 4
 simp only[cmpL,orI,cmpI]
 split<;>simp_all
section asc
variable {α:Type} (key:α->DstV)
def AscK(l:List α):Prop:=l.Pairwise λa b=>cmpD (key a) (key b)<0
theorem Ze3:∀(az bs:List α),AscK key az->AscK key bs->(∀x,x∈az↔x∈bs)->az=bs
 |[],bs,_,_,h=>by
  cases bs with
  |nil=>rfl
  |cons b bs=>have:=(h b).2 Q5;cases this
 |a::az,[],_,_,h=>by have:=(h a).1 Q5;cases this
 |a::az,b::bs,ha,hb,h=>by
  obtain⟨ha1,ha2⟩:=List.pairwise_cons.1 ha
  obtain⟨hb1,hb2⟩:=List.pairwise_cons.1 hb
  have hab:a=b:=by
   rcases List.mem_cons.1 ((h a).1 Q5) with h1|h1
   ·exact h1
   ·rcases List.mem_cons.1 ((h b).2 Q5) with h2|h2
    ·exact h2.symm
    ·have h3:=hb1 a h1
     have h4:=ha1 b h2
     have:=ZbJ (key a) (key b)
     omega
  subst hab
  have hne:∀x,cmpD (key a) (key x)<0->x≠a:=λx hx e=>by rw[e,Za0] at hx;omega
  rw[Ze3 az bs ha2 hb2 λx=>⟨λhx=>by
   rcases List.mem_cons.1 ((h x).1 (by simp[hx])) with h1|h1
   ·exact absurd h1 (hne x (ha1 x hx))
   ·exact h1,λhx=>by
   rcases List.mem_cons.1 ((h x).2 (by simp[hx])) with h1|h1
   ·exact absurd h1 (hne x (hb1 x hx))
   ·exact h1⟩]
variable {key}
theorem AscK.key_inj{l:List α}(h:AscK key l){x y:α}(hx:x∈l)(hy:y∈l)(e:key x=key y):x=y:=by
 induction l with
 |nil=>cases hx
 |cons a l ih=>
  obtain⟨h1,h2⟩:=List.pairwise_cons.1 h
  rcases List.mem_cons.1 hx with ex|ex
  ·rcases List.mem_cons.1 hy with ey|ey
   ·rw[ex,ey]
   ·have:=h1 y ey
    rw[<-ex,e,Za0] at this
    omega
  ·rcases List.mem_cons.1 hy with ey|ey
   ·have:=h1 x ex
    rw[<-ey,e,Za0] at this
    omega
   ·exact ih h2 ex ey
theorem AscK.sub{l m:List α}(h:AscK key l)(hs:m.Sublist l):AscK key m:=List.Pairwise.sublist hs h
theorem AscK.filter{l:List α}(h:AscK key l)(f:α->Bool):AscK key (l.filter f):=h.sub List.filter_sublist
end asc
def inf:Int:=65535
def getO(l:List AdvV)(t:DstV):Option DisV:=(l.find? λa=>decide (a.to=t)).map (·.own)
abbrev AscA(l:List AdvV):Prop:=AscK AdvV.to l
theorem Zle{l:List AdvV}{t:DstV}:getO l t=none↔∀a∈l,a.to≠t:=by
 simp[getO]
theorem Zq5{l:List AdvV}(h:AscA l){t:DstV}{o:DisV}:getO l t=some o↔(⟨t,o⟩:AdvV)∈l:=by
 unfold getO
 constructor
 ·intro h1
  simp only[Option.map_eq_some_iff] at h1
  obtain⟨a,h2,rfl⟩:=h1
  have h3:=List.find?_some h2
  simp only[decide_eq_true_eq] at h3
  subst h3
  exact List.mem_of_find?_eq_some h2
 ·intro h1
  cases h2:l.find? λa=>decide (a.to=t) with
  |none=>
   have:=List.find?_eq_none.1 h2 _ h1
   simp at this
  |some b=>
   have h3:=List.find?_some h2
   simp only[decide_eq_true_eq] at h3
   have:=h.key_inj (List.mem_of_find?_eq_some h2) h1 h3
   subst this
   rfl
theorem Zs9{l:List AdvV}(h:AscA l){a:AdvV}(ha:a∈l):getO l a.to=some a.own:=(Zq5 h).2 ha
def Zb3(full:Bool)(T:List AdvV)(a:AdvV):Bool:=full||match getO T a.to with
 |some own=> !decide (own=a.own)
 |none=> !decide (a.own.met=inf)
def ZcP(l:List AdvV)(a:AdvV):Bool:=(getO l a.to).isNone&& !decide (a.own.met=inf)
def retr(a:AdvV):AdvV:= {a with own:= {a.own with met:=inf}}
def Zho(full:Bool)(T l:List AdvV):List AdvV:=l.filter (Zb3 full T)++(T.filter (ZcP l)).map retr
def mrg(full:Bool):List AdvV->List AdvV->List AdvV
 |[],[]=>[]
 |x::l,[]=>(if full|| !decide (x.own.met=inf) then [x] else [])++mrg full l []
 |[],y::t=>(if decide (y.own.met=inf) then [] else [retr y])++mrg full [] t
 |x::l,y::t=>
  if x.to=y.to then(if full|| !decide (y.own=x.own) then [x] else [])++mrg full l t
  else if cmpD x.to y.to<0 then(if full|| !decide (x.own.met=inf) then [x] else [])++mrg full l (y::t)
  else(if decide (y.own.met=inf) then [] else [retr y])++mrg full (x::l) t
termination_by l t => l.length + t.length
def Lo(d:DstV)(l:List AdvV):Prop:=∀x∈l,cmpD d x.to<0
theorem Lo.ne{d:DstV}{l:List AdvV}(h:Lo d l):getO l d=none:=Zle.2 λa ha e=>by
 have:=h a ha
 rw[e,Za0] at this
 omega
theorem Lo.trans{d e:DstV}{l:List AdvV}(h:Lo e l)(k:cmpD d e<0):Lo d l:=λx hx=>Za6 k (h x hx)
theorem ZqK{d:DstV}{x:AdvV}{l:List AdvV}(ha:AscA (x::l))(h:cmpD d x.to<0):Lo d (x::l):=λz hz=>by
 rcases List.mem_cons.1 hz with rfl|hz
 ·exact h
 ·exact Za6 h ((List.pairwise_cons.1 ha).1 z hz)
theorem ZdA(a:AdvV)(l:List AdvV)(t:DstV):getO (a::l) t=if a.to=t then some a.own else getO l t:=by
 unfold getO
 rw[List.find?_cons]
 by_cases h:a.to=t
 ·simp[h]
 ·simp[h]
theorem Zie{c:Bool}{x a:AdvV}:a∈(if c then [x] else [])↔c=true/\a=x:=by
 cases c<;>simp
theorem ZhA{c:Bool}{x a:AdvV}:a∈(if c then [] else [x])↔c=false/\a=x:=by
 cases c<;>simp
theorem vC2(h:p:=by
  intro z hz
  rcases List.mem_append.1 hz with hz|hz
  ·obtain⟨_,rfl⟩:=Zie.1 hz
   exact hd _ List.mem_cons_self
  ·exact hlo.trans (hd x List.mem_cons_self) z hz):p:=h
theorem ZeW(full:Bool):∀(l t:List AdvV),AscA l->AscA t->(∀x∈l,IsDv x.to)->(∀x∈t,IsDv x.to)->
  (∀a,a∈mrg full l t↔(a∈l/\Zb3 full t a=true)∨∃y∈t,ZcP l y=true/\a=retr y)/\AscA (mrg full l t)/\(∀d,Lo d l->Lo d t->Lo d (mrg full l t))
 |[],[],_,_,_,_=>by
  unfold mrg
  exact⟨λa=>by simp, .nil,λd _ _ x hx=>by cases hx⟩
 |x::l,[],hl,_,il,_=>by
  obtain⟨h1,h2⟩:=List.pairwise_cons.1 hl
  obtain⟨m1,m2,m3⟩:=ZeW full l [] h2 .nil (λz hz=>il z (List.mem_cons_of_mem _ hz)) (λz hz=>by cases hz)
  have hlo:Lo x.to (mrg full l []):=m3 _ (λz hz=>h1 z hz) (λz hz=>by cases hz)
  unfold mrg
  refine⟨λa=>?_,?_,λd hd _=>?_⟩
  ·rw[List.mem_append,m1,Zie]
   simp only[List.mem_cons,List.not_mem_nil,false_and,exists_false,or_false]
   constructor
   ·rintro(⟨c,rfl⟩|⟨ha,hk⟩)
    ·exact⟨.inl rfl,c⟩
    ·exact⟨.inr ha,hk⟩
   ·rintro⟨rfl|ha,hk⟩
    ·exact .inl ⟨hk,rfl⟩
    ·exact .inr ⟨ha,hk⟩
  ·split
   ·exact List.pairwise_cons.2 ⟨hlo,m2⟩
   ·simpa using m2
  ·intro z hz
   rcases List.mem_append.1 hz with hz|hz
   ·obtain⟨_,rfl⟩:=Zie.1 hz
    exact hd _ List.mem_cons_self
   ·exact m3 d (λz hz=>hd z (List.mem_cons_of_mem _ hz)) (λz hz=>by cases hz) z hz
 |[],y::t,_,ht,_,it=>by
  obtain⟨h1,h2⟩:=List.pairwise_cons.1 ht
  obtain⟨m1,m2,m3⟩:=ZeW full [] t .nil h2 (λz hz=>by cases hz) (λz hz=>it z (List.mem_cons_of_mem _ hz))
  have hlo:Lo y.to (mrg full [] t):=m3 _ (λz hz=>by cases hz) (λz hz=>h1 z hz)
  unfold mrg
  refine⟨λa=>?_,?_,λd _ hd=>?_⟩
  ·rw[List.mem_append,m1,ZhA]
   simp only[List.mem_cons,List.not_mem_nil,false_and,false_or,exists_eq_or_imp]
   have hd:∀z:AdvV,ZcP [] z= !decide (z.own.met=inf):=λz=>by simp[ZcP,getO]
   simp only[hd]
   constructor
   ·rintro(⟨c,rfl⟩|h)
    ·exact .inl ⟨by rw[c];rfl,rfl⟩
    ·exact .inr h
   ·rintro(⟨c,rfl⟩|h)
    ·exact .inl ⟨by simpa using c,rfl⟩
    ·exact .inr h
  ·split
   ·simpa using m2
   ·exact List.pairwise_cons.2 ⟨hlo,m2⟩
  ·intro z hz
   rcases List.mem_append.1 hz with hz|hz
   ·obtain⟨_,rfl⟩:=ZhA.1 hz
    exact hd y List.mem_cons_self
   ·exact m3 d (λz hz=>by cases hz) (λz hz=>hd z (List.mem_cons_of_mem _ hz)) z hz
 |x::l,y::t,hl,ht,il,it=>by
  obtain⟨l1,l2⟩:=List.pairwise_cons.1 hl
  obtain⟨t1,t2⟩:=List.pairwise_cons.1 ht
  have il2:∀z∈l,IsDv z.to:=λz hz=>il z (List.mem_cons_of_mem _ hz)
  have it2:∀z∈t,IsDv z.to:=λz hz=>it z (List.mem_cons_of_mem _ hz)
  by_cases hxy:x.to=y.to
  ·obtain⟨m1,m2,m3⟩:=ZeW full l t l2 t2 il2 it2
   have e:mrg full (x::l) (y::t)=(if full|| !decide (y.own=x.own) then [x] else [])++mrg full l t:=by
    conv=>lhs;unfold mrg
    rw[if_pos hxy]
   rw[e]
   have hlo:Lo x.to (mrg full l t):=m3 _ l1 (by rw[hxy];exact t1)
   have kx:Zb3 full (y::t) x=(full|| !decide (y.own=x.own)):=by simp[Zb3,ZdA,hxy]
   have kl:∀z∈l,Zb3 full (y::t) z=Zb3 full t z:=λz hz=>by
    have:y.to≠z.to:=λe=>by
     have:=l1 z hz
     rw[hxy,e,Za0] at this
     omega
    simp[Zb3,ZdA,this]
   have dy:ZcP (x::l) y=false:=by simp[ZcP,ZdA,hxy]
   have dt:∀z∈t,ZcP (x::l) z=ZcP l z:=λz hz=>by
    have:x.to≠z.to:=λe=>by
     have:=t1 z hz
     rw[<-hxy,e,Za0] at this
     omega
    simp[ZcP,ZdA,this]
   refine⟨λa=>?_,?_,λd hd _=>?_⟩
   ·rw[List.mem_append,m1,Zie,<-kx]
    simp only[List.mem_cons,exists_eq_or_imp,dy,Bool.false_eq_true,false_and,false_or]
    constructor
    ·rintro(⟨c,rfl⟩|⟨ha,hk⟩|⟨z,hz,hd,rfl⟩)
     ·exact .inl ⟨.inl rfl,c⟩
     ·exact .inl ⟨.inr ha,by rw[kl a ha];exact hk⟩
     ·exact .inr ⟨z,hz,by rw[dt z hz];exact hd,rfl⟩
    ·rintro(⟨rfl|ha,hk⟩|⟨z,hz,hd,rfl⟩)
     ·exact .inl ⟨hk,rfl⟩
     ·exact .inr (.inl ⟨ha,by rw[<-kl a ha];exact hk⟩)
     ·exact .inr (.inr ⟨z,hz,by rw[<-dt z hz];exact hd,rfl⟩)
   ·split
    ·exact List.pairwise_cons.2 ⟨hlo,m2⟩
    ·simpa using m2
   ·exact vC2
  ·by_cases hlt:cmpD x.to y.to<0
   ·obtain⟨m1,m2,m3⟩:=ZeW full l (y::t) l2 ht il2 it
    have e:mrg full (x::l) (y::t)=(if full|| !decide (x.own.met=inf) then [x] else [])++mrg full l (y::t):=by
     conv=>lhs;unfold mrg
     rw[if_neg hxy,if_pos hlt]
    rw[e]
    have hly:Lo x.to (y::t):=ZqK ht hlt
    have hlo:Lo x.to (mrg full l (y::t)):=m3 _ l1 hly
    have kx:Zb3 full (y::t) x=(full|| !decide (x.own.met=inf)):=by simp[Zb3,hly.ne]
    have dt:∀z∈y::t,ZcP (x::l) z=ZcP l z:=λz hz=>by
     have:x.to≠z.to:=λe=>by
      have:=hly z hz
      rw[e,Za0] at this
      omega
     simp[ZcP,ZdA,this]
    refine⟨λa=>?_,?_,λd hd _=>?_⟩
    ·rw[List.mem_append,m1,Zie,<-kx]
     constructor
     ·rintro(⟨c,rfl⟩|⟨ha,hk⟩|⟨z,hz,hd,rfl⟩)
      ·exact .inl ⟨List.mem_cons_self,c⟩
      ·exact .inl ⟨List.mem_cons_of_mem _ ha,hk⟩
      ·exact .inr ⟨z,hz,by rw[dt z hz];exact hd,rfl⟩
     ·rintro(⟨ha,hk⟩|⟨z,hz,hd,rfl⟩)
      ·rcases List.mem_cons.1 ha with rfl|ha
       ·exact .inl ⟨hk,rfl⟩
       ·exact .inr (.inl ⟨ha,hk⟩)
      ·exact .inr (.inr ⟨z,hz,by rw[<-dt z hz];exact hd,rfl⟩)
    ·split
     ·exact List.pairwise_cons.2 ⟨hlo,m2⟩
     ·simpa using m2
    ·exact vC2
   ·have hgt:cmpD y.to x.to<0:=by
     have h1:=ZbJ x.to y.to
     have h2:cmpD x.to y.to≠0:=λh=>hxy (Zcg (il x List.mem_cons_self) (it y List.mem_cons_self) h)
     omega
    obtain⟨m1,m2,m3⟩:=ZeW full (x::l) t hl t2 il it2
    have e:mrg full (x::l) (y::t)=(if decide (y.own.met=inf) then [] else [retr y])++mrg full (x::l) t:=by
     conv=>lhs;unfold mrg
     rw[if_neg hxy,if_neg hlt]
    rw[e]
    have hlx:Lo y.to (x::l):=ZqK hl hgt
    have hlo:Lo y.to (mrg full (x::l) t):=m3 _ hlx t1
    have dy:ZcP (x::l) y= !decide (y.own.met=inf):=by simp[ZcP,hlx.ne]
    have kl:∀z∈x::l,Zb3 full (y::t) z=Zb3 full t z:=λz hz=>by
     have:y.to≠z.to:=λe=>by
      have:=hlx z hz
      rw[e,Za0] at this
      omega
     simp[Zb3,ZdA,this]
    refine⟨λa=>?_,?_,λd _ hd=>?_⟩
    ·rw[List.mem_append,m1,ZhA]
     constructor
     ·rintro(⟨c,rfl⟩|⟨ha,hk⟩|⟨z,hz,hd,rfl⟩)
      ·exact .inr ⟨y,List.mem_cons_self,by rw[dy,c];rfl,rfl⟩
      ·exact .inl ⟨ha,by rw[kl a ha];exact hk⟩
      ·exact .inr ⟨z,List.mem_cons_of_mem _ hz,hd,rfl⟩
     ·rintro(⟨ha,hk⟩|⟨z,hz,hd,rfl⟩)
      ·exact .inr (.inl ⟨ha,by rw[<-kl a ha];exact hk⟩)
      ·rcases List.mem_cons.1 hz with rfl|hz
       ·rw[dy] at hd
        exact .inl ⟨by simpa using hd,rfl⟩
       ·exact .inr (.inr ⟨z,hz,hd,rfl⟩)
    ·split
     ·simpa using m2
     ·exact List.pairwise_cons.2 ⟨hlo,m2⟩
    ·intro z hz
     rcases List.mem_append.1 hz with hz|hz
     ·obtain⟨_,rfl⟩:=ZhA.1 hz
      exact hd y List.mem_cons_self
     ·exact hlo.trans (hd y List.mem_cons_self) z hz
termination_by l t => l.length + t.length
def Za8(d:DstV):Bool:=ZcI d.dip d.dbits&&ZcI d.sip d.sbits&& !decide (d.rt=0)
def ZaA(m:Int):Bool:=decide (0<=m)&&decide (m<=65535)
def adv1(l:List AdvV)(i:Nat):Bool:=match l[i]? with
 |none=>true
 |some a=>Za8 a.to&&ZaA a.own.met&&(decide (i=0)||match l[i-1]? with
  |none=>true
  |some b=>decide (cmpD b.to a.to<0))
def Zbh(l:List AdvV):Bool:=decide (l.length<=520)&&(List.range l.length).all (adv1 l)
theorem vCf(h:p:=by
  by_cases h0:i=0
  ·exact .inl h0
  ·right
   rw[List.getElem?_eq_getElem (show i-1<l.length by omega)]
   simpa using h3 (i-1) i Q0 hi' Q0):p:=h
theorem vCz(h:p:=by
  refine⟨this.1,λh0 h=>?_⟩
  rcases this.2 with h3|h3
  ·omega
  ·rw[List.getElem?_eq_getElem h] at h3
   simpa using h3):p:=h
theorem ZaV{l:List AdvV}:Zbh l=true↔l.length<=520/\(∀a∈l,Za8 a.to=true/\ZaA a.own.met=true)/\AscA l:=by
 unfold Zbh
 rw[Bool.and_eq_true,decide_eq_true_eq,List.all_eq_true]
 constructor
 ·rintro⟨h1,h2⟩
  have hat:∀i(hi:i<l.length),(Za8 l[i].to=true/\ZaA l[i].own.met=true)/\(0<i->∀h:i-1<l.length,cmpD l[i-1].to l[i].to<0):=by
   intro i hi
   have:=h2 i (List.mem_range.2 hi)
   simp only[adv1,List.getElem?_eq_getElem hi,Bool.and_eq_true,Bool.or_eq_true,decide_eq_true_eq] at this
   exact vCz
  refine⟨h1,λa ha=>?_,?_⟩
  ·obtain⟨i,hi,rfl⟩:=List.mem_iff_getElem.1 ha
   exact(hat i hi).1
  ·refine List.pairwise_iff_getElem.2 ?_
   intro i j hi hj hij
   have key:∀n,∀(hn:i+1+n<l.length),cmpD l[i].to (l[i+1+n]'hn).to<0:=by
    intro n
    induction n with
    |zero=>intro hn;exact(hat (i+1) hn).2 Q0 Q0
    |succ n ih=>
     intro hn
     have h3:=(hat (i+1+(n+1)) hn).2 Q0 Q0
     exact Za6 (ih Q0) h3
   have:=key (j-i-1) Q0
   simpa[show i+1+(j-i-1)=j by omega] using this
 ·rintro⟨h1,h2,h3⟩
  refine⟨h1,λi hi=>?_⟩
  have hi':=List.mem_range.1 hi
  replace h3:=List.pairwise_iff_getElem.1 h3
  have h4:=h2 l[i] (List.getElem_mem hi')
  simp only[adv1,List.getElem?_eq_getElem hi',h4.1,h4.2,Bool.and_self,Bool.true_and,Bool.or_eq_true,decide_eq_true_eq]
  exact vCf
theorem Zdl{l:List AdvV}(h:Zbh l=true):AscA l:=(ZaV.1 h).2.2
theorem Zoe:ZaA inf=true:=rfl
theorem Zem(full:Bool):∀l t:List AdvV,(mrg full l t).length<=l.length+t.length
 |[],[]=>by unfold mrg;simp
 |x::l,[]=>by
  have:=Zem full l []
  unfold mrg
  rw[List.length_append]
  simp only[List.length_cons,List.length_nil] at*
  split<;>simp<;>omega
 |[],y::t=>by
  have:=Zem full [] t
  unfold mrg
  rw[List.length_append]
  simp only[List.length_cons,List.length_nil] at*
  split<;>simp<;>omega
 |x::l,y::t=>by
  have h1:=Zem full l t
  have h2:=Zem full l (y::t)
  have h3:=Zem full (x::l) t
  unfold mrg
  simp only[List.length_cons] at*
  split
  ·rw[List.length_append]
   split<;>simp<;>omega
  ·split
   ·rw[List.length_append]
    split<;>simp<;>omega
   ·rw[List.length_append]
    split<;>simp<;>omega
termination_by l t => l.length + t.length
structure DueR where
 told:List AdvV
 full:Int
 sent:List AdvV
 urg:Bool
 err:Int
def dueV(T:List AdvV)(fl now:Int)(l:List AdvV):DueR:=
 if !(Zbh T&&Zag fl)|| !Zbh l then⟨[],0,[],false,1⟩
 else if !Zag now then⟨[],0,[],false,2⟩
 else
  let full:=decide (fl<=now)
  let sent:=mrg full l T
  ⟨l,if full then Zaz now 3 else fl,sent,sent.any λa=>decide (a.own.met=inf),0⟩
end
section
attribute [local irreducible] OpTo wpListIn Code.wpIn MW Cal
theorem ZhT(t:Int)(W:World):Cal prog 196 [.int .i64 t].toArray W λv w'=>v= .bool (Zag t)/\Ext [] W w':=by
 unfold Zag
 by_cases h:0<=t
 ·rw[dqT h,Bool.true_and]
  refine yS (n:=9) Tryz.func196 rfl rfl ?_
  refine W3 [10,0,7] ?_
  exact vA5
 ·rw[dqF h,Bool.false_and]
  refine yS (n:=9) Tryz.func196 rfl rfl ?_
  refine W3 [10,0,7] ?_
  exact vA5
theorem ZfC(t:Int)(W:World):Cal prog 170 [.int .i64 t].toArray W λv w'=>v= .bool (ZaA t)/\Ext [] W w':=by
 unfold ZaA
 by_cases h:0<=t
 ·rw[dqT h,Bool.true_and]
  refine yS (n:=9) Tryz.func170 rfl rfl ?_
  refine W3 [10,0,7] ?_
  exact vA5
 ·rw[dqF h,Bool.false_and]
  refine yS (n:=9) Tryz.func170 rfl rfl ?_
  refine W3 [10,0,7] ?_
  exact vA5
theorem Zcs(t:Int)(W:World):Cal prog 225 [.int .i64 t].toArray W λv w'=>v= .bool (ZaA t)/\Ext [] W w':=by
 unfold ZaA
 by_cases h:0<=t
 ·rw[dqT h,Bool.true_and]
  refine yS (n:=9) Tryz.func225 rfl rfl ?_
  refine W3 [10,0,7] ?_
  exact vA5
 ·rw[dqF h,Bool.false_and]
  refine yS (n:=9) Tryz.func225 rfl rfl ?_
  refine W3 [10,0,7] ?_
  exact vA5
theorem ZbI(d:DisV)(W:World):Cal prog 167 [.agg (diC d).toArray].toArray W λv w'=>v= .bool (ZaA d.met)/\Ext [] W w':=by
 have e1:=ZgE (o:=d) trivial
 refine yS (n:=6) Tryz.func167 rfl rfl (gQ 2 rfl (Zai rfl rfl λb1=>?_))
 refine W4 [6,0,0,4] @Zcs ?_
 exact vA5
theorem Za3(d:DstV)(hd:IsDv d)(W:World):Cal prog 125 [.agg (dvC d).toArray].toArray W λv w'=>v= .bool (Za8 d)/\Ext [] W w':=by
 have l1:=hd.1.len
 have l2:=hd.2.len
 have i1:IsIP d.dip:=hd.1
 have i2:IsIP d.sip:=hd.2
 unfold Za8
 refine yS (n:=16) Tryz.func125 rfl rfl ?_
 cases h1:ZcI d.dip d.dbits
 ·refine gQ 2 rfl ?_
  refine Zai rfl rfl λb1=>?_
  refine W4 [6,0,0,1] @ZdK ?_
  refine Zji 6 rfl Qd ?_
  exact gQ 13 rfl (Zae rfl rfl rfl λw M=>⟨rfl,M.ext⟩)
 ·cases h2:ZcI d.sip d.sbits
  ·refine gQ 2 rfl ?_
   refine Zai rfl rfl λb1=>?_
   refine W4 [6,0,0,1,0,1,0,0,2,0,8] @ZdK ?_
   exact vA5
  ·refine gQ 2 rfl ?_
   refine Zai rfl rfl λb1=>?_
   refine W4 [6,0,0,1,0,1,0,0,2,0,1,0,6] @ZdK ?_
   exact vA5
theorem ZaM(d:DstV)(hd:IsDv d)(W:World):Cal prog 73 [.agg (dvC d).toArray].toArray W λv w'=>v= .bool (Za8 d)/\Ext [] W w':=by
 have l1:=hd.1.len
 have l2:=hd.2.len
 have i1:IsIP d.dip:=hd.1
 have i2:IsIP d.sip:=hd.2
 unfold Za8
 refine yS (n:=16) Tryz.func73 rfl rfl ?_
 cases h1:ZcI d.dip d.dbits
 ·refine gQ 2 rfl ?_
  refine Zai rfl rfl λb1=>?_
  refine W4 [6,0,0,1,0,13] @Zel ?_
  exact vA5
 ·cases h2:ZcI d.sip d.sbits
  ·refine gQ 2 rfl ?_
   refine Zai rfl rfl λb1=>?_
   refine W4 [6,0,0,1,0,1,0,0,2,0,8] @Zel ?_
   exact vA5
  ·refine gQ 2 rfl ?_
   refine Zai rfl rfl λb1=>?_
   refine W4 [6,0,0,1,0,1,0,0,2,0,1,0,6] @Zel ?_
   exact vA5
theorem vCr(h:p:=by
  simp only[orV,orI]
  repeat' split
  all_goals first|rfl|(rename_i h;exact h)|(rename_i h;exact h.symm)|simp_all [cmpI,cmpV]):p:=h
theorem Zb0(x y:DstV)(ha:IsDv x)(hb:IsDv y)(W:World):Cal prog 87 [.agg (dvC x).toArray, .agg (dvC y).toArray].toArray W λv w'=>v= .int .i64 (cmpD x y)/\Ext [] W w':=by
 have a1:=ZuA ha
 have a2:=Zke ha
 have a3:=Zuy ha
 have a4:=Zkd ha
 have a5:=Zrm ha
 have c1:=ZuA hb
 have c2:=Zke hb
 have c3:=Zuy hb
 have c4:=Zkd hb
 have c5:=Zrm hb
 have hr:cmpD x y=orV [cmpL x.dip y.dip,cmpV x.dbits y.dbits,cmpL x.sip y.sip,cmpV x.sbits y.sbits,cmpV x.rt y.rt]:=by
  rw[ZrA ha hb]
  exact vCr
 rw[hr]
 refine Zar (n:=40) [] Tryz.func87 rfl rfl rfl ?_
 intro a w F M hwW
 refine W1 2 ?_;intro a F
 refine Qs F M ?_;clear F M;intro b2 w M a F
 refine Qs F M ?_;clear F M;intro b3 w M a F
 refine W1 4 ?_;intro a F
 replace F:=F.only [2,3] rfl
 refine Za4 33 F Q7 ?_
 intro w1 hE hok
 have M1:=M.later hE
 refine W2 2 hok ?_
 (refine mK hok rfl rfl (λa' w' F' E'=>Zhz (F'.e rfl) ⟨Ext.refl _ _,rfl⟩) ?_)
 refine W2 2 hok ?_
 (refine mK hok rfl rfl (λa' w' F' E'=>Zhz (F'.e rfl) ⟨Ext.refl _ _,rfl⟩) ?_)
 skip
 (refine mK hok rfl rfl (λa' w' F' E'=>Zav (F'.e rfl) (F'.evs rfl) (Cal.mono (ZfN _ (n:=16) (m:=16) ⟨_,_,rfl,Q0,by simp,(Zdq ha.1.len),λ_=>⟨b2,0,dvC x,_,_,rfl,(M1.later E').heap (.there .here),a1⟩⟩ ⟨_,_,rfl,Q0,by simp,(Zdq hb.1.len),λ_=>⟨b3,0,dvC y,_,_,rfl,(M1.later E').heap .here,c1⟩⟩ ha.1.bd hb.1.bd) λ_ _ hh=>⟨hh.2,hh.1⟩)) ?_)
 refine W2 6 hok ?_
 (refine mK hok rfl rfl (λa' w' F' E'=>Zav (F'.e rfl) (F'.evs rfl) (Cal.mono (Zrw x.dbits y.dbits _) λ_ _ hh=>⟨hh.2,hh.1⟩)) ?_)
 refine W2 2 hok ?_
 (refine mK hok rfl rfl (λa' w' F' E'=>Zhz (F'.e rfl) ⟨Ext.refl _ _,rfl⟩) ?_)
 refine W2 2 hok ?_
 (refine mK hok rfl rfl (λa' w' F' E'=>Zhz (F'.e rfl) ⟨Ext.refl _ _,rfl⟩) ?_)
 skip
 (refine mK hok rfl rfl (λa' w' F' E'=>Zav (F'.e rfl) (F'.evs rfl) (Cal.mono (ZfN _ (n:=16) (m:=16) ⟨_,_,rfl,Q0,by simp,(Zdq ha.2.len),λ_=>⟨b2,17,dvC x,_,_,rfl,(M1.later E').heap (.there .here),a3⟩⟩ ⟨_,_,rfl,Q0,by simp,(Zdq hb.2.len),λ_=>⟨b3,17,dvC y,_,_,rfl,(M1.later E').heap .here,c3⟩⟩ ha.2.bd hb.2.bd) λ_ _ hh=>⟨hh.2,hh.1⟩)) ?_)
 refine W2 6 hok ?_
 (refine mK hok rfl rfl (λa' w' F' E'=>Zav (F'.e rfl) (F'.evs rfl) (Cal.mono (Zrw x.sbits y.sbits _) λ_ _ hh=>⟨hh.2,hh.1⟩)) ?_)
 refine W2 4 hok ?_
 (refine mK hok rfl rfl (λa' w' F' E'=>Zav (F'.e rfl) (F'.evs rfl) (Cal.mono (Zrx x.rt y.rt _) λ_ _ hh=>⟨hh.2,hh.1⟩)) ?_)
 skip
 (refine Qx M1 ?_;clear F M M1 hok hE;intro a w F M;(try dsimp only at F))
 (refine sD F (ZaC F M rfl rfl rfl rfl ?_);clear F M;intro b38 w M a F)
 (refine Qy F M rfl rfl (or_c (b:=b38) [cmpL x.dip y.dip,cmpV x.dbits y.dbits,cmpL x.sip y.sip,cmpV x.sbits y.sbits,cmpV x.rt y.rt] 5 rfl Q0 _ (M.heap .here)) ?_;clear F M a;intro w a M F)
 refine sD F (ZeU (F.e rfl) ?_);clear F a;intro a F
 with_reducible refine ZdS (Zc6 (ZiK ?_))
 exact Qq F (⟨rfl,M.ext⟩)
theorem Znf(p:List Int)(n:Int)(q:List Int)(m:Int)(hp:IsIP p)(hq:IsIP q)(W:World):Cal prog 186 [.agg (pfC p n).toArray, .agg (pfC q m).toArray].toArray W λv w'=>v= .int .i64 (orI (cmpL p q) (cmpI n m))/\Ext [] W w':=by
 have e1:seg (pfC p n) 0 16=some (ipC p):=ZjM hp.len n
 have e2:seg (pfC q m) 0 16=some (ipC q):=ZjM hq.len m
 have e3:nth (pfC p n) 16=some (.int .i64 n):=Znw hp.len n
 have e4:nth (pfC q m) 16=some (.int .i64 m):=Znw hq.len m
 unfold orI cmpI
 refine yS (n:=24) Tryz.func186 rfl rfl ?_
 by_cases h0:cmpL p q=0
 ·rw[if_pos h0]
  by_cases h1:n<m
  ·rw[if_pos h1]
   refine gQ 2 rfl (Zai rfl rfl λb2=>Zai rfl rfl λb3=>?_)
   refine W4 [7,0,1,0,0,9,0,6,0,1,0,3,0,7] @Zef ?_
   exact vA5
  ·rw[if_neg h1]
   by_cases h2:m<n
   ·rw[if_pos h2]
    refine gQ 2 rfl (Zai rfl rfl λb2=>Zai rfl rfl λb3=>?_)
    refine W4 [7,0,1,0,0,9,0,6,0,1,0,3,0,6,0,1,0,3,0,7] @Zef ?_
    exact vA5
   ·rw[if_neg h2]
    refine gQ 2 rfl (Zai rfl rfl λb2=>Zai rfl rfl λb3=>?_)
    refine W4 [7,0,1,0,0,9,0,6,0,1,0,3,0,6,0,1,0,3,0,8] @Zef ?_
    exact vA5
 ·rw[if_neg h0]
  refine gQ 2 rfl (Zai rfl rfl λb2=>Zai rfl rfl λb3=>?_)
  refine W4 [7,0,1,0,0,9,0,8] @Zef ?_
  exact vA5
theorem ZkX(a b c:Int):orI (orI a b) c=orI a (orI b c):=by
 unfold orI
 repeat' split
 all_goals simp_all
theorem ZaR(x y:DstV)(ha:IsDv x)(hb:IsDv y)(W:World):Cal prog 92 [.agg (dvC x).toArray, .agg (dvC y).toArray].toArray W λv w'=>v= .int .i64 (cmpD x y)/\Ext [] W w':=by
 have a1:=Zrn ha
 have a3:=Zrl ha
 have a5:=Zrm ha
 have c1:=Zrn hb
 have c3:=Zrl hb
 have c5:=Zrm hb
 have hr:cmpD x y=orI (orI (cmpL x.dip y.dip) (cmpI x.dbits y.dbits)) (orI (orI (cmpL x.sip y.sip) (cmpI x.sbits y.sbits)) (cmpI x.rt y.rt)):=by
  rw[ZrA ha hb,ZkX,ZkX]
 rw[hr]
 obtain⟨p,hp⟩:∃p,p=orI (cmpL x.dip y.dip) (cmpI x.dbits y.dbits):=⟨_,rfl⟩
 obtain⟨q,hq⟩:∃q,q=orI (cmpL x.sip y.sip) (cmpI x.sbits y.sbits):=⟨_,rfl⟩
 rw[<-hp,<-hq]
 have k1:=Znf x.dip x.dbits y.dip y.dbits ha.1 hb.1
 have k2:=Znf x.sip x.sbits y.sip y.sbits ha.2 hb.2
 rw[<-hp] at k1
 rw[<-hq] at k2
 unfold orI cmpI
 refine yS (n:=33) Tryz.func92 rfl rfl (gQ 2 rfl (Zai rfl rfl λb2=>Zai rfl rfl λb3=>?_))
 refine W4 [7,0,1,0,0] k1 ?_
 by_cases h0:p=0
 ·rw[if_pos h0]
  refine W4 [9,0,6,0,1,0,0] k2 ?_
  by_cases h1:q=0
  ·rw[if_pos h1]
   by_cases h2:x.rt<y.rt
   ·rw[if_pos h2]
    refine W3 [9,0,6,0,1,0,3,0,7] ?_
    exact vA5
   ·rw[if_neg h2]
    by_cases h3:y.rt<x.rt
    ·rw[if_pos h3]
     refine W3 [9,0,6,0,1,0,3,0,6,0,1,0,3,0,7] ?_
     exact vA5
    ·rw[if_neg h3]
     refine W3 [9,0,6,0,1,0,3,0,6,0,1,0,3,0,8] ?_
     exact vA5
  ·rw[if_neg h1]
   refine W3 [9,0,8] ?_
   exact vA5
 ·rw[if_neg h0]
  refine W3 [9,0,8] ?_
  exact vA5
end
section
structure RouV where
 to:DstV
 nb:Int
 said:DisV
 til:Int
 deriving DecidableEq
def roC(o:RouV):List Value:=dvC o.to++([.int .u64 o.nb]++(diC o.said++([.int .i64 o.til])))
def IsRo(o:RouV):Prop:=IsDv o.to/\IsDi o.said
theorem Zdy{o:RouV}(h:IsRo o):(roC o).length=39:=by
 obtain⟨⟨f_to_dip,f_to_dbits,f_to_sip,f_to_sbits,f_to_rt⟩,f_nb,⟨f_said_seq,f_said_met⟩,f_til⟩:=o
 exact vA0
theorem ZtZ{o:RouV}(h:IsRo o):seg (roC o) 0 39=some (roC o):=ZbH (Zdy h)
theorem ZfR{o:RouV}(h:IsRo o):seg (roC o) 0 35=some (dvC o.to):=by
 obtain⟨⟨f_to_dip,f_to_dbits,f_to_sip,f_to_sbits,f_to_rt⟩,f_nb,⟨f_said_seq,f_said_met⟩,f_til⟩:=o
 exact vA0
theorem Zsm{o:RouV}(h:IsRo o):nth (roC o) 34=some (.int .u64 o.to.rt):=by
 obtain⟨⟨f_to_dip,f_to_dbits,f_to_sip,f_to_sbits,f_to_rt⟩,f_nb,⟨f_said_seq,f_said_met⟩,f_til⟩:=o
 exact vA0
theorem ZkK{o:RouV}(h:IsRo o):nth (roC o) 35=some (.int .u64 o.nb):=by
 obtain⟨⟨f_to_dip,f_to_dbits,f_to_sip,f_to_sbits,f_to_rt⟩,f_nb,⟨f_said_seq,f_said_met⟩,f_til⟩:=o
 exact vA0
theorem ro_said{o:RouV}(h:IsRo o):seg (roC o) 36 2=some (diC o.said):=by
 obtain⟨⟨f_to_dip,f_to_dbits,f_to_sip,f_to_sbits,f_to_rt⟩,f_nb,⟨f_said_seq,f_said_met⟩,f_til⟩:=o
 exact vA0
theorem ZlY{o:RouV}(h:IsRo o):nth (roC o) 36=some (.int .u16 o.said.seq):=by
 obtain⟨⟨f_to_dip,f_to_dbits,f_to_sip,f_to_sbits,f_to_rt⟩,f_nb,⟨f_said_seq,f_said_met⟩,f_til⟩:=o
 exact vA0
theorem ZfS{o:RouV}(h:IsRo o):nth (roC o) 37=some (.int .i64 o.said.met):=by
 obtain⟨⟨f_to_dip,f_to_dbits,f_to_sip,f_to_sbits,f_to_rt⟩,f_nb,⟨f_said_seq,f_said_met⟩,f_til⟩:=o
 exact vA0
theorem ZpT{o:RouV}(h:IsRo o):nth (roC o) 38=some (.int .i64 o.til):=by
 obtain⟨⟨f_to_dip,f_to_dbits,f_to_sip,f_to_sbits,f_to_rt⟩,f_nb,⟨f_said_seq,f_said_met⟩,f_til⟩:=o
 exact vA0
theorem Zd1(o:RouV):(roC o).all (·.oneCell')=true:=by
 simp[pfC,ipC,roC,dvC,diC,Value.oneCell']
def roZ:List Value:=[.int .u8 0, .int .u8 0, .int .u8 0, .int .u8 0, .int .u8 0, .int .u8 0, .int .u8 0, .int .u8 0, .int .u8 0, .int .u8 0, .int .u8 0, .int .u8 0, .int .u8 0, .int .u8 0, .int .u8 0, .int .u8 0, .int .i64 0, .int .u8 0, .int .u8 0, .int .u8 0, .int .u8 0, .int .u8 0, .int .u8 0, .int .u8 0, .int .u8 0, .int .u8 0, .int .u8 0, .int .u8 0, .int .u8 0, .int .u8 0, .int .u8 0, .int .u8 0, .int .u8 0, .int .i64 0, .int .u64 0, .int .u64 0, .int .u16 0, .int .i64 0, .int .i64 0]
theorem Zsn{o:RouV}(h:IsRo o):ZaD [(0,35),(35,1),(36,2),(38,1)] roZ [(0,dvC o.to),(1,[.int .u64 o.nb]),(2,diC o.said),(3,[.int .i64 o.til])]=some (roC o):=by
 obtain⟨⟨f_to_dip,f_to_dbits,f_to_sip,f_to_sbits,f_to_rt⟩,f_nb,⟨f_said_seq,f_said_met⟩,f_til⟩:=o
 exact vA0
theorem ZcK{o:RouV}(h:IsRo o):ZaD (Zcu 1 39) (Zc4 roZ (1*39)) [(0,roC o)]=some (roC o):=by
 obtain⟨⟨f_to_dip,f_to_dbits,f_to_sip,f_to_sbits,f_to_rt⟩,f_nb,⟨f_said_seq,f_said_met⟩,f_til⟩:=o
 exact vA0
abbrev roK:List LK:=[.i .u8, .i .u8, .i .u8, .i .u8, .i .u8, .i .u8, .i .u8, .i .u8, .i .u8, .i .u8, .i .u8, .i .u8, .i .u8, .i .u8, .i .u8, .i .u8, .i .i64, .i .u8, .i .u8, .i .u8, .i .u8, .i .u8, .i .u8, .i .u8, .i .u8, .i .u8, .i .u8, .i .u8, .i .u8, .i .u8, .i .u8, .i .u8, .i .u8, .i .i64, .i .u64, .i .u64, .i .u16, .i .i64, .i .i64]
theorem Zvu{o:RouV}(h:IsRo o):ZaZ roK (roC o)=true:=by
 obtain⟨⟨f_to_dip,f_to_dbits,f_to_sip,f_to_sbits,f_to_rt⟩,f_nb,⟨f_said_seq,f_said_met⟩,f_til⟩:=o
 exact vA0
theorem ZzR{a b:RouV}(ha:IsRo a)(hb:IsRo b):eqVs (roC a) (roC b)=decide (a=b):=by
 have l0:=Zc3 (ha.1) (hb.1)
 have m0:(dvC a.to).length=(dvC b.to).length:=by rw[Zbl (ha.1),Zbl (hb.1)]
 have l1:=Zki (ha.2) (hb.2)
 have m1:(diC a.said).length=(diC b.said).length:=by rw[ZbE (ha.2),ZbE (hb.2)]
 rw[Bool.eq_iff_iff,decide_eq_true_eq]
 obtain⟨a_to,a_nb,a_said,a_til⟩:=a
 obtain⟨b_to,b_nb,b_said,b_til⟩:=b
 dsimp only at l0 l1 m0 m1
 simp only[roC,RouV.mk.injEq]
 rw[ZaL _ _ _ _ (by first|rfl|assumption|(simp[pfC,ipC];assumption))]
 rw[ZaL _ _ _ _ (by first|rfl|assumption|(simp[pfC,ipC];assumption))]
 rw[ZaL _ _ _ _ (by first|rfl|assumption|(simp[pfC,ipC];assumption))]
 rw[l0]
 rw[l1]
 exact vA8
abbrev rosC(l:List RouV):List Value:=encL roC l
theorem Zbw{l:List RouV}(h:∀x∈l,IsRo x):∀x∈l,(roC x).length=39:=λx hx=>Zdy (h x hx)
theorem ZlX{l:List RouV}:(rosC l).all (·.oneCell')=true:=Ze2 λx _=>Zd1 x
structure SrcV where
 to:DstV
 bst:DisV
 til:Int
 deriving DecidableEq
def srC(o:SrcV):List Value:=dvC o.to++(diC o.bst++([.int .i64 o.til]))
def IsSr(o:SrcV):Prop:=IsDv o.to/\IsDi o.bst
theorem Zcj{o:SrcV}(h:IsSr o):(srC o).length=38:=by
 obtain⟨⟨f_to_dip,f_to_dbits,f_to_sip,f_to_sbits,f_to_rt⟩,⟨f_bst_seq,f_bst_met⟩,f_til⟩:=o
 exact vA0
theorem ZiR{o:SrcV}(h:IsSr o):seg (srC o) 0 38=some (srC o):=ZbH (Zcj h)
theorem ZlG{o:SrcV}(h:IsSr o):seg (srC o) 0 35=some (dvC o.to):=by
 obtain⟨⟨f_to_dip,f_to_dbits,f_to_sip,f_to_sbits,f_to_rt⟩,⟨f_bst_seq,f_bst_met⟩,f_til⟩:=o
 exact vA0
theorem ZmY{o:SrcV}(h:IsSr o):seg (srC o) 35 2=some (diC o.bst):=by
 obtain⟨⟨f_to_dip,f_to_dbits,f_to_sip,f_to_sbits,f_to_rt⟩,⟨f_bst_seq,f_bst_met⟩,f_til⟩:=o
 exact vA0
theorem ZiQ{o:SrcV}(h:IsSr o):nth (srC o) 36=some (.int .i64 o.bst.met):=by
 obtain⟨⟨f_to_dip,f_to_dbits,f_to_sip,f_to_sbits,f_to_rt⟩,⟨f_bst_seq,f_bst_met⟩,f_til⟩:=o
 exact vA0
theorem ZkG{o:SrcV}(h:IsSr o):nth (srC o) 37=some (.int .i64 o.til):=by
 obtain⟨⟨f_to_dip,f_to_dbits,f_to_sip,f_to_sbits,f_to_rt⟩,⟨f_bst_seq,f_bst_met⟩,f_til⟩:=o
 exact vA0
theorem ZcX(o:SrcV):(srC o).all (·.oneCell')=true:=by
 simp[pfC,ipC,srC,dvC,diC,Value.oneCell']
def srZ:List Value:=[.int .u8 0, .int .u8 0, .int .u8 0, .int .u8 0, .int .u8 0, .int .u8 0, .int .u8 0, .int .u8 0, .int .u8 0, .int .u8 0, .int .u8 0, .int .u8 0, .int .u8 0, .int .u8 0, .int .u8 0, .int .u8 0, .int .i64 0, .int .u8 0, .int .u8 0, .int .u8 0, .int .u8 0, .int .u8 0, .int .u8 0, .int .u8 0, .int .u8 0, .int .u8 0, .int .u8 0, .int .u8 0, .int .u8 0, .int .u8 0, .int .u8 0, .int .u8 0, .int .u8 0, .int .i64 0, .int .u64 0, .int .u16 0, .int .i64 0, .int .i64 0]
theorem ZmX{o:SrcV}(h:IsSr o):ZaD [(0,35),(35,2),(37,1)] srZ [(0,dvC o.to),(1,diC o.bst),(2,[.int .i64 o.til])]=some (srC o):=by
 obtain⟨⟨f_to_dip,f_to_dbits,f_to_sip,f_to_sbits,f_to_rt⟩,⟨f_bst_seq,f_bst_met⟩,f_til⟩:=o
 exact vA0
theorem ZcJ{o:SrcV}(h:IsSr o):ZaD (Zcu 1 38) (Zc4 srZ (1*38)) [(0,srC o)]=some (srC o):=by
 obtain⟨⟨f_to_dip,f_to_dbits,f_to_sip,f_to_sbits,f_to_rt⟩,⟨f_bst_seq,f_bst_met⟩,f_til⟩:=o
 exact vA0
abbrev srK:List LK:=[.i .u8, .i .u8, .i .u8, .i .u8, .i .u8, .i .u8, .i .u8, .i .u8, .i .u8, .i .u8, .i .u8, .i .u8, .i .u8, .i .u8, .i .u8, .i .u8, .i .i64, .i .u8, .i .u8, .i .u8, .i .u8, .i .u8, .i .u8, .i .u8, .i .u8, .i .u8, .i .u8, .i .u8, .i .u8, .i .u8, .i .u8, .i .u8, .i .u8, .i .i64, .i .u64, .i .u16, .i .i64, .i .i64]
theorem ZlH{o:SrcV}(h:IsSr o):ZaZ srK (srC o)=true:=by
 obtain⟨⟨f_to_dip,f_to_dbits,f_to_sip,f_to_sbits,f_to_rt⟩,⟨f_bst_seq,f_bst_met⟩,f_til⟩:=o
 exact vA0
theorem ZxA{a b:SrcV}(ha:IsSr a)(hb:IsSr b):eqVs (srC a) (srC b)=decide (a=b):=by
 have l0:=Zc3 (ha.1) (hb.1)
 have m0:(dvC a.to).length=(dvC b.to).length:=by rw[Zbl (ha.1),Zbl (hb.1)]
 have l1:=Zki (ha.2) (hb.2)
 have m1:(diC a.bst).length=(diC b.bst).length:=by rw[ZbE (ha.2),ZbE (hb.2)]
 rw[Bool.eq_iff_iff,decide_eq_true_eq]
 obtain⟨a_to,a_bst,a_til⟩:=a
 obtain⟨b_to,b_bst,b_til⟩:=b
 dsimp only at l0 l1 m0 m1
 simp only[srC,SrcV.mk.injEq]
 rw[ZaL _ _ _ _ (by first|rfl|assumption|(simp[pfC,ipC];assumption))]
 rw[ZaL _ _ _ _ (by first|rfl|assumption|(simp[pfC,ipC];assumption))]
 rw[l0]
 rw[l1]
 exact vA8
abbrev srsC(l:List SrcV):List Value:=encL srC l
theorem ZbN{l:List SrcV}(h:∀x∈l,IsSr x):∀x∈l,(srC x).length=38:=λx hx=>Zcj (h x hx)
theorem ZlE{l:List SrcV}:(srsC l).all (·.oneCell')=true:=Ze2 λx _=>ZcX x
structure OptV where
 nb:Int
 cost:Int
 deriving DecidableEq
def opC(o:OptV):List Value:=[.int .u64 o.nb, .int .i64 o.cost]
def IsOp(o:OptV):Prop:=True
theorem Zfi{o:OptV}(h:IsOp o):(opC o).length=2:=by
 obtain⟨f_nb,f_cost⟩:=o
 rfl
theorem Znt{o:OptV}(h:IsOp o):seg (opC o) 0 2=some (opC o):=ZbH (Zfi h)
theorem ZkZ{o:OptV}(h:IsOp o):nth (opC o) 0=some (.int .u64 o.nb):=by
 obtain⟨f_nb,f_cost⟩:=o
 rfl
theorem ZeR{o:OptV}(h:IsOp o):nth (opC o) 1=some (.int .i64 o.cost):=by
 obtain⟨f_nb,f_cost⟩:=o
 rfl
theorem Ze6(o:OptV):(opC o).all (·.oneCell')=true:=by
 simp[pfC,ipC,opC,Value.oneCell']
def opZ:List Value:=[.int .u64 0, .int .i64 0]
theorem ZsC{o:OptV}(h:IsOp o):ZaD [(0,1),(1,1)] opZ [(0,[.int .u64 o.nb]),(1,[.int .i64 o.cost])]=some (opC o):=by
 obtain⟨f_nb,f_cost⟩:=o
 rfl
theorem Zh7{o:OptV}(h:IsOp o):ZaD (Zcu 1 2) (Zc4 opZ (1*2)) [(0,opC o)]=some (opC o):=by
 obtain⟨f_nb,f_cost⟩:=o
 rfl
abbrev opK:List LK:=[.i .u64, .i .i64]
theorem Zqe{o:OptV}(h:IsOp o):ZaZ opK (opC o)=true:=by
 obtain⟨f_nb,f_cost⟩:=o
 rfl
theorem ZzX{a b:OptV}(ha:IsOp a)(hb:IsOp b):eqVs (opC a) (opC b)=decide (a=b):=by
 rw[Bool.eq_iff_iff,decide_eq_true_eq]
 obtain⟨a_nb,a_cost⟩:=a
 obtain⟨b_nb,b_cost⟩:=b
 simp only[opC,OptV.mk.injEq]
 exact vA8
abbrev opsC(l:List OptV):List Value:=encL opC l
theorem Zfh{l:List OptV}(h:∀x∈l,IsOp x):∀x∈l,(opC x).length=2:=λx hx=>Zfi (h x hx)
structure ChoV where
 nb:Int
 cost:Int
 btn:Int
 deriving DecidableEq
def chC(o:ChoV):List Value:=[.int .u64 o.nb, .int .i64 o.cost, .int .i64 o.btn]
def IsCh(o:ChoV):Prop:=True
theorem Zfr{o:ChoV}(h:IsCh o):(chC o).length=3:=by
 obtain⟨f_nb,f_cost,f_btn⟩:=o
 rfl
theorem ZfM{o:ChoV}(h:IsCh o):seg (chC o) 0 3=some (chC o):=ZbH (Zfr h)
theorem ZwX{o:ChoV}(h:IsCh o):nth (chC o) 0=some (.int .u64 o.nb):=by
 obtain⟨f_nb,f_cost,f_btn⟩:=o
 rfl
theorem ZmE{o:ChoV}(h:IsCh o):nth (chC o) 1=some (.int .i64 o.cost):=by
 obtain⟨f_nb,f_cost,f_btn⟩:=o
 rfl
theorem Zn2{o:ChoV}(h:IsCh o):nth (chC o) 2=some (.int .i64 o.btn):=by
 obtain⟨f_nb,f_cost,f_btn⟩:=o
 rfl
theorem Zjv(o:ChoV):(chC o).all (·.oneCell')=true:=by
 simp[pfC,ipC,chC,Value.oneCell']
def chZ:List Value:=[.int .u64 0, .int .i64 0, .int .i64 0]
instance {o:RouV}:SegC (roC o) 0 39 (roC o) (IsRo o):=⟨ZtZ⟩
instance {o:RouV}:SegC (roC o) 0 35 (dvC o.to) (IsRo o):=⟨ZfR⟩
instance {o:RouV}:NthC (roC o) 34 (.int .u64 o.to.rt) (IsRo o):=⟨Zsm⟩
instance {o:RouV}:NthC (roC o) 35 (.int .u64 o.nb) (IsRo o):=⟨ZkK⟩
instance {o:RouV}:SegC (roC o) 36 2 (diC o.said) (IsRo o):=⟨ro_said⟩
instance {o:RouV}:NthC (roC o) 36 (.int .u16 o.said.seq) (IsRo o):=⟨ZlY⟩
instance {o:RouV}:NthC (roC o) 37 (.int .i64 o.said.met) (IsRo o):=⟨ZfS⟩
instance {o:RouV}:NthC (roC o) 38 (.int .i64 o.til) (IsRo o):=⟨ZpT⟩
instance {o:SrcV}:SegC (srC o) 0 38 (srC o) (IsSr o):=⟨ZiR⟩
instance {o:SrcV}:SegC (srC o) 0 35 (dvC o.to) (IsSr o):=⟨ZlG⟩
instance {o:SrcV}:SegC (srC o) 35 2 (diC o.bst) (IsSr o):=⟨ZmY⟩
instance {o:SrcV}:NthC (srC o) 36 (.int .i64 o.bst.met) (IsSr o):=⟨ZiQ⟩
instance {o:SrcV}:NthC (srC o) 37 (.int .i64 o.til) (IsSr o):=⟨ZkG⟩
instance {o:OptV}:NthC (opC o) 0 (.int .u64 o.nb) (IsOp o):=⟨ZkZ⟩
instance {o:OptV}:NthC (opC o) 1 (.int .i64 o.cost) (IsOp o):=⟨ZeR⟩
instance {o:ChoV}:SegC (chC o) 0 3 (chC o) (IsCh o):=⟨ZfM⟩
instance {o:ChoV}:NthC (chC o) 0 (.int .u64 o.nb) (IsCh o):=⟨ZwX⟩
instance {o:ChoV}:NthC (chC o) 1 (.int .i64 o.cost) (IsCh o):=⟨ZmE⟩
instance {o:ChoV}:NthC (chC o) 2 (.int .i64 o.btn) (IsCh o):=⟨Zn2⟩
instance {o:RouV}:EncC (roC o) 39 (IsRo o):=⟨Zdy,Zd1 _⟩
instance {o:SrcV}:EncC (srC o) 38 (IsSr o):=⟨Zcj,ZcX _⟩
instance {o:OptV}:EncC (opC o) 2 (IsOp o):=⟨Zfi,Ze6 _⟩
instance {o:ChoV}:EncC (chC o) 3 (IsCh o):=⟨Zfr,Zjv _⟩
end
end Go.Proofs.YtfhkmgcalcfibaaGreat

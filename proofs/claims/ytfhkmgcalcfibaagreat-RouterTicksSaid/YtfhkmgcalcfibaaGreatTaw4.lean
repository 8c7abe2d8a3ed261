/-
  Texts joined.
-/
import Derived.Test.YtfhkmgcalcfibaaGreatTaw3
import Derived.Shelf.SlSortCmp.WholeK
import Derived.Shelf.SlSortCmp.NoneTotal
import Derived.Test.YtfhkmgcalcfibaaGreatProg
set_option linter.unusedVariables false
set_option linter.unusedSimpArgs false
set_option maxHeartbeats 64000000
namespace Go.Proofs.YtfhkmgcalcfibaaGreat
open Go.RowKit
open Go.Proofs.Tryz (prog)
variable {W w:World}{b:Bool}{bt i n:Nat}{h:Int}{l:List AdvV}{p:Prop}{t:DstV}{v:Value}{xs:List Int}
section
section
variable {α:Type}
def vld1(e1:α->Bool)(cm:α->α->Int)(l:List α)(i:Nat):Bool:=match l[i]? with
 |none=>true
 |some a=>e1 a&&(decide (i=0)||match l[i-1]? with
  |none=>true
  |some b=>decide (cm b a<0))
def vldL(n:Nat)(e1:α->Bool)(cm:α->α->Int)(l:List α):Bool:=decide (l.length<=n)&&(List.range l.length).all (vld1 e1 cm l)
variable {n:Nat} {e1:α->Bool} {cm:α->α->Int} {l:List α}
theorem Zpd(h:i<l.length)(h0:i=0):vld1 e1 cm l i=e1 l[i]:=by
 subst h0
 simp[vld1,List.getElem?_eq_getElem h]
theorem ZkE(h:i<l.length)(h0:0<i):vld1 e1 cm l i=(e1 l[i]&&decide (cm (l[i-1]'Q0) l[i]<0)):=by
 have:¬i=0:=by omega
 simp[vld1,List.getElem?_eq_getElem h,List.getElem?_eq_getElem (show i-1<l.length by omega),this]
theorem ZmP(h:i<l.length)(hv:e1 l[i]=false):vld1 e1 cm l i=false:=by
 simp[vld1,List.getElem?_eq_getElem h,hv]
abbrev AscC(cm:α->α->Int)(l:List α):Prop:=l.Pairwise λa b=>cm a b<0
theorem Zdt(tr:∀a b c,cm a b<0->cm b c<0->cm a c<0):vldL n e1 cm l=true↔l.length<=n/\(∀a∈l,e1 a=true)/\AscC cm l:=by
 unfold vldL
 rw[Bool.and_eq_true,decide_eq_true_eq,List.all_eq_true]
 constructor
 ·rintro⟨h1,h2⟩
  have hat:∀i(hi:i<l.length),e1 l[i]=true/\(0<i->∀h:i-1<l.length,cm l[i-1] l[i]<0):=by
   intro i hi
   have:=h2 i (List.mem_range.2 hi)
   simp only[vld1,List.getElem?_eq_getElem hi,Bool.and_eq_true,Bool.or_eq_true,decide_eq_true_eq] at this
   exact vCz
  refine⟨h1,λa ha=>?_,?_⟩
  ·obtain⟨i,hi,rfl⟩:=List.mem_iff_getElem.1 ha
   exact(hat i hi).1
  ·refine List.pairwise_iff_getElem.2 ?_
   intro i j hi hj hij
   have key:∀n,∀(hn:i+1+n<l.length),cm l[i] (l[i+1+n]'hn)<0:=by
    intro n
    induction n with
    |zero=>intro hn;exact(hat (i+1) hn).2 Q0 Q0
    |succ n ih=>
     intro hn
     have h3:=(hat (i+1+(n+1)) hn).2 Q0 Q0
     exact tr _ _ _ (ih Q0) h3
   have:=key (j-i-1) Q0
   simpa[show i+1+(j-i-1)=j by omega] using this
 ·rintro⟨h1,h2,h3⟩
  refine⟨h1,λi hi=>?_⟩
  have hi':=List.mem_range.1 hi
  replace h3:=List.pairwise_iff_getElem.1 h3
  have h4:=h2 l[i] (List.getElem_mem hi')
  simp only[vld1,List.getElem?_eq_getElem hi',h4,Bool.true_and,Bool.or_eq_true,decide_eq_true_eq]
  exact vCf
end
theorem Zfp{a b:Int}:cmpI a b<0↔a<b:=by
 unfold cmpI
 repeat' split
 all_goals omega
def keyR(r:RouV):List Int:=keyD r.to++[r.nb]
def cmpR(a b:RouV):Int:=cmpL (keyR a) (keyR b)
theorem ZnE{d:DstV}(h:IsDv d):(keyD d).length=35:=by
 simp[keyD,h.1.len,h.2.len]
theorem Zkn{a b:RouV}(ha:IsDv a.to)(hb:IsDv b.to):cmpR a b=orI (cmpD a.to b.to) (cmpI a.nb b.nb):=by
 unfold cmpR keyR
 rw[ZhK _ _ _ _ (by rw[ZnE ha,ZnE hb]),ZeF]
 have:cmpL ([]:List Int) []=0:=Ziy _
 rw[this]
 show orI (cmpD a.to b.to) (orI (cmpI a.nb b.nb) 0)=_
 congr 1
 unfold orI
 split<;>simp_all
theorem ZoR{a b c:RouV}(h:cmpR a b<0)(k:cmpR b c<0):cmpR a c<0:=Zde h k
def finD(d:DisV):Bool:=ZaA d.met&& !decide (d.met=inf)
def rou1(r:RouV):Bool:=Za8 r.to&& !decide (r.nb=0)&&finD r.said&&Zag r.til
def Za7(l:List RouV):Bool:=vldL 512 rou1 cmpR l
theorem Zbd{l:List RouV}:Za7 l=true↔l.length<=512/\(∀a∈l,rou1 a=true)/\AscC cmpR l:=Zdt (λ_ _ _ h k=>ZoR h k)
structure PlR(ys:List RouV)(x:RouV)(i:Nat):Prop where
 le:i<=ys.length
 lo:∀j(hj:j<i)(hl:j<ys.length),cmpR ys[j] x<0
 hi:∀j(hj:i<=j)(hl:j<ys.length),0<=cmpR ys[j] x
theorem Zlm{α:Type}{p:α->Bool}{l:List α}(h:∀a∈l,p a=false):l.filter p=[]:=by
 rw[List.filter_eq_nil_iff]
 intro a ha
 rw[h a ha]
 simp
section
variable {ys:List RouV} {x:RouV} {i:Nat} (hP:PlR ys x i)
include hP
end
section
variable {α:Type} {n:Nat} {e1:α->Bool} {cm:α->α->Int} {l:List α} {i:Nat}
theorem ZrU(h:i<l.length)(hv:vld1 e1 cm l i=false)(hb:vldL n e1 cm l=b):b=false:=by
 rw[<-hb]
 unfold vldL
 rw[List.all_eq_false.2 ⟨i,List.mem_range.2 h,by rw[hv];simp⟩,Bool.and_false]
theorem vl_F{x:α}(hb:vldL n e1 cm l=b)(h:i<l.length)(hx:x=l[i])(hv:e1 x=false)(E:Ext [] W w):Value.bool false= .bool b/\Ext [] W w:=⟨by rw[ZrU h (ZmP h (by rw[<-hx];exact hv)) hb],E⟩
theorem vl_S{x y:α}(hb:vldL n e1 cm l=b)(h:i<l.length)(h0:0<i)(hx:x=l[i])(hy:y=l[i-1]'Q0)(hv:¬cm y x<0)(E:Ext [] W w):Value.bool false= .bool b/\Ext [] W w:=⟨by rw[ZrU h (by rw[ZkE h h0,<-hx,<-hy,dqF hv,Bool.and_false]) hb],E⟩
theorem vl_N{x:α}(h:i<l.length)(hx:x=l[i])(ha:∀j,j<i->vld1 e1 cm l j=true)(h1:e1 x=true)(h2:∀h0:0<i,cm (l[i-1]'Q0) x<0):∀j,j<i+1->vld1 e1 cm l j=true:=λj hj=>by
 rcases Nat.lt_or_ge j i with h3|h3
 ·exact ha j h3
 ·obtain rfl:j=i:=by omega
  rcases Nat.eq_zero_or_pos j with h0|h0
  ·rw[Zpd h h0,<-hx];exact h1
  ·rw[ZkE h h0,<-hx,h1,dqT (h2 h0)];rfl
theorem vl_L(hb:vldL n e1 cm l=b)(h:n<l.length)(E:Ext [] W w):Value.bool false= .bool b/\Ext [] W w:=by
 refine⟨?_,E⟩
 rw[<-hb]
 unfold vldL
 rw[dqF Q0,Bool.false_and]
theorem vCX(h:p:=by
  unfold vldL
  rw[dqT h,Bool.true_and,List.all_eq_true.2 λj hj=>ha j (List.mem_range.1 hj)]):p:=h
theorem vl_T(hb:vldL n e1 cm l=b)(h:l.length<=n)(ha:∀j,j<l.length->vld1 e1 cm l j=true)(E:Ext [] W w):Value.bool true= .bool b/\Ext [] W w:=by
 refine⟨?_,E⟩
 rw[<-hb]
 exact vCX
end
end
section
def ava1(a:AdvV):Bool:=Za8 a.to&&ZaA a.own.met
def Zkq(a b:AdvV):Int:=cmpD a.to b.to
theorem ZhS(l:List AdvV):Zbh l=vldL 520 ava1 Zkq l:=by
 have h:adv1 l=vld1 ava1 Zkq l:=by
  funext i
  unfold adv1 vld1 ava1 Zkq
  cases l[i]? with
  |none=>rfl
  |some a=>cases l[i-1]? <;>rfl
 unfold Zbh vldL
 rw[h]
end
section
attribute [local irreducible] OpTo wpListIn Code.wpIn MW Cal
theorem Zou{p:Nat->Bool}(hi:i<n)(h:p i=false):(List.range n).all p=false:=by
 rw[List.all_eq_false]
 exact⟨i,List.mem_range.2 hi,by simp[h]⟩
theorem ZxV{p:Nat->Bool}(h:∀i,i<n->p i=true):(List.range n).all p=true:=by
 rw[List.all_eq_true]
 exact λi hi=>h i (List.mem_range.1 hi)
theorem SlAt.one{sz n:Nat}{xs:List Value}(h:SlAt W sz v n xs):v.oneCell'=true:=by
 obtain⟨p,cap,rfl,_⟩:=h
 rfl
theorem vA6(h:p:=by
  have hil:i=l.length:=by omega
  rw[hil] at hv
  refine W3 [6,0,2,0,8] ?_
  exact Zae rfl rfl rfl λw M=>vl_T hV Q0 hv M.ext):p:=h
theorem vAn(h:p:=by
  refine W3 [13,0,7] ?_
  exact Zae rfl rfl rfl λw M=>vl_L hV c0 M.ext):p:=h
theorem vBb(h:p:=by
  exact Zae rfl rfl rfl λw M=>vl_F hV hlt_i hx0.symm Ql M.ext):p:=h
theorem vCA(h:p:=by
  refine W3 [4,0,2] ?_
  exact yN (i+1) ⟨Q0,vl_N hlt_i hx0.symm hv Ql λ_=>by rw[hy0];exact(by unfold Zkq;omega)⟩):p:=h
theorem vCB(h:p:=by
  refine W3 [8,0,2] ?_
  exact Zae rfl rfl rfl λw M=>vl_S hV hlt_i hi0 hx0.symm hy0.symm (by unfold Zkq;omega) M.ext):p:=h
theorem ZgK(l:List AdvV)(hx:∀x∈l,IsAv x)(v:Value)(W:World)(hS:SlAt W 37 v l.length (avsC l)):
  Cal prog 195 [v].toArray W λr w'=>r= .bool (Zbh l)/\Ext [] W w':=by
 obtain⟨q,cap,rfl,_⟩:=id hS
 have hm:=hS.memB [] Q5
 rw[ZhS]
 generalize hV:vldL 520 ava1 Zkq l=b0
 refine yS (n:=41) Tryz.func195 rfl rfl ?_
 by_cases c0:520<l.length
 ·exact vAn
 refine W3 [13,0,11] ?_
 refine Zau (ι:=Nat) ⟨λ(i:Nat)=>l.length-i,λ(i:Nat)=>i<=l.length/\(∀j,j<i->vld1 ava1 Zkq l j=true),λ(i:Nat)=>[(10, .int .i64 i),(9, .int .i64 l.length),(8, .slice q l.length cap),(0, .slice q l.length cap)],λ(i:Nat)=>[]⟩ 0 ⟨Q0,Q0⟩ (λa F=>F.only [10,9,8,0] rfl) Qa ?_
 rintro i ⟨hi_i,hv⟩
 by_cases hlt_i:i<l.length
 ·obtain⟨b,o,cs,t',fz,rfl,hb,hs⟩:=hm Q0
  obtain⟨x,hx0⟩:∃x,x=l[i]:=⟨_,rfl⟩
  have hxm:x∈l:=by rw[hx0];exact List.getElem_mem hlt_i
  have hxi:IsAv x:=hx _ hxm
  have f1:seg cs (o+(i:Int).toNat*37) 37=some (avC x):=by rw[hx0];exact Zal (ZbV hx) hs hlt_i Q0
  replace hx0:=hx0.symm
  have xd:IsDv x.to:=hxi.1
  refine W3 [6,0,7,0,0] ?_
  refine Zac λb4=>?_
  refine W4 [1,0,6,0,0,2] @Za3 ?_
  refine Zah 19 rfl (λh1=>?_) (λh1=>?_)
  ·replace h1:=Zaa h1
   refine W3 [18,0,2] ?_
   exact vBb
  replace h1:=Zab h1
  refine W4 [2,0,0,4] @ZfC ?_
  refine g_if rfl (λh2=>?_) (λh2=>?_)
  ·replace h2:=Zaa h2
   refine W3 [9,0,2] ?_
   exact vBb
  replace h2:=Zab h2
  refine gQ 2 rfl ?_
  by_cases hi0:0<i
  ·obtain⟨y,hy0⟩:∃y,y=l[i-1]'Q0:=⟨_,rfl⟩
   have yI:IsAv y:=by rw[hy0];exact hx _ (List.getElem_mem _)
   have f2:seg cs (o+((i:Int)-1).toNat*37) 37=some (avC y):=by rw[hy0];exact Zal (ZbV hx) hs (show i-1<l.length by omega) Q0
   replace hy0:=hy0.symm
   have yd:IsDv y.to:=yI.1
   refine W3 [1,1014,3,0,2,0,0,1] ?_
   refine Zb8 rfl Qd (Zbe f2 (Zft Qd) Q0) ?_
   refine W4 [1,0,0,2,0,2] @Zb0 ?_
   refine g_if rfl (λh1=>?_) (λh1=>?_)
   ·replace h1:=dqU h1
    exact vCB
   ·replace h1:=dqV h1
    exact vCA
  ·refine W3 [1,1014,3,0,11,0,7,0,2] ?_
   exact yN (i+1) ⟨Q0,vl_N hlt_i hx0.symm hv Ql λh=>absurd h hi0⟩
 ·exact vA6
theorem ZgR(l:List AdvV)(hx:∀x∈l,IsAv x)(v:Value)(W:World)(hS:SlAt W 37 v l.length (avsC l)):
  Cal prog 201 [v].toArray W λr w'=>r= .bool (Zbh l)/\Ext [] W w':=by
 obtain⟨q,cap,rfl,_⟩:=id hS
 have hm:=hS.memB [] Q5
 rw[ZhS]
 generalize hV:vldL 520 ava1 Zkq l=b0
 refine yS (n:=48) Tryz.func201 rfl rfl ?_
 by_cases c0:520<l.length
 ·exact vAn
 refine W3 [13,0,11] ?_
 refine Zau (ι:=Nat) ⟨λ(i:Nat)=>l.length-i,λ(i:Nat)=>i<=l.length/\(∀j,j<i->vld1 ava1 Zkq l j=true),λ(i:Nat)=>[(9, .int .i64 i),(8, .int .i64 l.length),(7, .slice q l.length cap),(0, .slice q l.length cap)],λ(i:Nat)=>[]⟩ 0 ⟨Q0,Q0⟩ (λa F=>F.only [9,8,7,0] rfl) Qa ?_
 rintro i ⟨hi_i,hv⟩
 by_cases hlt_i:i<l.length
 ·obtain⟨b,o,cs,t',fz,rfl,hb,hs⟩:=hm Q0
  obtain⟨x,hx0⟩:∃x,x=l[i]:=⟨_,rfl⟩
  have hxm:x∈l:=by rw[hx0];exact List.getElem_mem hlt_i
  have hxi:IsAv x:=hx _ hxm
  have f1:seg cs (o+(i:Int).toNat*37) 37=some (avC x):=by rw[hx0];exact Zal (ZbV hx) hs hlt_i Q0
  replace hx0:=hx0.symm
  have xd:IsDv x.to:=hxi.1
  by_cases hi0:0<i
  ·obtain⟨y,hy0⟩:∃y,y=l[i-1]'Q0:=⟨_,rfl⟩
   have yI:IsAv y:=by rw[hy0];exact hx _ (List.getElem_mem _)
   have f2:seg cs (o+((i:Int)-1).toNat*37) 37=some (avC y):=by rw[hy0];exact Zal (ZbV hx) hs (show i-1<l.length by omega) Q0
   replace hy0:=hy0.symm
   have yd:IsDv y.to:=yI.1
   refine W3 [6,0,11,1035,2,0,1] ?_
   refine Zb8 rfl Qd (Zbe f1 (Zft Qd) Q0) ?_
   refine W4 [0,2] @ZaM ?_
   refine ZbQ 19 rfl (λh1=>?_) (λh1=>?_)
   ·replace h1:=Zaa h1
    refine W3 [27,0,11,0,2] ?_
    exact vBb
   ·replace h1:=Zab h1
    refine W3 [2,0,1] ?_
    refine Zb8 rfl Qd (Zbe f1 (ZgH Qd) Q0) ?_
    refine W4 [0,3] @ZbI ?_
    refine ZbQ 28 rfl (λh2=>?_) (λh2=>?_)
    ·replace h2:=Zaa h2
     refine W3 [18,0,11,0,2] ?_
     exact vBb
    ·replace h2:=Zab h2
     refine W3 [3,0,2,0,0,1] ?_
     refine Zb8 rfl Qd (Zbe f2 (Zft Qd) Q0) ?_
     refine W3 [2,0,1] ?_
     refine Zb8 rfl Qd (Zbe f1 (Zft Qd) Q0) ?_
     refine W4 [0,3,0,2] @ZaR ?_
     refine g_if rfl (λh3=>?_) (λh3=>?_)
     ·replace h3:=dqU h3
      exact vCB
     ·replace h3:=dqV h3
      exact vCA
  ·refine W3 [6,0,11,1035,2,0,1] ?_
   refine Zb8 rfl Qd (Zbe Qd (Zft Qd) Q0) ?_
   refine W4 [0,2] @ZaM ?_
   refine ZbQ 19 rfl (λh1=>?_) (λh1=>?_)
   ·replace h1:=Zaa h1
    refine W3 [27,0,11,0,2] ?_
    exact vBb
   ·replace h1:=Zab h1
    refine W3 [2,0,1] ?_
    refine Zb8 rfl Qd (Zbe Qd (ZgH Qd) Q0) ?_
    refine W4 [0,3] @ZbI ?_
    refine ZbQ 28 rfl (λh2=>?_) (λh2=>?_)
    ·replace h2:=Zaa h2
     refine W3 [18,0,11,0,2] ?_
     exact vBb
    ·replace h2:=Zab h2
     refine W3 [3,0,15,0,7,0,2] ?_
     exact yN (i+1) ⟨Q0,vl_N hlt_i hx0.symm hv Ql λh=>absurd h hi0⟩
 ·exact vA6
def plC(v:Value)(full:Int):List Value:=[v, .int .i64 full]
theorem vAu(h:p:=by
  exact Zae rfl rfl rfl λw M=>⟨by simp[*],M.ext⟩):p:=h
theorem vCs(h:p:=by
  exact gQ 8 rfl (Zae rfl rfl rfl λw M=>⟨by simp[*],M.ext⟩)):p:=h
theorem ZmQ(l:List AdvV)(hx:∀x∈l,IsAv x)(v:Value)(full:Int)(W:World)(hS:SlAt W 37 v l.length (avsC l)):
  Cal prog 107 [.agg (plC v full).toArray].toArray W λr w'=>r= .bool (Zbh l&&Zag full)/\Ext [] W w':=by
 have k:=ZgK l hx v
 have h1:=hS.one
 unfold plC
 refine yS (n:=11) Tryz.func107 rfl rfl (gQ 2 rfl (Zai rfl rfl λb1=>?_))
 refine W4 [6,0,0,1] @ZgK ?_
 refine Zah 6 rfl (λh1=>?_) (λh1=>?_)
 ·refine W4 [1,0,0,5] @ZhT ?_
  exact vAu
 ·exact vCs
theorem Zm7(l:List AdvV)(hx:∀x∈l,IsAv x)(v:Value)(full:Int)(W:World)(hS:SlAt W 37 v l.length (avsC l)):
  Cal prog 117 [.agg (plC v full).toArray].toArray W λr w'=>r= .bool (Zbh l&&Zag full)/\Ext [] W w':=by
 have k:=ZgR l hx v
 have h1:=hS.one
 unfold plC
 refine yS (n:=11) Tryz.func117 rfl rfl (gQ 2 rfl (Zai rfl rfl λb1=>?_))
 refine W4 [6,0,0,1] @ZgR ?_
 refine Zah 6 rfl (λh1=>?_) (λh1=>?_)
 ·refine W4 [1,0,0,5] @Zas ?_
  exact vAu
 ·exact vCs
end
section
open Go.ChangeShapes Go.WideShapes Go.ChangeAt Go.RowKit
section
variable {H:Type} {enc:TypeId×Value->H} {w:World} {base:Nat} {sp:Nat->Bool} {held:Bool}
set_option maxRecDepth 100000 in
theorem Zzl(n:Nat)(cs:List Value)(y:DataW H×List MemPlace)(h:DataW.trod enc prog w base sp held n 100 cs=some y):∃x:AdvV,IsAv x/\cs=avC x:=by
 have hw:=Zc8 8 100 (List.replicate 16 (.i .u8)++(.i .i64::(List.replicate 16 (.i .u8)++[.i .i64, .i .u64, .i .u16, .i .i64]))) Q7 n cs y h (.inl Q7)
 obtain⟨c0,c1,rfl,h1,h2⟩:=ZbY hw
 obtain⟨a1,rfl,hl1,hb1⟩:=Zg3 c0 16 h1
 obtain⟨x1,c2,rfl,g1,h3⟩:=Zax h2
 obtain⟨c3,c4,rfl,h4,h5⟩:=ZbY (ks:=List.replicate 16 (LK.i .u8)) (ks':=[LK.i .i64,LK.i .u64,LK.i .u16,LK.i .i64]) h3
 obtain⟨a2,rfl,hl2,hb2⟩:=Zg3 c3 16 h4
 obtain⟨x2,c5,rfl,g2,h6⟩:=Zax h5
 obtain⟨x3,c6,rfl,g3,h7⟩:=Zax h6
 obtain⟨x4,c7,rfl,g4,h8⟩:=Zax h7
 obtain⟨x5,c8,rfl,g5,h9⟩:=Zax h8
 obtain rfl:=ZfP h9
 obtain⟨n1,rfl,_,_⟩:=ZaH g1
 obtain⟨n2,rfl,_,_⟩:=ZaH g2
 obtain⟨n3,rfl,_,_⟩:=ZaH g3
 obtain⟨n4,rfl,_,_⟩:=ZaH g4
 obtain⟨n5,rfl,_,_⟩:=ZaH g5
 exact⟨⟨⟨a1,n1,a2,n2,n3⟩,⟨n4,n5⟩⟩,⟨⟨⟨hl1,hb1⟩,⟨hl2,hb2⟩⟩,trivial⟩,by simp[avC,dvC,diC,pfC]⟩
set_option maxRecDepth 100000 in
theorem Zts(n:Nat)(cs:List Value)(y:DataW H×List MemPlace)(h:DataW.trod enc prog w base sp held n 51 cs=some y):∃(u:Value)(l:List AdvV)(fl:Int),(∀x∈l,IsAv x)/\SlAt w 37 u l.length (avsC l)/\cs=plC u fl:=by
 obtain⟨xs,m,rfl,_,hl,hn,hat⟩:=DataW.trod_struct Tryz.underlying51 h
 have hc:Tryz.prog.cellsOf 51=2:=by kernel_rfl
 have hi:Tryz.prog.cellsOf 3=1:=by kernel_rfl
 have hp:Tryz.prog.cellsOf 49=1:=by kernel_rfl
 rw[hc] at hl
 have hxl:xs.length=2:=hn
 have a0:DataW.trod enc prog w base sp held m 49 ((cs.drop 0).take (Tryz.prog.cellsOf 49))=xs[0]? :=hat 0 _ rfl
 have a1:DataW.trod enc prog w base sp held m 3 ((cs.drop 1).take (Tryz.prog.cellsOf 3))=xs[1]? :=hat 1 _ rfl
 rw[List.getElem?_eq_getElem Q0] at a0 a1
 rw[hp] at a0
 rw[hi] at a1
 obtain⟨u,l,e0,hl0,hS,_⟩:=ZeQ (sz:=37) Tryz.underlying49 Q7 Q0 Zzl a0
 obtain⟨fl,e1,_,_⟩:=DataW.trod_int Tryz.underlying3 a1
 refine⟨u,l,fl,hl0,hS,?_⟩
 match cs,hl,e0,e1 with
 |[c0,c1],_,e0,e1=>
  simp only[List.drop_zero,List.take_succ_cons,List.take_zero,List.drop_succ_cons,List.cons.injEq,and_true] at e0 e1
  rw[e0,e1]
  rfl
end
section
variable {H:Type} {enc:TypeId×Value->H} {w:World} {r:Reach} {b0 base:Nat} {sp:Nat->Bool} {held:Bool} {v:Value} {d:DataW H} {p:List MemPlace}
theorem ZzL{P:Program}{t:TypeId}(ht:Zdh P t=true)(hval:Value.okWide P w r b0 t v):∃cs:List Value,v= .agg cs.toArray:=by
 unfold Zdh at ht
 unfold Value.okWide at hval
 split at ht
 ·rename_i hu;rw[hu] at hval;obtain⟨cs,h,_⟩:=hval;exact⟨cs.toList,by simpa using h⟩
 ·rename_i hu;rw[hu] at hval;obtain⟨cs,h,_⟩:=hval;exact⟨cs.toList,by simpa using h⟩
 ·cases ht
end
section
variable {H:Type} {enc:TypeId×Value->H} {w:World} {base:Nat} {sp:Nat->Bool} {held:Bool}
set_option maxRecDepth 100000 in
theorem Zzk(n:Nat)(cs:List Value)(y:DataW H×List MemPlace)(h:DataW.trod enc prog w base sp held n 74 cs=some y):∃x:InsV,IsIn x/\cs=inC x:=by
 have hw:=Zc8 8 74 (List.replicate 16 (.i .u8)++(.i .i64::(List.replicate 16 (.i .u8)++[.i .i64, .i .u64, .i .u64, .i .u16, .i .i64, .i .i64, .i .i64]))) Q7 n cs y h (.inl Q7)
 obtain⟨c0,c1,rfl,h1,h2⟩:=ZbY hw
 obtain⟨a1,rfl,hl1,hb1⟩:=Zg3 c0 16 h1
 obtain⟨x1,c2,rfl,g1,h3⟩:=Zax h2
 obtain⟨c3,c4,rfl,h4,h5⟩:=ZbY (ks:=List.replicate 16 (LK.i .u8)) (ks':=[LK.i .i64, .i .u64, .i .u64, .i .u16, .i .i64, .i .i64, .i .i64]) h3
 obtain⟨a2,rfl,hl2,hb2⟩:=Zg3 c3 16 h4
 obtain⟨n1,rfl,_,_⟩:=ZaH g1
 obtain⟨y0,d0,rfl,k0,r0⟩:=Zax h5
 obtain⟨m0,rfl,_,_⟩:=ZaH k0
 obtain⟨y1,d1,rfl,k1,r1⟩:=Zax r0
 obtain⟨m1,rfl,_,_⟩:=ZaH k1
 obtain⟨y2,d2,rfl,k2,r2⟩:=Zax r1
 obtain⟨m2,rfl,_,_⟩:=ZaH k2
 obtain⟨y3,d3,rfl,k3,r3⟩:=Zax r2
 obtain⟨m3,rfl,_,_⟩:=ZaH k3
 obtain⟨y4,d4,rfl,k4,r4⟩:=Zax r3
 obtain⟨m4,rfl,_,_⟩:=ZaH k4
 obtain⟨y5,d5,rfl,k5,r5⟩:=Zax r4
 obtain⟨m5,rfl,_,_⟩:=ZaH k5
 obtain⟨y6,d6,rfl,k6,r6⟩:=Zax r5
 obtain⟨m6,rfl,_,_⟩:=ZaH k6
 obtain rfl:=ZfP r6
 exact⟨⟨⟨a1,n1,a2,m0,m1⟩,m2,⟨m3,m4⟩,m5,m6⟩,⟨⟨⟨hl1,hb1⟩,⟨hl2,hb2⟩⟩,trivial⟩,by simp[inC,dvC,diC,pfC]⟩
set_option maxRecDepth 100000 in
theorem Zzi(n:Nat)(cs:List Value)(y:DataW H×List MemPlace)(h:DataW.trod enc prog w base sp held n 76 cs=some y):∃x:RouV,IsRo x/\cs=roC x:=by
 have hw:=Zc8 8 76 (List.replicate 16 (.i .u8)++(.i .i64::(List.replicate 16 (.i .u8)++[.i .i64, .i .u64, .i .u64, .i .u16, .i .i64, .i .i64]))) Q7 n cs y h (.inl Q7)
 obtain⟨c0,c1,rfl,h1,h2⟩:=ZbY hw
 obtain⟨a1,rfl,hl1,hb1⟩:=Zg3 c0 16 h1
 obtain⟨x1,c2,rfl,g1,h3⟩:=Zax h2
 obtain⟨c3,c4,rfl,h4,h5⟩:=ZbY (ks:=List.replicate 16 (LK.i .u8)) (ks':=[LK.i .i64, .i .u64, .i .u64, .i .u16, .i .i64, .i .i64]) h3
 obtain⟨a2,rfl,hl2,hb2⟩:=Zg3 c3 16 h4
 obtain⟨n1,rfl,_,_⟩:=ZaH g1
 obtain⟨y0,d0,rfl,k0,r0⟩:=Zax h5
 obtain⟨m0,rfl,_,_⟩:=ZaH k0
 obtain⟨y1,d1,rfl,k1,r1⟩:=Zax r0
 obtain⟨m1,rfl,_,_⟩:=ZaH k1
 obtain⟨y2,d2,rfl,k2,r2⟩:=Zax r1
 obtain⟨m2,rfl,_,_⟩:=ZaH k2
 obtain⟨y3,d3,rfl,k3,r3⟩:=Zax r2
 obtain⟨m3,rfl,_,_⟩:=ZaH k3
 obtain⟨y4,d4,rfl,k4,r4⟩:=Zax r3
 obtain⟨m4,rfl,_,_⟩:=ZaH k4
 obtain⟨y5,d5,rfl,k5,r5⟩:=Zax r4
 obtain⟨m5,rfl,_,_⟩:=ZaH k5
 obtain rfl:=ZfP r5
 exact⟨⟨⟨a1,n1,a2,m0,m1⟩,m2,⟨m3,m4⟩,m5⟩,⟨⟨⟨hl1,hb1⟩,⟨hl2,hb2⟩⟩,trivial⟩,by simp[roC,dvC,diC,pfC]⟩
set_option maxRecDepth 100000 in
theorem Zzh(n:Nat)(cs:List Value)(y:DataW H×List MemPlace)(h:DataW.trod enc prog w base sp held n 166 cs=some y):∃x:SrcV,IsSr x/\cs=srC x:=by
 have hw:=Zc8 8 166 (List.replicate 16 (.i .u8)++(.i .i64::(List.replicate 16 (.i .u8)++[.i .i64, .i .u64, .i .u16, .i .i64, .i .i64]))) Q7 n cs y h (.inl Q7)
 obtain⟨c0,c1,rfl,h1,h2⟩:=ZbY hw
 obtain⟨a1,rfl,hl1,hb1⟩:=Zg3 c0 16 h1
 obtain⟨x1,c2,rfl,g1,h3⟩:=Zax h2
 obtain⟨c3,c4,rfl,h4,h5⟩:=ZbY (ks:=List.replicate 16 (LK.i .u8)) (ks':=[LK.i .i64, .i .u64, .i .u16, .i .i64, .i .i64]) h3
 obtain⟨a2,rfl,hl2,hb2⟩:=Zg3 c3 16 h4
 obtain⟨n1,rfl,_,_⟩:=ZaH g1
 obtain⟨y0,d0,rfl,k0,r0⟩:=Zax h5
 obtain⟨m0,rfl,_,_⟩:=ZaH k0
 obtain⟨y1,d1,rfl,k1,r1⟩:=Zax r0
 obtain⟨m1,rfl,_,_⟩:=ZaH k1
 obtain⟨y2,d2,rfl,k2,r2⟩:=Zax r1
 obtain⟨m2,rfl,_,_⟩:=ZaH k2
 obtain⟨y3,d3,rfl,k3,r3⟩:=Zax r2
 obtain⟨m3,rfl,_,_⟩:=ZaH k3
 obtain⟨y4,d4,rfl,k4,r4⟩:=Zax r3
 obtain⟨m4,rfl,_,_⟩:=ZaH k4
 obtain rfl:=ZfP r4
 exact⟨⟨⟨a1,n1,a2,m0,m1⟩,⟨m2,m3⟩,m4⟩,⟨⟨⟨hl1,hb1⟩,⟨hl2,hb2⟩⟩,trivial⟩,by simp[srC,dvC,diC,pfC]⟩
end
section
variable {H:Type} {enc:TypeId×Value->H} {w:World} {r:Reach} {b0 base:Nat} {sp:Nat->Bool} {held:Bool} {v:Value} {d:DataW H} {p:List MemPlace}
end
end
section
structure OrgV where
 dip:List Int
 dbits:Int
 sip:List Int
 sbits:Int
 deriving DecidableEq
def ogC(o:OrgV):List Value:=pfC o.dip o.dbits++(pfC o.sip o.sbits)
def IsOg(o:OrgV):Prop:=IsIP o.dip/\IsIP o.sip
theorem ZfH{o:OrgV}(h:IsOg o):(ogC o).length=34:=by
 obtain⟨f_dip,f_dbits,f_sip,f_sbits⟩:=o
 exact vA1
theorem Zyl{o:OrgV}(h:IsOg o):seg (ogC o) 0 34=some (ogC o):=ZbH (ZfH h)
theorem Zyk{o:OrgV}(h:IsOg o):seg (ogC o) 0 17=some (pfC o.dip o.dbits):=by
 obtain⟨f_dip,f_dbits,f_sip,f_sbits⟩:=o
 exact vA1
theorem Zyg{o:OrgV}(h:IsOg o):seg (ogC o) 17 17=some (pfC o.sip o.sbits):=by
 obtain⟨f_dip,f_dbits,f_sip,f_sbits⟩:=o
 exact vA1
theorem Zhk(o:OrgV):(ogC o).all (·.oneCell')=true:=by
 simp[pfC,ipC,ogC,Value.oneCell']
def ogZ:List Value:=[.int .u8 0, .int .u8 0, .int .u8 0, .int .u8 0, .int .u8 0, .int .u8 0, .int .u8 0, .int .u8 0, .int .u8 0, .int .u8 0, .int .u8 0, .int .u8 0, .int .u8 0, .int .u8 0, .int .u8 0, .int .u8 0, .int .i64 0, .int .u8 0, .int .u8 0, .int .u8 0, .int .u8 0, .int .u8 0, .int .u8 0, .int .u8 0, .int .u8 0, .int .u8 0, .int .u8 0, .int .u8 0, .int .u8 0, .int .u8 0, .int .u8 0, .int .u8 0, .int .u8 0, .int .i64 0]
theorem ZsD{o:OrgV}(h:IsOg o):ZaD [(0,17),(17,17)] ogZ [(0,pfC o.dip o.dbits),(1,pfC o.sip o.sbits)]=some (ogC o):=by
 obtain⟨f_dip,f_dbits,f_sip,f_sbits⟩:=o
 exact vA1
theorem Zd4{o:OrgV}(h:IsOg o):ZaD (Zcu 1 34) (Zc4 ogZ (1*34)) [(0,ogC o)]=some (ogC o):=by
 obtain⟨f_dip,f_dbits,f_sip,f_sbits⟩:=o
 exact vA1
abbrev ogK:List LK:=[.i .u8, .i .u8, .i .u8, .i .u8, .i .u8, .i .u8, .i .u8, .i .u8, .i .u8, .i .u8, .i .u8, .i .u8, .i .u8, .i .u8, .i .u8, .i .u8, .i .i64, .i .u8, .i .u8, .i .u8, .i .u8, .i .u8, .i .u8, .i .u8, .i .u8, .i .u8, .i .u8, .i .u8, .i .u8, .i .u8, .i .u8, .i .u8, .i .u8, .i .i64]
theorem Zl3{o:OrgV}(h:IsOg o):ZaZ ogK (ogC o)=true:=by
 obtain⟨f_dip,f_dbits,f_sip,f_sbits⟩:=o
 exact vA1
theorem Zyj{a b:OrgV}(ha:IsOg a)(hb:IsOg b):eqVs (ogC a) (ogC b)=decide (a=b):=by
 have l0:a.dip.length=b.dip.length:=by rw[(ha.1).len,(hb.1).len]
 have l1:a.sip.length=b.sip.length:=by rw[(ha.2).len,(hb.2).len]
 rw[Bool.eq_iff_iff,decide_eq_true_eq]
 obtain⟨a_dip,a_dbits,a_sip,a_sbits⟩:=a
 obtain⟨b_dip,b_dbits,b_sip,b_sbits⟩:=b
 dsimp only at l0 l1
 simp only[ogC,OrgV.mk.injEq]
 rw[ZaL _ _ _ _ (by first|rfl|assumption|(simp[pfC,ipC];assumption))]
 rw[Ziu l0]
 rw[Ziu l1]
 exact vA8
abbrev ogsC(l:List OrgV):List Value:=encL ogC l
theorem ZdF{l:List OrgV}(h:∀x∈l,IsOg x):∀x∈l,(ogC x).length=34:=λx hx=>ZfH (h x hx)
theorem Zqj{l:List OrgV}:(ogsC l).all (·.oneCell')=true:=Ze2 λx _=>Zhk x
structure QuaV where
 known:Bool
 heard:Int
 cnt:Int
 next:Int
 rep:Int
 deriving DecidableEq
def quC(o:QuaV):List Value:=[.bool o.known, .int .u8 o.heard, .int .i64 o.cnt, .int .u16 o.next, .int .i64 o.rep]
def IsQu(o:QuaV):Prop:=True
theorem vBn(h:p:=by
  obtain⟨f_known,f_heard,f_cnt,f_next,f_rep⟩:=o
  rfl):p:=h
theorem Zhj{o:QuaV}(h:IsQu o):(quC o).length=5:=vBn
theorem ZpZ{o:QuaV}(h:IsQu o):seg (quC o) 0 5=some (quC o):=ZbH (Zhj h)
theorem Zsu{o:QuaV}(h:IsQu o):nth (quC o) 0=some (.bool o.known):=vBn
theorem Zsv{o:QuaV}(h:IsQu o):nth (quC o) 1=some (.int .u8 o.heard):=vBn
theorem Zx4{o:QuaV}(h:IsQu o):nth (quC o) 2=some (.int .i64 o.cnt):=vBn
theorem ZvD{o:QuaV}(h:IsQu o):nth (quC o) 3=some (.int .u16 o.next):=vBn
theorem Zx3{o:QuaV}(h:IsQu o):nth (quC o) 4=some (.int .i64 o.rep):=vBn
theorem ZkR(o:QuaV):(quC o).all (·.oneCell')=true:=by
 simp[pfC,ipC,quC,Value.oneCell']
def quZ:List Value:=[.bool false, .int .u8 0, .int .i64 0, .int .u16 0, .int .i64 0]
abbrev quK:List LK:=[.b, .i .u8, .i .i64, .i .u16, .i .i64]
theorem ZpY{a b:QuaV}(ha:IsQu a)(hb:IsQu b):eqVs (quC a) (quC b)=decide (a=b):=by
 rw[Bool.eq_iff_iff,decide_eq_true_eq]
 obtain⟨a_known,a_heard,a_cnt,a_next,a_rep⟩:=a
 obtain⟨b_known,b_heard,b_cnt,b_next,b_rep⟩:=b
 simp only[quC,QuaV.mk.injEq]
 exact vA8
structure AdjV where
 nb:Int
 q:QuaV
 til:Int
 ans:Int
 deriving DecidableEq
def ajC(o:AdjV):List Value:=[.int .u64 o.nb]++(quC o.q++([.int .i64 o.til, .int .i64 o.ans]))
def IsAj(o:AdjV):Prop:=IsQu o.q
theorem vAt(h:p:=by
  obtain⟨f_nb,⟨f_q_known,f_q_heard,f_q_cnt,f_q_next,f_q_rep⟩,f_til,f_ans⟩:=o
  rfl):p:=h
theorem Zhn{o:AdjV}(h:IsAj o):(ajC o).length=8:=vAt
theorem ZzK{o:AdjV}(h:IsAj o):seg (ajC o) 0 8=some (ajC o):=ZbH (Zhn h)
theorem Zo0{o:AdjV}(h:IsAj o):nth (ajC o) 0=some (.int .u64 o.nb):=vAt
theorem aj_q{o:AdjV}(h:IsAj o):seg (ajC o) 1 5=some (quC o.q):=vAt
theorem ZoZ{o:AdjV}(h:IsAj o):nth (ajC o) 1=some (.bool o.q.known):=vAt
theorem ZhM{o:AdjV}(h:IsAj o){z:QuaV}(hz:IsQu z):put (ajC o) 1 (quC z)=some (ajC {o with q:=z}):=by
 obtain⟨f_nb,⟨f_q_known,f_q_heard,f_q_cnt,f_q_next,f_q_rep⟩,f_til,f_ans⟩:=o
 obtain⟨z_known,z_heard,z_cnt,z_next,z_rep⟩:=z
 rfl
theorem ZzE{o:AdjV}(h:IsAj o):nth (ajC o) 6=some (.int .i64 o.til):=vAt
theorem ZzJ{o:AdjV}(h:IsAj o):nth (ajC o) 7=some (.int .i64 o.ans):=vAt
theorem Zhm(o:AdjV):(ajC o).all (·.oneCell')=true:=by
 simp[pfC,ipC,ajC,quC,Value.oneCell']
def ajZ:List Value:=[.int .u64 0, .bool false, .int .u8 0, .int .i64 0, .int .u16 0, .int .i64 0, .int .i64 0, .int .i64 0]
theorem Zfv{o:AdjV}(h:IsAj o):ZaD (Zcu 1 8) (Zc4 ajZ (1*8)) [(0,ajC o)]=some (ajC o):=vAt
abbrev ajK:List LK:=[.i .u64, .b, .i .u8, .i .i64, .i .u16, .i .i64, .i .i64, .i .i64]
theorem ZmN{o:AdjV}(h:IsAj o):ZaZ ajK (ajC o)=true:=vAt
theorem ZzI{a b:AdjV}(ha:IsAj a)(hb:IsAj b):eqVs (ajC a) (ajC b)=decide (a=b):=by
 have l0:=ZpY (ha) (hb)
 have m0:(quC a.q).length=(quC b.q).length:=by rw[Zhj (ha),Zhj (hb)]
 rw[Bool.eq_iff_iff,decide_eq_true_eq]
 obtain⟨a_nb,a_q,a_til,a_ans⟩:=a
 obtain⟨b_nb,b_q,b_til,b_ans⟩:=b
 dsimp only at l0 m0
 simp only[ajC,AdjV.mk.injEq]
 rw[ZaL _ _ _ _ (by first|rfl|assumption|(simp[pfC,ipC];assumption))]
 rw[ZaL _ _ _ _ (by first|rfl|assumption|(simp[pfC,ipC];assumption))]
 rw[l0]
 exact vA8
abbrev ajsC(l:List AdjV):List Value:=encL ajC l
theorem ZdI{l:List AdjV}(h:∀x∈l,IsAj x):∀x∈l,(ajC x).length=8:=λx hx=>Zhn (h x hx)
theorem ZrM{l:List AdjV}:(ajsC l).all (·.oneCell')=true:=Ze2 λx _=>Zhm x
structure ReqV where
 to:DstV
 seq:Int
 hops:Int
 frm:Int
 next:Int
 left:Int
 deriving DecidableEq
def rqC(o:ReqV):List Value:=dvC o.to++([.int .u16 o.seq, .int .i64 o.hops, .int .u64 o.frm, .int .i64 o.next, .int .i64 o.left])
def IsRq(o:ReqV):Prop:=IsDv o.to
theorem vA2(h:p:=by
  obtain⟨⟨f_to_dip,f_to_dbits,f_to_sip,f_to_sbits,f_to_rt⟩,f_seq,f_hops,f_frm,f_next,f_left⟩:=o
  obtain⟨_,_,_,_,_,_,_,_,_,_,_,_,_,_,_,_,e0⟩:=ZdR (show f_to_dip.length=16 from(h.1).len)
  obtain⟨_,_,_,_,_,_,_,_,_,_,_,_,_,_,_,_,e1⟩:=ZdR (show f_to_sip.length=16 from(h.2).len)
  subst e0
  subst e1
  rfl):p:=h
theorem Zb1{o:ReqV}(h:IsRq o):(rqC o).length=40:=vA2
theorem ZpO{o:ReqV}(h:IsRq o):seg (rqC o) 0 40=some (rqC o):=ZbH (Zb1 h)
theorem Zsk{o:ReqV}(h:IsRq o):seg (rqC o) 0 35=some (dvC o.to):=vA2
theorem Zgg{o:ReqV}(h:IsRq o):nth (rqC o) 35=some (.int .u16 o.seq):=vA2
theorem ZpN{o:ReqV}(h:IsRq o):nth (rqC o) 36=some (.int .i64 o.hops):=vA2
theorem Zvn{o:ReqV}(h:IsRq o):nth (rqC o) 38=some (.int .i64 o.next):=vA2
theorem ZfQ{o:ReqV}(h:IsRq o)(z:Int):put (rqC o) 38 [.int .i64 z]=some (rqC {o with next:=z}):=vA2
theorem ZlV{o:ReqV}(h:IsRq o):nth (rqC o) 39=some (.int .i64 o.left):=vA2
theorem ZeO{o:ReqV}(h:IsRq o)(z:Int):put (rqC o) 39 [.int .i64 z]=some (rqC {o with left:=z}):=vA2
theorem ZcY(o:ReqV):(rqC o).all (·.oneCell')=true:=by
 simp[pfC,ipC,rqC,dvC,Value.oneCell']
def rqZ:List Value:=[.int .u8 0, .int .u8 0, .int .u8 0, .int .u8 0, .int .u8 0, .int .u8 0, .int .u8 0, .int .u8 0, .int .u8 0, .int .u8 0, .int .u8 0, .int .u8 0, .int .u8 0, .int .u8 0, .int .u8 0, .int .u8 0, .int .i64 0, .int .u8 0, .int .u8 0, .int .u8 0, .int .u8 0, .int .u8 0, .int .u8 0, .int .u8 0, .int .u8 0, .int .u8 0, .int .u8 0, .int .u8 0, .int .u8 0, .int .u8 0, .int .u8 0, .int .u8 0, .int .u8 0, .int .i64 0, .int .u64 0, .int .u16 0, .int .i64 0, .int .u64 0, .int .i64 0, .int .i64 0]
theorem Znb{o:ReqV}(h:IsRq o):ZaD [(0,35),(35,1),(36,1),(37,1),(38,1),(39,1)] rqZ [(0,dvC o.to),(1,[.int .u16 o.seq]),(2,[.int .i64 o.hops]),(3,[.int .u64 o.frm]),(4,[.int .i64 o.next]),(5,[.int .i64 o.left])]=some (rqC o):=vA2
theorem ZbO{o:ReqV}(h:IsRq o):ZaD (Zcu 1 40) (Zc4 rqZ (1*40)) [(0,rqC o)]=some (rqC o):=vA2
abbrev rqK:List LK:=[.i .u8, .i .u8, .i .u8, .i .u8, .i .u8, .i .u8, .i .u8, .i .u8, .i .u8, .i .u8, .i .u8, .i .u8, .i .u8, .i .u8, .i .u8, .i .u8, .i .i64, .i .u8, .i .u8, .i .u8, .i .u8, .i .u8, .i .u8, .i .u8, .i .u8, .i .u8, .i .u8, .i .u8, .i .u8, .i .u8, .i .u8, .i .u8, .i .u8, .i .i64, .i .u64, .i .u16, .i .i64, .i .u64, .i .i64, .i .i64]
theorem ZlW{o:ReqV}(h:IsRq o):ZaZ rqK (rqC o)=true:=vA2
theorem ZxR{a b:ReqV}(ha:IsRq a)(hb:IsRq b):eqVs (rqC a) (rqC b)=decide (a=b):=by
 have l0:=Zc3 (ha) (hb)
 have m0:(dvC a.to).length=(dvC b.to).length:=by rw[Zbl (ha),Zbl (hb)]
 rw[Bool.eq_iff_iff,decide_eq_true_eq]
 obtain⟨a_to,a_seq,a_hops,a_frm,a_next,a_left⟩:=a
 obtain⟨b_to,b_seq,b_hops,b_frm,b_next,b_left⟩:=b
 dsimp only at l0 m0
 simp only[rqC,ReqV.mk.injEq]
 rw[ZaL _ _ _ _ (by first|rfl|assumption|(simp[pfC,ipC];assumption))]
 rw[l0]
 exact vA8
abbrev rqsC(l:List ReqV):List Value:=encL rqC l
theorem ZbB{l:List ReqV}(h:∀x∈l,IsRq x):∀x∈l,(rqC x).length=40:=λx hx=>Zb1 (h x hx)
theorem Zfd{l:List ReqV}:(rqsC l).all (·.oneCell')=true:=Ze2 λx _=>ZcY x
instance {o:OrgV}:SegC (ogC o) 0 34 (ogC o) (IsOg o):=⟨Zyl⟩
instance {o:OrgV}:SegC (ogC o) 0 17 (pfC o.dip o.dbits) (IsOg o):=⟨Zyk⟩
instance {o:OrgV}:SegC (ogC o) 17 17 (pfC o.sip o.sbits) (IsOg o):=⟨Zyg⟩
instance {o:QuaV}:SegC (quC o) 0 5 (quC o) (IsQu o):=⟨ZpZ⟩
instance {o:QuaV}:NthC (quC o) 0 (.bool o.known) (IsQu o):=⟨Zsu⟩
instance {o:QuaV}:NthC (quC o) 1 (.int .u8 o.heard) (IsQu o):=⟨Zsv⟩
instance {o:QuaV}:NthC (quC o) 2 (.int .i64 o.cnt) (IsQu o):=⟨Zx4⟩
instance {o:QuaV}:NthC (quC o) 3 (.int .u16 o.next) (IsQu o):=⟨ZvD⟩
instance {o:QuaV}:NthC (quC o) 4 (.int .i64 o.rep) (IsQu o):=⟨Zx3⟩
instance {o:AdjV}:SegC (ajC o) 0 8 (ajC o) (IsAj o):=⟨ZzK⟩
instance {o:AdjV}:NthC (ajC o) 0 (.int .u64 o.nb) (IsAj o):=⟨Zo0⟩
instance {o:AdjV}:SegC (ajC o) 1 5 (quC o.q) (IsAj o):=⟨aj_q⟩
instance {o:AdjV}:NthC (ajC o) 1 (.bool o.q.known) (IsAj o):=⟨ZoZ⟩
instance {o:AdjV}:NthC (ajC o) 6 (.int .i64 o.til) (IsAj o):=⟨ZzE⟩
instance {o:AdjV}:NthC (ajC o) 7 (.int .i64 o.ans) (IsAj o):=⟨ZzJ⟩
instance {o:ReqV}:SegC (rqC o) 0 40 (rqC o) (IsRq o):=⟨ZpO⟩
instance {o:ReqV}:SegC (rqC o) 0 35 (dvC o.to) (IsRq o):=⟨Zsk⟩
instance {o:ReqV}:NthC (rqC o) 35 (.int .u16 o.seq) (IsRq o):=⟨Zgg⟩
instance {o:ReqV}:NthC (rqC o) 36 (.int .i64 o.hops) (IsRq o):=⟨ZpN⟩
instance {o:ReqV}:NthC (rqC o) 38 (.int .i64 o.next) (IsRq o):=⟨Zvn⟩
instance {o:ReqV}:NthC (rqC o) 39 (.int .i64 o.left) (IsRq o):=⟨ZlV⟩
instance {o:OrgV}:EncC (ogC o) 34 (IsOg o):=⟨ZfH,Zhk _⟩
instance {o:QuaV}:EncC (quC o) 5 (IsQu o):=⟨Zhj,ZkR _⟩
instance {o:AdjV}:EncC (ajC o) 8 (IsAj o):=⟨Zhn,Zhm _⟩
instance {o:ReqV}:EncC (rqC o) 40 (IsRq o):=⟨Zb1,ZcY _⟩
end
section
attribute [local irreducible] OpTo wpListIn Code.wpIn MW Cal
def qu0:QuaV:=⟨false,0,0,0,0⟩
structure BdQu(o:QuaV):Prop where
 h:0<=o.heard/\o.heard<256
 c: -9223372036854775808<=o.cnt/\o.cnt<=9223372036854775807
 r: -9223372036854775808<=o.rep/\o.rep<=9223372036854775807
theorem BdQu.zero:BdQu qu0:=⟨by decide,by decide,by decide⟩
def shl1(n:Int):Int:=IntKind.i64.wrap (1*2^min n.toNat IntKind.i64.bits)
def QuP(o:QuaV):Prop:=1<=o.cnt/\o.cnt<=8/\o.heard≠0/\o.heard<shl1 o.cnt/\0<=o.rep/\o.rep<=65535
instance (o:QuaV):Decidable (QuP o):=by unfold QuP;infer_instance
def quIn(o:QuaV):Bool:=decide (QuP o)
theorem qiT{o:QuaV}(h1:1<=o.cnt)(h2:o.cnt<=8)(h3:o.heard≠0)(h4:o.heard<shl1 o.cnt)(h5:0<=o.rep):Value.bool (decide (o.rep<=65535))= .bool (quIn o):=by
 unfold quIn
 congr 1
 rw[decide_eq_decide]
 exact⟨λh=>⟨h1,h2,h3,h4,h5,h⟩,λh=>h.2.2.2.2.2⟩
theorem qiF{o:QuaV}(h:¬QuP o):Value.bool false= .bool (quIn o):=by unfold quIn;rw[dqF h]
def Zci(o:QuaV):Bool:=if o.known then quIn o else decide (o=qu0)
def Zaf(o:QuaV):QuaV:=if Zci o then o else qu0
theorem Zfe{o:QuaV}(h:o.known=true):Zci o=quIn o:=by unfold Zci;rw[h];rfl
theorem Zl2{o:QuaV}(h:o.known=false):Zci o=decide (o=qu0):=by unfold Zci;rw[h];rfl
theorem ZkT{o:QuaV}(h:o=qu0):Zci o=true:=by subst h;rfl
theorem Zch{o:QuaV}(h:BdQu o):BdQu (Zaf o):=by
 unfold Zaf
 split
 ·exact h
 ·exact BdQu.zero
def Zhs(h:Int)(i:Nat):Int:=ZbL .and .i64 (IntKind.i64.wrap (Int.fdiv h (2^min i 8))) 1
def popN(h:Int)(n:Nat):Int:=((List.range n).map (Zhs h)).sum
theorem Zw3:∀(h:Fin 256)(i:Fin 8),Zhs (h.val:Int) i.val=((h.val/2^i.val % 2:Nat):Int)/\IntKind.i64.wrap (ZbL .and .u8 (Int.fdiv (h.val:Int) (2^min i.val 8)) 1)=((h.val/2^i.val % 2:Nat):Int):=by decide+kernel
theorem ZrF(h0:0<=h)(h1:h<256)(hi:i<8):IntKind.i64.wrap (ZbL .and .u8 (Int.fdiv h (2^min i 8)) 1)=Zhs h i/\0<=Zhs h i/\Zhs h i<=1:=by
 obtain⟨n,rfl⟩:=Int.eq_ofNat_of_zero_le h0
 have:=Zw3 ⟨n,Q0⟩ ⟨i,hi⟩
 dsimp only at this
 rw[this.1,this.2]
 omega
theorem Zh5(h:Int)(n:Nat):popN h (n+1)=popN h n+Zhs h n:=by simp[popN,List.range_succ]
theorem ZfT{h:Int}(h0:0<=h)(h1:h<256):∀n,n<=8->0<=popN h n/\popN h n<=n
 |0,_=>by simp[popN]
 |n+1,hn=>by
  have:=ZfT h0 h1 n Q0
  have:=(ZrF h0 h1 (show n<8 by omega)).2
  rw[Zh5]
  omega
theorem ZvK:∀h:Fin 256,h.val≠0->popN (h.val:Int) 8≠0:=by decide+kernel
theorem ZvL(h0:0<=h)(h1:h<256)(hn:h≠0):0<popN h 8:=by
 obtain⟨n,rfl⟩:=Int.eq_ofNat_of_zero_le h0
 have h2:=ZvK ⟨n,Q0⟩ Q6
 have:=ZfT (Int.natCast_nonneg n) h1 8 Q0
 dsimp only at h2
 omega
def upV(a b:Int):Int:=(a+b-1).tdiv b
def rxV(o:QuaV):Int:=if popN (Zaf o).heard 8=0 then 65535 else upV (256*(Zaf o).cnt) (popN (Zaf o).heard 8)
def Zhr(o:QuaV):Int:=if rxV (Zaf o)=65535∨(Zaf o).rep=0∨(Zaf o).rep=65535 then 65535 else if 65534<upV ((if(Zaf o).rep<256 then 256 else(Zaf o).rep)*rxV (Zaf o)) 256 then 65534 else upV ((if(Zaf o).rep<256 then 256 else(Zaf o).rep)*rxV (Zaf o)) 256
theorem Zks{o:QuaV}(h:(Zaf o).known=true):quIn (Zaf o)=true:=by
 unfold Zaf at*
 split at h
 ·rename_i hv
  rw[if_pos hv]
  rw[Zfe h] at hv
  exact hv
 ·cases h
theorem ZiB{o:QuaV}(h:(Zaf o).known=false):Zaf o=qu0:=by
 unfold Zaf at*
 split at h
 ·rename_i hv
  rw[if_pos hv]
  rw[Zl2 h] at hv
  exact dqU hv
 ·rename_i hv
  rw[if_neg hv]
theorem Znh{o:QuaV}:quIn o=true↔1<=o.cnt/\o.cnt<=8/\o.heard≠0/\o.heard<shl1 o.cnt/\0<=o.rep/\o.rep<=65535:=by
 unfold quIn
 rw[decide_eq_true_eq]
 exact Iff.rfl
theorem ZeG(o:QuaV):0<=(Zaf o).cnt/\(Zaf o).cnt<=8/\0<=(Zaf o).rep/\(Zaf o).rep<=65535:=by
 cases h:(Zaf o).known with
 |true=>have:=Znh.1 (Zks h);omega
 |false=>rw[ZiB h];decide
theorem Zp3{o:QuaV}(hb:BdQu o):popN (Zaf o).heard 8=0↔(Zaf o).known=false:=by
 have hb':=Zch hb
 constructor
 ·intro h
  cases hk:(Zaf o).known with
  |false=>rfl
  |true=>
   have:=Znh.1 (Zks hk)
   have:=ZvL hb'.h.1 hb'.h.2 this.2.2.1
   omega
 ·intro h
  rw[ZiB h]
  rfl
theorem ZxL{o:QuaV}(hb:BdQu o):0<=rxV o/\rxV o<=65535:=by
 have hb':=Zch hb
 have hc:=ZeG o
 have hp:=ZfT hb'.h.1 hb'.h.2 8 Q0
 unfold rxV
 split
 ·omega
 ·rename_i h
  unfold upV
  rw[Int.tdiv_eq_ediv_of_nonneg Q0]
  have h1:=Int.ediv_nonneg (show 0<=256*(Zaf o).cnt+popN (Zaf o).heard 8-1 by omega) hp.1
  have h2:=Int.ediv_le_self (popN (Zaf o).heard 8) (show 0<=256*(Zaf o).cnt+popN (Zaf o).heard 8-1 by omega)
  omega
theorem vAw(h:p:=by
  exact⟨qiF (λhp=>by unfold QuP shl1 at hp;omega),M.ext⟩):p:=h
theorem ZjP(o:QuaV)(hb:BdQu o)(W:World):Cal prog 187 [.agg (quC o).toArray].toArray W λr w'=>r= .bool (Zci o)/\Ext [] W w':=by
 have hb1:=hb.h
 have hb2:=hb.c
 have hb3:=hb.r
 have hf2:ZaZ quK quZ=true:=rfl
 by_cases h0:o=qu0
 ·rw[ZkT h0]
  subst h0
  have ez:eqVs (quC qu0) quZ=true:=rfl
  have hf1:ZaZ quK (quC qu0)=true:=rfl
  refine yS (n:=42) Tryz.func187 rfl rfl (gQ 2 rfl (Zai rfl rfl λb1=>?_))
  refine W3 [6,0,0] ?_
  refine Zli rfl rfl Qd Qd Qd ?_
  exact gQ 10 rfl (Zae rfl rfl rfl λw M=>⟨rfl,M.ext⟩)
 ·have e0:decide (o=qu0)=false:=dqF h0
  have ez:eqVs (quC o) quZ=false:=(ZpY (b:=qu0) trivial trivial).trans e0
  have hf1:ZaZ quK (quC o)=true:=rfl
  cases hk:o.known with
  |false=>
   rw[Zl2 hk,e0]
   refine yS (n:=42) Tryz.func187 rfl rfl (gQ 2 rfl (Zai rfl rfl λb1=>?_))
   refine W3 [6,0,0] ?_
   refine Zli rfl rfl Qd Qd Qd ?_
   refine W3 [6,1037,1,0,1,0,34,0,3] ?_
   exact vA5
  |true=>
   rw[Zfe hk]
   refine yS (n:=42) Tryz.func187 rfl rfl (gQ 2 rfl (Zai rfl rfl λb1=>?_))
   refine W3 [6,0,0] ?_
   refine Zli rfl rfl Qd Qd Qd ?_
   refine W3 [6,1037,1,0,1,0,1,0,3] ?_
   refine ZbQ 13 rfl (λh1=>?_) (λh1=>?_)
   ·replace h1:=dqU h1
    refine W3 [1,0,3] ?_
    refine ZbQ 18 rfl (λh2=>?_) (λh2=>?_)
    ·replace h2:=dqU h2
     refine W3 [1,0,3] ?_
     refine ZbQ 23 rfl (λh3=>?_) (λh3=>?_)
     ·replace h3:=Zbx h3
      refine W3 [1,0] ?_
      refine ZwD rfl Qv ?_
      refine W3 [1,0] ?_
      refine fd_v (λa w F M R r=>Zqn (F.e rfl) (F.e rfl) Q0 rfl r) (fR 3 rfl (ZbQ 32 rfl (λh4=>?_) (λh4=>?_)))
      ·replace h4:=dqU h4
       refine W3 [1,0,3] ?_
       refine ZbQ 37 rfl (λh5=>?_) (λh5=>?_)
       ·replace h5:=dqU h5
        refine W3 [1,0,3,0,3] ?_
        exact Zae rfl rfl rfl λw M=>⟨qiT Qd Qd Qd Qd Qd,M.ext⟩
       ·replace h5:=dqV h5
        refine W3 [5,0,3] ?_
        refine Zae rfl rfl rfl λw M=>?_
        exact vAw
      ·replace h4:=dqV h4
       refine W3 [10,0,3] ?_
       refine Zae rfl rfl rfl λw M=>?_
       exact vAw
     ·replace h3:=ZaJ h3
      refine W3 [19,0,3] ?_
      refine Zae rfl rfl rfl λw M=>?_
      exact vAw
    ·replace h2:=dqV h2
     refine W3 [24,0,3] ?_
     refine Zae rfl rfl rfl λw M=>?_
     exact vAw
   ·replace h1:=dqV h1
    refine W3 [29,0,3] ?_
    refine Zae rfl rfl rfl λw M=>?_
    exact vAw
theorem Zh1(o:QuaV)(hb:BdQu o)(W:World):Cal prog 113 [.agg (quC o).toArray].toArray W λr w'=>r= .bool (Zci o)/\Ext [] W w':=by
 have hb1:=hb.h
 have hb2:=hb.c
 have hb3:=hb.r
 have hf2:ZaZ quK quZ=true:=rfl
 by_cases h0:o=qu0
 ·rw[ZkT h0]
  subst h0
  have ez:eqVs (quC qu0) quZ=true:=rfl
  have hf1:ZaZ quK (quC qu0)=true:=rfl
  refine yS (n:=42) Tryz.func113 rfl rfl (gQ 2 rfl (Zai rfl rfl λb1=>?_))
  refine W3 [7,0,6,0,0] ?_
  refine Zli rfl rfl Qd Qd Qd ?_
  exact gQ 5 rfl (Zae rfl rfl rfl λw M=>⟨rfl,M.ext⟩)
 ·have e0:decide (o=qu0)=false:=dqF h0
  have ez:eqVs (quC o) quZ=false:=(ZpY (b:=qu0) trivial trivial).trans e0
  have hf1:ZaZ quK (quC o)=true:=rfl
  cases hk:o.known with
  |false=>
   rw[Zl2 hk,e0]
   refine yS (n:=42) Tryz.func113 rfl rfl (gQ 2 rfl (Zai rfl rfl λb1=>?_))
   refine W3 [7,0,3,0,2,0,0] ?_
   refine Zli rfl rfl Qd Qd Qd ?_
   exact gQ 5 rfl (Zae rfl rfl rfl λw M=>⟨rfl,M.ext⟩)
  |true=>
   rw[Zfe hk]
   refine yS (n:=42) Tryz.func113 rfl rfl (gQ 2 rfl (Zai rfl rfl λb1=>?_))
   refine W3 [7,0,3,0,5,0,2] ?_
   refine Zah 12 rfl (λh1=>?_) (λh1=>?_)
   ·replace h1:=dqU h1
    refine W3 [1,0,3] ?_
    refine Zah 17 rfl (λh2=>?_) (λh2=>?_)
    ·replace h2:=dqU h2
     refine W3 [1,0,3] ?_
     refine Zah 22 rfl (λh3=>?_) (λh3=>?_)
     ·replace h3:=Zbx h3
      refine W3 [1,0] ?_
      refine Zei rfl Qv ?_
      refine W3 [1,0] ?_
      refine Zei rfl (Ze9 Q0 Q0) (g_v (λa w F M R r=>Zqn (F.e rfl) (F.e rfl) Q0 rfl r) (gQ 3 rfl (Zah 32 rfl (λh4=>?_) (λh4=>?_))))
      ·replace h4:=dqU h4
       refine W3 [1,0,3] ?_
       refine Zah 37 rfl (λh5=>?_) (λh5=>?_)
       ·replace h5:=dqU h5
        refine W3 [1,0,6] ?_
        exact Zae rfl rfl rfl λw M=>⟨qiT Qd Qd Qd Qd Qd,M.ext⟩
       ·replace h5:=dqV h5
        refine gQ 8 rfl (Zae rfl rfl rfl λw M=>?_)
        exact vAw
      ·replace h4:=dqV h4
       refine gQ 13 rfl (Zae rfl rfl rfl λw M=>?_)
       exact vAw
     ·replace h3:=ZaJ h3
      refine gQ 23 rfl (Zae rfl rfl rfl λw M=>?_)
      exact vAw
    ·replace h2:=dqV h2
     refine gQ 28 rfl (Zae rfl rfl rfl λw M=>?_)
     exact vAw
   ·replace h1:=dqV h1
    refine gQ 33 rfl (Zae rfl rfl rfl λw M=>?_)
    exact vAw
theorem vBj(h:p:=by
  exact Zbn 0 rfl rfl rfl rfl rfl λw M=>⟨rfl,M.ext⟩):p:=h
theorem Zfz(o:QuaV)(hb:BdQu o)(W:World):Cal prog 249 [.agg (quC o).toArray].toArray W λr w'=>r= .agg (quC (Zaf o)).toArray/\Ext [] W w':=by
 unfold Zaf
 cases hv:Zci o with
 |true=>
  rw[if_pos rfl]
  refine yS (n:=8) Tryz.func249 rfl rfl (gQ 2 rfl (Zai rfl rfl λb1=>Zac λb2=>?_))
  refine W4 [5,0,0,3,0,4,0,0,3] @ZjP ?_
  exact Zbn 0 rfl rfl rfl rfl (ZpZ trivial) λw M=>⟨rfl,M.ext⟩
 |false=>
  rw[if_neg Bool.false_ne_true]
  refine yS (n:=8) Tryz.func249 rfl rfl (gQ 2 rfl (Zai rfl rfl λb1=>Zac λb2=>?_))
  refine W4 [5,0,0,3,0,2,0,0,4] @ZjP ?_
  exact vBj
theorem Zd0(o:QuaV)(hb:BdQu o)(W:World):Cal prog 227 [.agg (quC o).toArray].toArray W λr w'=>r= .agg (quC (Zaf o)).toArray/\Ext [] W w':=by
 unfold Zaf
 cases hv:Zci o with
 |true=>
  rw[if_pos rfl]
  refine yS (n:=8) Tryz.func227 rfl rfl (gQ 2 rfl (Zai rfl rfl λb1=>Zac λb2=>?_))
  refine W4 [5,0,0,3,0,4,0,0,3] @Zh1 ?_
  exact vBj
 |false=>
  rw[if_neg Bool.false_ne_true]
  refine yS (n:=8) Tryz.func227 rfl rfl (gQ 2 rfl (Zai rfl rfl λb1=>Zac λb2=>?_))
  refine W4 [5,0,0,3,0,2,0,0,4] @Zh1 ?_
  exact vBj
theorem ZmR{a b:Int}(h0:0<=a)(h1:a<=4294967296)(h2:0<b)(h3:b<=65536):0<=upV a b/\upV a b<=4295032832:=by
 unfold upV
 rw[Int.tdiv_eq_ediv_of_nonneg Q0]
 have k1:=Int.ediv_nonneg (show 0<=a+b-1 by omega) (show 0<=b by omega)
 have k2:=Int.ediv_le_self b (show 0<=a+b-1 by omega)
 omega
theorem vC8(h:p:=by
  refine W3 [9,0,0,1] ?_
  exact g_v (λa w F M R r=>Zk0 (F.e rfl) (F.e rfl) Q0 rfl r) (gQ 4 rfl (Zae rfl rfl rfl λw M=>⟨by rw[hw],M.ext⟩))):p:=h
theorem Zni(a b:Int)(h0:0<=a)(h1:a<=4294967296)(h2:0<b)(h3:b<=65536)(W:World):Cal prog 250 [.int .i64 a, .int .i64 b].toArray W λr w'=>r= .int .i64 (upV a b)/\Ext [] W w':=by
 have hq:=ZmR h0 h1 h2 h3
 have hw:IntKind.i64.wrap ((a+b-1).tdiv b)=upV a b:=ZlB (by unfold upV at hq;omega) (by unfold upV at hq;omega)
 refine yS (n:=11) Tryz.func250 rfl rfl ?_
 exact vC8
theorem ZtX(a b:Int)(h0:0<=a)(h1:a<=4294967296)(h2:0<b)(h3:b<=65536)(W:World):Cal prog 283 [.int .i64 a, .int .i64 b].toArray W λr w'=>r= .int .i64 (upV a b)/\Ext [] W w':=by
 have hq:=ZmR h0 h1 h2 h3
 have hw:IntKind.i64.wrap ((a+b-1).tdiv b)=upV a b:=ZlB (by unfold upV at hq;omega) (by unfold upV at hq;omega)
 refine yS (n:=11) Tryz.func283 rfl rfl ?_
 exact vC8
theorem Zx6(o:QuaV)(hb:BdQu o)(W:World):Cal prog 162 [.agg (quC o).toArray].toArray W λr w'=>r= .int .i64 (rxV o)/\Ext [] W w':=by
 have hb':=Zch hb
 have hc:=ZeG o
 have hpc:=Zp3 hb
 have hb1:=hb'.h
 have hp8:=ZfT hb1.1 hb1.2 8 Q0
 cases hk:(Zaf o).known with
 |false=>
  have hz:=ZiB hk
  unfold rxV
  rw[if_pos (hpc.2 hk)]
  refine yS (n:=27) Tryz.func162 rfl rfl (gQ 2 rfl (Zai rfl rfl λb1=>?_))
  refine W4 [5,0,0,0,6,0,3,0,7] @Zfz ?_
  exact vA5
 |true=>
  have hn:popN (Zaf o).heard 8≠0:=λe=>by rw[hpc.1 e] at hk;cases hk
  unfold rxV
  rw[if_neg hn]
  refine yS (n:=27) Tryz.func162 rfl rfl (gQ 2 rfl (Zai rfl rfl λb1=>?_))
  refine W4 [5,0,0,0,6,0,3,0,14] @Zfz ?_
  refine Zau (ι:=Nat) ⟨λi=>8-i,λi=>i<=8,λ(i:Nat)=>[(10, .int .i64 i),(3, .int .i64 (popN (Zaf o).heard i)),(1, .pointer (some ⟨b1,0,none⟩))],λ_=>[[(b1, .cells (quC (Zaf o)).toArray 122 (0,0))]]⟩ 0 Q0 (λa F=>F.only [10,3,1] rfl) Qa ?_
  intro i hi
  dsimp only at hi⊢
  by_cases hlt:i<8
  ·have hbi:IntKind.i64.wrap (ZbL .and .u8 (Int.fdiv (Zaf o).heard (2^min (i:Int).toNat IntKind.u8.bits)) 1)=Zhs (Zaf o).heard i/\0<=Zhs (Zaf o).heard i/\Zhs (Zaf o).heard i<=1:=ZrF hb1.1 hb1.2 hlt
   have hpi:=ZfT hb1.1 hb1.2 i Q0
   have hps:=Zh5 (Zaf o).heard i
   refine W3 [6,0,13,0,1] ?_
   refine g_v (λa w F M R r=>ZoA (F.e rfl) (F.e rfl) Q0 rfl r) (g_v (λa w F M R r=>ZsN (F.e rfl) (F.e rfl) rfl r) ?_)
   refine W3 [0,0,5,0,2] ?_
   exact Zgz (i+1) Q6 Q6 (λa F=>by dsimp only;rw[hps,<-hbi.1];exact F.only [10,3,1] rfl) Qb
  ·obtain rfl:i=8:=by omega
   refine W3 [9,0,5,0] ?_
   refine Zq8 rfl rfl Qv ?_
   refine W4 [1,0,4] @Zni ?_
   exact vA5
theorem ZpL(o:QuaV)(hb:BdQu o)(W:World):Cal prog 207 [.agg (quC o).toArray].toArray W λr w'=>r= .int .i64 (rxV o)/\Ext [] W w':=by
 have hb':=Zch hb
 have hc:=ZeG o
 have hb1:=hb'.h
 have hp8:=ZfT hb1.1 hb1.2 8 Q0
 refine yS (n:=26) Tryz.func207 rfl rfl (gQ 2 rfl (Zai rfl rfl λb1=>?_))
 refine W4 [5,0,0,0,14] @Zd0 ?_
 refine Zau (ι:=Nat) ⟨λi=>8-i,λi=>i<=8,λ(i:Nat)=>[(4, .int .u64 i),(3, .int .i64 (popN (Zaf o).heard i)),(1, .pointer (some ⟨b1,0,none⟩))],λ_=>[[(b1, .cells (quC (Zaf o)).toArray 122 (0,0))]]⟩ 0 Q0 (λa F=>F.only [4,3,1] rfl) Qa ?_
 intro i hi
 dsimp only at hi⊢
 by_cases hlt:i<8
 ·have hbi:ZbL .and .i64 (IntKind.i64.wrap (Int.fdiv (Zaf o).heard (2^min (i:Int).toNat IntKind.u8.bits))) 1=Zhs (Zaf o).heard i/\0<=Zhs (Zaf o).heard i/\Zhs (Zaf o).heard i<=1:=⟨rfl,(ZrF hb1.1 hb1.2 hlt).2⟩
  have hpi:=ZfT hb1.1 hb1.2 i Q0
  have hps:=Zh5 (Zaf o).heard i
  refine W3 [7,0,7,0,1] ?_
  refine g_v (λa w F M R r=>ZoA (F.e rfl) (F.e rfl) Q0 rfl r) (Zei rfl rfl (g_v (λa w F M R r=>ZsN (F.e rfl) (F.e rfl) rfl r) ?_))
  refine W3 [0,6,0,2] ?_
  exact Zgz (i+1) Q6 Q6 (λa F=>by dsimp only;rw[hps,<-hbi.1];exact F.only [4,3,1] rfl) Qb
 ·obtain rfl:i=8:=by omega
  unfold rxV
  by_cases hn:popN (Zaf o).heard 8=0
  ·rw[if_pos hn]
   refine W3 [10,0,9,0,7] ?_
   exact vA5
  ·rw[if_neg hn]
   refine W3 [10,0,9,0,5,0] ?_
   refine Zq8 rfl rfl Qv ?_
   refine W4 [1,0,4] @ZtX ?_
   exact vA5
theorem Zud{a b:Int}(h0:0<=a)(h1:a<=65535)(h2:0<=b)(h3:b<=65535):0<=a*b/\a*b<=4294967296:=by
 have k1:=Int.mul_nonneg h0 h2
 have k2:=Int.mul_le_mul h1 h3 h2 (show(0:Int)<=65535 by omega)
 omega
theorem vCO(h:p:=by
  replace h1:=dqU h1
  exact gQ 19 rfl (Zae rfl rfl rfl λw M=>⟨c1 (by simp_all),M.ext⟩)):p:=h
theorem vCP(h:p:=by
  replace h2:=dqU h2
  exact gQ 14 rfl (Zae rfl rfl rfl λw M=>⟨c1 (by simp_all),M.ext⟩)):p:=h
theorem vCS(h:p:=by
  replace h3:=dqU h3
  exact gQ 7 rfl (Zae rfl rfl rfl λw M=>⟨c1 (by simp_all),M.ext⟩)):p:=h
theorem ZvF(o:QuaV)(hb:BdQu o)(W:World):Cal prog 202 [.agg (quC o).toArray].toArray W λr w'=>r= .int .i64 (Zhr o)/\Ext [] W w':=by
 have hb':=Zch hb
 have hc:=ZeG o
 have hr:=ZxL hb'
 have hm:=Zud (show 0<=(if(Zaf o).rep<256 then 256 else(Zaf o).rep) by split<;>omega) (show(if(Zaf o).rep<256 then 256 else(Zaf o).rep)<=65535 by split<;>omega) hr.1 hr.2
 have hq:=ZmR hm.1 hm.2 (show(0:Int)<256 by omega) Q0
 have c1:rxV (Zaf o)=65535∨(Zaf o).rep=0∨(Zaf o).rep=65535->Value.int .i64 65535= .int .i64 (Zhr o):=λh=>by unfold Zhr;rw[if_pos h]
 have c2:¬(rxV (Zaf o)=65535∨(Zaf o).rep=0∨(Zaf o).rep=65535)->Value.int .i64 (if 65534<upV ((if(Zaf o).rep<256 then 256 else(Zaf o).rep)*rxV (Zaf o)) 256 then 65534 else upV ((if(Zaf o).rep<256 then 256 else(Zaf o).rep)*rxV (Zaf o)) 256)= .int .i64 (Zhr o):=λh=>by unfold Zhr;rw[if_neg h]
 refine yS (n:=27) Tryz.func202 rfl rfl (gQ 2 rfl (Zai rfl rfl λb1=>?_))
 refine W4 [5,0,0,0,4,0,0,9] (T2 @Zfz @Zx6) ?_
 refine Zah 10 rfl (λh1=>?_) (λh1=>?_)
 ·exact vCO
 ·replace h1:=dqV h1
  refine W3 [1,0,3] ?_
  refine Zah 15 rfl (λh2=>?_) (λh2=>?_)
  ·exact vCP
  ·replace h2:=dqV h2
   refine W3 [1,0,4] ?_
   refine g_if rfl (λh3=>?_) (λh3=>?_)
   ·exact vCS
   ·replace h3:=dqV h3
    refine W3 [5,0] ?_
    refine g_v (λa w F M R r=>ZoB (F.e rfl) (F.e rfl) r) (gQ 1 rfl (Zq8 rfl rfl Qv ?_))
    refine W4 [0] @Zni ?_
    exact g_v (λa w F M R r=>ZiE (F.e rfl) (F.e rfl) r) (gQ 4 rfl (Zae rfl rfl rfl λw M=>⟨c2 (by simp_all),M.ext⟩))
theorem Zsi(o:QuaV)(hb:BdQu o)(W:World):Cal prog 203 [.agg (quC o).toArray].toArray W λr w'=>r= .int .i64 (Zhr o)/\Ext [] W w':=by
 have hb':=Zch hb
 have hc:=ZeG o
 have hr:=ZxL hb'
 have hm:=Zud (show 0<=(if(Zaf o).rep<256 then 256 else(Zaf o).rep) by split<;>omega) (show(if(Zaf o).rep<256 then 256 else(Zaf o).rep)<=65535 by split<;>omega) hr.1 hr.2
 have hq:=ZmR hm.1 hm.2 (show(0:Int)<256 by omega) Q0
 have c1:rxV (Zaf o)=65535∨(Zaf o).rep=0∨(Zaf o).rep=65535->Value.int .i64 65535= .int .i64 (Zhr o):=λh=>by unfold Zhr;rw[if_pos h]
 have c2:¬(rxV (Zaf o)=65535∨(Zaf o).rep=0∨(Zaf o).rep=65535)->Value.int .i64 (if 65534<upV ((if(Zaf o).rep<256 then 256 else(Zaf o).rep)*rxV (Zaf o)) 256 then 65534 else upV ((if(Zaf o).rep<256 then 256 else(Zaf o).rep)*rxV (Zaf o)) 256)= .int .i64 (Zhr o):=λh=>by unfold Zhr;rw[if_neg h]
 refine yS (n:=26) Tryz.func203 rfl rfl (gQ 2 rfl (Zai rfl rfl λb1=>?_))
 refine W4 [5,0,0,0,5,0,0,2] (T2 @Zd0 @ZpL) ?_
 refine Zah 8 rfl (λh1=>?_) (λh1=>?_)
 ·exact vCO
 ·replace h1:=dqV h1
  refine W3 [1,0,3] ?_
  refine Zah 13 rfl (λh2=>?_) (λh2=>?_)
  ·exact vCP
  ·replace h2:=dqV h2
   refine W3 [1,0,4] ?_
   refine g_if rfl (λh3=>?_) (λh3=>?_)
   ·exact vCS
   ·replace h3:=dqV h3
    refine W3 [3,1009,1,0] ?_
    refine fd_v (λa w F M R r=>ZoB (F.e rfl) (F.e rfl) r) ?_
    refine W4 [0,0] @ZpL ?_
    refine Zy9 rfl rfl Qv ?_
    refine W4 [0] @ZtX ?_
    refine fd_v (λa w F M R r=>ZiE (F.e rfl) (F.e rfl) r) ?_
    refine W3 [1,0,3] ?_
    exact Zae rfl rfl rfl λw M=>⟨c2 (by simp_all),M.ext⟩
theorem ZrW(x:Int):0<=IntKind.u8.wrap x/\IntKind.u8.wrap x<256:=vBH
def addQ(o:QuaV)(e:Int):QuaV:= {o with heard:=IntKind.u8.wrap (ZbL .and .i64 (o.heard*2+e) 255),cnt:=if 8<o.cnt+1 then 8 else o.cnt+1}
structure SmQu(o:QuaV):Prop where
 b:BdQu o
 c:0<=o.cnt/\o.cnt<=8
theorem SmQu.clean{o:QuaV}(h:BdQu o):SmQu (Zaf o):=⟨Zch h,by have:=ZeG o;omega⟩
theorem SmQu.add{o:QuaV}(h:SmQu o)(e:Int):SmQu (addQ o e):=⟨⟨ZrW _,by have:=h.c;unfold addQ;dsimp only;split<;>omega,h.b.r⟩,by have:=h.c;unfold addQ;dsimp only;split<;>omega⟩
theorem ZjO(o:QuaV)(hb:SmQu o)(e:Int)(h0:0<=e)(h1:e<=1)(W:World):Cal prog 228 [.agg (quC o).toArray, .int .i64 e].toArray W λr w'=>r= .agg (quC (addQ o e)).toArray/\Ext [] W w':=by
 have hb1:=hb.b.h
 have hc:=hb.c
 refine yS (n:=20) Tryz.func228 rfl rfl (gQ 2 rfl (Zai rfl rfl λb2=>Zac λb4=>?_))
 refine W3 [5,0] ?_
 refine Zei rfl Qv (Zq8 rfl rfl Qv ?_)
 refine W3 [1,0] ?_
 refine g_v (λa w F M R r=>ZsN (F.e rfl) (F.e rfl) rfl r) ?_
 refine W3 [0,1,0,5,0,0] ?_
 refine g_v (λa w F M R r=>ZiE (F.e rfl) (F.e rfl) r) ?_
 refine W3 [1,0,4,0,0,3] ?_
 exact vBj
def PhQ(r:Value)(W w':World):Prop:=∃o,SmQu o/\r= .agg (quC o).toArray/\Ext [] W w'
theorem vAD(h:p:=by
  refine Zbn 0 rfl rfl rfl rfl rfl λw M=>?_
  exact⟨⟨true,1,1,IntKind.u16.wrap (s+1),0⟩,⟨⟨by dsimp only;omega,by dsimp only;omega,by dsimp only;omega⟩,by dsimp only;omega⟩,rfl,M.ext⟩):p:=h
theorem Zh2(o:QuaV)(hb:BdQu o)(s:Int)(W:World):Cal prog 139 [.agg (quC o).toArray, .int .u16 s].toArray W λr w'=>PhQ r W w':=by
 have hs:=SmQu.clean hb
 refine yS (n:=53) Tryz.func139 rfl rfl (gQ 2 rfl (Zai rfl rfl λb2=>Zac λb4=>?_))
 refine W4 [4,0,0,0,6,0,0,0,0,7,0,2] @Zd0 ?_
 refine Zah 17 rfl (λh1=>?_) (λh1=>?_)
 ·replace h1:=Zaa h1
  refine W3 [13,0,0,0,4] ?_
  exact vAD
 replace h1:=Zab h1
 refine gQ 4 rfl (Zah 21 rfl (λh2=>?_) (λh2=>?_))
 ·replace h2:=dqU h2
  refine W3 [9,0,0,0,4] ?_
  exact vAD
 replace h2:=dqV h2
 refine gQ 5 rfl (g_if rfl (λh3=>?_) (λh3=>?_))
 ·replace h3:=dqU h3
  refine W3 [3,0,0,0,4] ?_
  exact vAD
 replace h3:=dqV h3
 refine gQ 4 rfl (Zau (ι:=QuaV×Int) ⟨λ(y,d)=>(0-d).toNat,λ(y,d)=>SmQu y/\d<=8∧-8<=d,λ(y,d)=>[(5, .int .i64 d),(1, .int .u16 s),(2, .pointer (some ⟨b2,0,none⟩)),(4, .pointer (some ⟨b4,0,none⟩))],λ(y,d)=>[[(b4, .cells [Value.bool false,Value.int .u8 0,Value.int .i64 0,Value.int .u16 0,Value.int .i64 0].toArray 122 (0,0))],[(b2, .cells (quC y).toArray 122 (0,0))]]⟩ (Zaf o,IntKind.i64.wrap (IntKind.i16.wrap (IntKind.u16.wrap (s-(Zaf o).next)))) ⟨hs,Q0,Q0⟩ (λa F=>F.only [5,1,2,4] rfl) Qa ?_)
 rintro⟨y,d⟩ ⟨hy,hd⟩
 dsimp only at hy hd⊢
 have hy1:=hy.b.h
 have hy2:=hy.c
 by_cases hlt:d<0
 ·refine W3 [7,0,7,0] ?_
  refine g_v (λa w F M R r=>Zk0 (F.e rfl) (F.e rfl) Q0 rfl r) ?_
  refine W3 [1,0,4,0,0] ?_
  refine g_v (λa w F M R r=>ZoB (F.e rfl) (F.e rfl) r) ?_
  refine W3 [1,0,5,0,2] ?_
  exact yN ({y with heard:=IntKind.u8.wrap (y.heard.tdiv 2),cnt:=if y.cnt-1<0 then 0 else y.cnt-1},d+1) ⟨⟨⟨ZrW _,by dsimp only;split<;>omega,hy.b.r⟩,by dsimp only;split<;>omega⟩,Q0,Q0⟩
 refine W3 [7,0,2,0,4] ?_
 refine Zau (ι:=QuaV×Int) ⟨λ(y,d)=>d.toNat,λ(y,d)=>SmQu y/\d<=8,λ(y,d)=>[(5, .int .i64 d),(1, .int .u16 s),(2, .pointer (some ⟨b2,0,none⟩)),(4, .pointer (some ⟨b4,0,none⟩))],λ(y,d)=>[[(b4, .cells [Value.bool false,Value.int .u8 0,Value.int .i64 0,Value.int .u16 0,Value.int .i64 0].toArray 122 (0,0))],[(b2, .cells (quC y).toArray 122 (0,0))]]⟩ (y,d) ⟨hy,Q0⟩ (λa F=>F.only [5,1,2,4] rfl) Qa ?_
 rintro⟨y,d⟩ ⟨hy,hd⟩
 dsimp only at hy hd⊢
 have hy1:=hy.b.h
 have hy2:=hy.c
 by_cases hlt:0<d
 ·refine W4 [7,0,5,0,0,0,5,0,2] @ZjO ?_
  exact yN (addQ y 0,d-1) ⟨hy.add 0,Q0⟩
 refine W4 [7,0,2,0,4,0,0,0,5,0,1,0,4,0,0,3] @ZjO ?_
 refine Zbn 0 rfl rfl rfl rfl rfl λw M=>?_
 have ha:=hy.add 1
 exact⟨{addQ y 1 with next:=IntKind.u16.wrap (s+1)},⟨⟨ha.b.h,ha.b.c,ha.b.r⟩,ha.c⟩,rfl,M.ext⟩
theorem vBB(h:p:=by
  exact Zbn 0 rfl rfl rfl rfl rfl λw M=>⟨Zaf o,hs,rfl,M.ext⟩):p:=h
theorem Zot(o:QuaV)(hb:BdQu o)(W:World):Cal prog 140 [.agg (quC o).toArray].toArray W λr w'=>PhQ r W w':=by
 have hs:=SmQu.clean hb
 have ha:=hs.add 0
 refine yS (n:=20) Tryz.func140 rfl rfl (gQ 2 rfl (Zai rfl rfl λb1=>Zac λb2=>?_))
 refine W4 [4,0,0,0,6,0,3] @Zd0 ?_
 refine g_if rfl (λh1=>?_) (λh1=>?_)
 ·replace h1:=Zaa h1
  refine W3 [2,0,0,4] ?_
  exact vBB
 ·replace h1:=Zab h1
  refine W4 [4,0,0,0,5,0,0,1,0,6,0,3] @ZjO ?_
  refine g_if rfl (λh2=>?_) (λh2=>?_)
  ·replace h2:=dqU h2
   refine W3 [2,0,0,4] ?_
   exact Zbn 0 rfl rfl rfl rfl rfl λw M=>⟨qu0,⟨BdQu.zero,by decide⟩,rfl,M.ext⟩
  ·replace h2:=dqV h2
   refine W3 [4,0,0,3] ?_
   exact Zbn 0 rfl rfl rfl rfl rfl λw M=>⟨{addQ (Zaf o) 0 with next:=IntKind.u16.wrap ((addQ (Zaf o) 0).next+1)},⟨⟨ha.b.h,ha.b.c,ha.b.r⟩,ha.c⟩,rfl,M.ext⟩
theorem Zos(o:QuaV)(hb:BdQu o)(c:Int)(hc: -9223372036854775808<=c/\c<=9223372036854775807)(W:World):Cal prog 141 [.agg (quC o).toArray, .int .i64 c].toArray W λr w'=>PhQ r W w':=by
 have hs:=SmQu.clean hb
 refine yS (n:=20) Tryz.func141 rfl rfl (gQ 2 rfl (Zai rfl rfl λb2=>Zac λb4=>?_))
 refine W4 [4,0,0,0,6,0,1] @Zd0 ?_
 refine Zah 9 rfl (λh1=>?_) (λh1=>?_)
 ·refine gQ 4 rfl (Zah 13 rfl (λh2=>?_) (λh2=>?_))
  ·replace h2:=dqU h2
   refine gQ 5 rfl (g_if rfl (λh3=>?_) (λh3=>?_))
   ·replace h3:=dqU h3
    refine W3 [3,0,4,0,0,3] ?_
    exact Zbn 0 rfl rfl rfl rfl rfl λw M=>⟨{Zaf o with rep:=c},⟨⟨hs.b.h,hs.b.c,hc⟩,hs.c⟩,rfl,M.ext⟩
   ·replace h3:=dqV h3
    refine W3 [4,0,0,3] ?_
    exact vBB
  ·replace h2:=dqV h2
   refine W3 [10,0,0,3] ?_
   exact vBB
 ·refine W3 [14,0,0,3] ?_
  exact vBB
def di0:DisV:=⟨0,0⟩
def dvV(d:DstV):Value:= .agg (dvC d).toArray
def diV(d:DisV):Value:= .agg (diC d).toArray
theorem Zld(h:∀j(hj:j<l.length),j<i->l[j].to≠t)(hi:i<l.length)(e:l[i].to=t):getO l t=some l[i].own:=by
 have h1:=List.find?_append (xs:=l.take i) (ys:=l[i]::l.drop (i+1)) (p:=λa=>decide (a.to=t))
 rw[List.getElem_cons_drop,List.take_append_drop] at h1
 unfold getO
 rw[h1,List.find?_eq_none.2 ?_]
 ·rw[<-List.getElem_cons_drop hi,List.find?_cons]
  simp[e]
 ·intro x hx
  obtain⟨j,hj,rfl⟩:=List.mem_iff_getElem.1 hx
  simp only[List.length_take] at hj
  simp only[List.getElem_take,decide_eq_true_eq]
  exact h j Q0 Q0
theorem Zih(h:∀j(hj:j<l.length),l[j].to≠t):getO l t=none:=by
 rw[Zle]
 intro a ha
 obtain⟨j,hj,rfl⟩:=List.mem_iff_getElem.1 ha
 exact h j hj
theorem vAx(h:p:=by
  exact ZdP F rfl (.cons (.cell (F.e rfl) (Zam TAgg.h (M.heap Q1) rfl)) (.cons (.tmp (F.e rfl)) .nil)) ⟨rfl,M.ext⟩):p:=h
theorem vBT(h:p:=by
  rcases Nat.lt_or_ge j i with h1|h1
  ·exact hv j hj h1
  ·obtain rfl:j=i:=by omega
   exact h):p:=h
theorem vCt(h:p:=by
  exact ZdP F rfl (.cons (.cell (F.e rfl) (Zam TAgg.h (M.heap Q1) e5)) (.cons (.tmp (F.e rfl)) .nil)) ⟨rfl,M.ext⟩):p:=h
theorem ZxW(l:List AdvV)(hx:∀x∈l,IsAv x)(hlen:l.length<=100000)(v:Value)(d:DstV)(hd:IsDv d)(W:World)(hS:SlAt W 37 v l.length (avsC l)):
  Cal prog 291 [v, .agg (dvC d).toArray].toArray W λr w'=>r= .tuple [diV ((getO l d).getD di0), .bool (getO l d).isSome].toArray/\Ext [] W w':=by
 obtain⟨q,cap,rfl,hcap,hsp,hl,hm⟩:=hS
 have d1:=Zcx hd
 have d2:=Zbl hd
 have d3:=ZaG hd
 refine Zar (n:=22) [] Tryz.func291 rfl rfl rfl ?_
 intro a w F M hwW
 refine W1 2 ?_;intro a F
 refine Qs F M ?_;clear F M;intro b3 w M a F
 (refine sD F (Zay M ?_);clear F M;intro b4 w M a F)
 refine W1 12 ?_;intro a F
 refine ZbK (λm a w=>∃i:Nat,m=l.length-i/\i<=l.length/\(∀j(hj:j<l.length),j<i->l[j].to≠d)/\Frm a 22 [] [(10, .int .i64 i),(9, .int .i64 l.length),(8, .slice q l.length cap),(3, .pointer (some ⟨b3,0,none⟩)),(4, .pointer (some ⟨b4,0,none⟩)),(5, .bool false)]/\Mem [] W w [(b4, .cells [Value.int .u16 0, .int .i64 0].toArray 72 (0,0)),(b3, .cells (dvC d).toArray 67 (0,0))]) l.length ⟨0,rfl,Q0,Q0,F.only [10,9,8,3,4,5] rfl,M⟩ ?_
 clear F M
 rintro m a w ⟨i,hm',hi,hv,F,M⟩
 by_cases hlt:i<l.length
 ·obtain⟨b,o,cs,t,fz,rfl,hb,hs⟩:=hm Q0
  have hxv:=hx _ (List.getElem_mem hlt)
  have f1:seg cs (o+(i:Int).toNat*37) 37=some (avC l[i]):=Zal (ZbV hx) hs hlt Q0
  have hget:=Zld hv hlt
  have hne:l[i].to≠d->∀j(hj:j<l.length),j<i+1->l[j].to≠d:=λh j hj hj2=>by
   exact vBT
  obtain⟨x,hx0⟩:∃x,x=l[i]:=⟨_,rfl⟩
  rw[<-hx0] at hxv f1 hget hne
  have f2:(avC x).length=37:=Zcy hxv
  have f3:=Zft hxv
  have f4:=ZgH hxv
  have f6:=ZaG hxv.1
  have f7:=Zc3 hxv.1 hd
  refine W1 15 ?_;intro a F
  (refine sD F (Zay M ?_);clear F M;intro b7 w M a F)
  skip
  (refine ZaW rfl F (Zap M (F.e rfl) (F.e rfl) (f2) (Zco x)  Q1  (Zat (by rw[f2];rfl)) Q1 ?_);clear F M;intro w M a F)
  refine W1 10 ?_;intro a F
  by_cases he:x.to=d
  ·rw[f7,dqT he] at F
   rw[hget he]
   refine W1 5 ?_;intro a F
   (refine ZaW rfl F (Zap M (F.e rfl) (F.e rfl) (ZbE (o:=x.own) trivial) (Ze8 x.own)  Q1  (Zat (by rw[ZbE (o:=x.own) trivial];rfl)) Q1 ?_);clear F M;intro w M a F)
   refine W1 9 ?_;intro a F
   have e5:seg (diC x.own) 0 2=some (diC x.own):=ZbR (o:=x.own) trivial
   exact vCt
  ·rw[f7,dqF he] at F
   refine W1 9 ?_;intro a F
   exact⟨_,Q0,i+1,rfl,Q0,hne he,F.only [10,9,8,3,4,5] rfl,M.sub (List.sublist_cons_self _ _)⟩
 ·obtain rfl:i=l.length:=by omega
  rw[Zih (λj hj=>hv j hj hj)]
  refine W5 20 trivial ?_;intro a w F M
  exact vAx
theorem Zj5:Zhv prog 67 dvV IsDv:=Zjc (ks:=dvK) Q7 dvC (λ_ h=>ZaG h) (λ_ _ h k=>Zc3 h k)
def mapD(l:List AdvV):List (DstV×DisV):=l.foldl (λm x=>putA x.to x.own m) []
def mapV(m:List (DstV×DisV)):List (DstV×Value):=m.map λp=>(p.1,diV p.2)
theorem vBm(h:p:=by
  rw[List.take_add_one,List.getElem?_eq_getElem h,List.foldl_append]
  rfl):p:=h
theorem ZqG(h:i<l.length):mapD (l.take (i+1))=putA l[i].to l[i].own (mapD (l.take i)):=by
 unfold mapD
 exact vBm
theorem Zmi{l:List AdvV}(h:∀x∈l,IsDv x.to):∀p∈mapD l,IsDv p.1:=by
 have key:∀(l:List AdvV)(m:List (DstV×DisV)),(∀x∈l,IsDv x.to)->(∀p∈m,IsDv p.1)->∀p∈l.foldl (λm x=>putA x.to x.own m) m,IsDv p.1:=by
  intro l
  induction l with
  |nil=>intro m _ hm;exact hm
  |cons x l ih=>intro m hl hm;exact ih _ (λy hy=>hl y (List.mem_cons_of_mem _ hy)) (Znk (hl x List.mem_cons_self) hm)
 exact key l [] h Q5
theorem Zlg{l:List AdvV}(h:AscA l)(t:DstV):getA t (mapD l)=getO l t:=by
 have key:∀(l:List AdvV)(m:List (DstV×DisV)),AscA l->getA t (l.foldl (λm x=>putA x.to x.own m) m)=match getO l t with|some o=>some o|none=>getA t m:=by
  intro l
  induction l with
  |nil=>intro m _;rfl
  |cons x l ih=>
   intro m hl
   obtain⟨h1,h2⟩:=List.pairwise_cons.1 hl
   rw[List.foldl_cons,ih _ h2,ZdA,Zgx]
   by_cases e:x.to=t
   ·subst e
    rw[Lo.ne h1]
    simp
   ·rw[if_neg e,if_neg (λe2=>e e2.symm)]
 have:=key l [] h
 rw[mapD,this]
 cases getO l t<;>rfl
theorem Zj4{m:List (DstV×DisV)}(h:∀p∈m,IsDv p.1):∀p∈mapV m,IsDv p.1:=by
 intro p hp
 obtain⟨q,hq,rfl⟩:=List.mem_map.1 hp
 exact h q hq
theorem Zlf(t:DstV)(m:List (DstV×DisV)):getA t (mapV m)=(getA t m).map diV:=ZhE diV t m
theorem Zn3(l:List AdvV)(hx:∀x∈l,IsAv x)(hlen:l.length<=100000)(v:Value)(W:World)(hS:SlAt W 37 v l.length (avsC l)):
  Cal prog 252 [v].toArray W λr w'=>∃ent,OwnM dvV r (mapV (mapD l)) ent/\Mem [] W w' ent:=by
 obtain⟨q,cap,rfl,hcap,hsp,hl,hm⟩:=hS
 refine Zar (n:=22) [] Tryz.func252 rfl rfl rfl ?_
 intro a w F M hwW
 refine W1 9 ?_;intro a F
 (refine sD F (Zk1 M (F.e rfl) ?_);clear F M;intro b3 w M a F)
 refine W1 12 ?_;intro a F
 refine ZbK (λm a w=>∃(i:Nat)(u:Value)(ent:EN),m=l.length-i/\i<=l.length/\OwnM dvV u (mapV (mapD (l.take i))) ent/\Frm a 22 [] [(11, .int .i64 i),(10, .int .i64 l.length),(9, .slice q l.length cap),(3,u)]/\Mem [] W w ent) l.length ⟨0,_,_,rfl,Q0,⟨b3,_,rfl,rfl,ZiL.empty _⟩,F.only [11,10,9,3] rfl,M⟩ ?_
 clear F M
 rintro m a w ⟨i,u,ent,hm',hi,hO,F,M⟩
 by_cases hlt:i<l.length
 ·obtain⟨b,o,cs,t,fz,rfl,hb,hs⟩:=hm Q0
  have hxv:=hx _ (List.getElem_mem hlt)
  have f1:seg cs (o+(i:Int).toNat*37) 37=some (avC l[i]):=Zal (ZbV hx) hs hlt Q0
  have hmt:=ZqG hlt
  have hall:=Zj4 (Zmi (l:=l.take i) λx h=>(hx x (List.mem_of_mem_take h)).1)
  obtain⟨x,hx0⟩:∃x,x=l[i]:=⟨_,rfl⟩
  rw[<-hx0] at hxv f1 hmt
  have f2:(avC x).length=37:=Zcy hxv
  have f3:=Zft hxv
  have f4:=ZgH hxv
  refine W1 15 ?_;intro a F
  (refine sD F (Zay M ?_);clear F M;intro b5 w M a F)
  skip
  (refine ZaW rfl F (Zap M (F.e rfl) (F.e rfl) (f2) (Zco x)  Q1  (Zat (by rw[f2];rfl)) Q1 ?_);clear F M;intro w M a F)
  refine W1 8 ?_;intro a F
  (refine ZaW rfl F (ZeT (u:=diV x.own) Zj5 M hO (.cons .here) hall (a:=x.to) hxv.1 (F.e rfl) (F.e rfl) (F.e rfl) ?_);clear F M;intro ent2 w hO2 M a F)
  refine W1 8 ?_;intro a F
  exact⟨_,Q0,i+1,u,ent2,rfl,Q0,by rw[hmt];unfold mapV;rw[<-Zhx];exact hO2,F.only [11,10,9,3] rfl,M.sub (List.sublist_cons_self _ _)⟩
 ·obtain rfl:i=l.length:=by omega
  rw[List.take_length] at hO
  refine W1 19 ?_;intro a F
  exact Qq F (⟨ent,hO,M⟩)
theorem vAr(h:p:=by
  refine W1 18 ?_;intro a F
  replace F:=F.only [13,12,0,1,5] rfl
  refine Za4 8 F Q7 ?_
  intro w1 hE hok
  have M1:=M.later hE
  refine W2 8 hok ?_
  (refine Qx M1 ?_;clear F M M1 hok hE;intro a w F M;(try dsimp only at F))
  refine W1 12 ?_;intro a F
  exact⟨_,Q0,i+1,rfl,Q0,F.only [13,12,0,1] rfl,M⟩):p:=h
theorem vBR(h:p:=by
  refine W1 18 ?_;intro a F
  exact Qq F (⟨rfl,M.ext⟩)):p:=h
theorem Ztn(l:List AdvV)(hx:∀x∈l,IsAv x)(hlen:l.length<=100000)(u v:Value)(W:World)(hu:SlAt W 37 u l.length (avsC l))(hv:SlAt W 37 v l.length (avsC l)):
  Cal prog 40 [u,v].toArray W λr w'=>r= .bool true/\Ext [] W w':=by
 obtain⟨q1,cap1,rfl,hc1,hn1,hl1,hm1⟩:=hu
 obtain⟨q2,cap2,rfl,hc2,hn2,hl2,hm2⟩:=hv
 refine Zar (n:=26) [] Tryz.func40 rfl rfl rfl ?_
 intro a w F M hwW
 refine W1 27 ?_;intro a F
 refine ZbK (λm a w=>∃i:Nat,m=l.length-i/\i<=l.length/\Frm a 26 [] [(13, .int .i64 i),(12, .int .i64 l.length),(0, .slice q1 l.length cap1),(1, .slice q2 l.length cap2)]/\Mem [] W w []) l.length ⟨0,rfl,Q0,F.only [13,12,0,1] rfl,M⟩ ?_
 clear F M
 rintro m a w ⟨i,hm',hi,F,M⟩
 by_cases hlt:i<l.length
 ·obtain⟨b,o,cs,t,fz,rfl,hb,hs⟩:=hm1 Q0
  obtain⟨b',o',cs',t',fz',rfl,hb',hs'⟩:=hm2 Q0
  obtain⟨p,hp0⟩:∃p,p=l[i]:=⟨_,rfl⟩
  have hpi:IsAv p:=by rw[hp0];exact hx _ (List.getElem_mem hlt)
  have f1:seg cs (o+(i:Int).toNat*37) 37=some (avC p):=by rw[hp0];exact Zal (ZbV hx) hs hlt Q0
  have f2:seg cs' (o'+(i:Int).toNat*37) 37=some (avC p):=by rw[hp0];exact Zal (ZbV hx) hs' hlt Q0
  have f3:=Zw7 hpi
  have f4:eqVs (avC p) (avC p)=true:=by rw[ZAk hpi hpi];simp
  exact vAr
 ·obtain rfl:i=l.length:=by omega
  exact vBR
theorem Zm2{p:Option Addr}{len cap k:Nat}(W:World)(hT:Zbz W bt p len xs)(hb:W.heap[bt]? =some (tobj p len cap k)):
  Cal prog 57 [.pointer (some ⟨bt,0,none⟩)].toArray W λv w'=>∃x k',v= .int .u16 x/\Mem [bt] W w' [(bt,tobj p len cap k')]:=by
 have n1:=Zbb xs k (n:=6) Q0
 refine Zcm (n:=7) [bt] hb Q5 Zbj Zbi Tryz.func57 rfl rfl rfl ?_
 refine W4 [8,0,0,0,4] @Za1 ?_
 exact Zae rfl rfl rfl λw M=>⟨_,_,rfl,M⟩
theorem vBp(h:p:=by
  exact Zae rfl rfl rfl λw M=>⟨_,_,rfl,Q0,M⟩):p:=h
theorem ZwU{p:Option Addr}{len cap k:Nat}(W:World)(hT:Zbz W bt p len xs)(hb:W.heap[bt]? =some (tobj p len cap k)):
  Cal prog 230 [.pointer (some ⟨bt,0,none⟩)].toArray W λv w'=>∃x k',v= .int .i64 x/\(0<=x/\x<=65534)/\Mem [bt] W w' [(bt,tobj p len cap k')]:=by
 have n1:=Zbb xs k (n:=6) Q0
 have n2:=Zbb xs (nxK xs k) (n:=4) Q0
 have n3:=Zbb xs (nxK xs k) (n:=600) Q0
 have n4:=Zbb xs (nxK xs k) (n:=30) Q0
 refine Zcm (n:=18) [bt] hb Q5 Zbj Zbi Tryz.func230 rfl rfl rfl ?_
 refine W4 [9,0,9] @Za1 ?_
 refine g_if rfl (λh1=>?_) (λh1=>?_)
 ·replace h1:=dqU h1
  refine W4 [3,0,6] @Za1 ?_
  exact vBp
 ·replace h1:=dqV h1
  refine gQ 6 rfl (g_if rfl (λh2=>?_) (λh2=>?_))
  ·replace h2:=dqU h2
   refine W4 [3,0,0,6] @Za1 ?_
   exact vBp
  ·replace h2:=dqV h2
   refine W4 [6,0] @Za1 ?_
   refine Zq8 rfl rfl Qv ?_
   refine W3 [0,4] ?_
   exact vBp
theorem Zkh{p:Option Addr}{len cap k:Nat}(W:World)(hT:Zbz W bt p len xs)(hb:W.heap[bt]? =some (tobj p len cap k)):
  Cal prog 143 [.pointer (some ⟨bt,0,none⟩)].toArray W λv w'=>∃x k',v=diV x/\(0<=x.met/\x.met<=65534)/\Mem [bt] W w' [(bt,tobj p len cap k')]:=by
 refine Zar (n:=8) [bt] Tryz.func143 rfl rfl rfl ?_
 intro a w F M hwW
 replace M:=M.came hwW hb Q5 Q5
 refine W1 2 ?_;intro a F
 (refine sD F (Zay M ?_);clear F M;intro b2 w M a F)
 refine W1 5 ?_;intro a F
 (refine sD F (Zav (F.e rfl) (F.evs rfl) (Cal.mono (Zm2 _ (hT.later M.ext) (M.heap (.there .here))) ?_));clear F;clear a;have M0:=M;clear M;rintro _ w ⟨x,k1,rfl,N⟩ a F)
 replace M:=M0.turn1 N (.there .here)
 clear M0 N
 refine W1 1 ?_;intro a F
 (refine sD F (Zav (F.e rfl) (F.evs rfl) (Cal.mono (ZwU _ (hT.later M.ext) (M.heap (.there .here))) ?_));clear F;clear a;have M0:=M;clear M;rintro _ w ⟨y,k2,rfl,hy,N⟩ a F)
 replace M:=M0.turn1 N (.there .here)
 clear M0 N
 refine W5 5 trivial ?_;intro a w F M
 exact ZdP F rfl (.cons (.cell (F.e rfl) (Zam TAgg.h (M.heap Q1) rfl)) .nil) ⟨⟨x,y⟩,k2,rfl,hy,M.sub (.cons _ (.refl _))⟩
def ZkF:List Int:=[128,128,64,0]
theorem Zr0(i:Nat):0<=ZkF.getD i 0/\ZkF.getD i 0<=128:=by
 rcases Nat.lt_or_ge i 4 with h|h
 ·have:∀i:Fin 4,0<=ZkF.getD i.val 0/\ZkF.getD i.val 0<=128:=by decide
  exact this ⟨i,h⟩
 ·rw[List.getD_eq_getElem?_getD,List.getElem?_eq_none (by simpa[ZkF] using h)]
  simp
def zr16:List Int:=[0,0,0,0,0,0,0,0,0,0,0,0,0,0,0,0]
theorem ZuL:IsIP zr16:=⟨rfl,by intro x hx;simp[zr16] at hx;omega⟩
theorem Zro{z:List Int}(hz:IsIP z)(n e:Int):ZaD [(0,17),(17,17),(34,1)] dvZ [(0,pfC z n),(2,[.int .u64 e])]=some (dvC ⟨z,n,zr16,0,e⟩):=vCL
theorem Zob:ZcI zr16 0=true:=by decide
theorem Zpi{p:Option Addr}{len cap k:Nat}(W:World)(hT:Zbz W bt p len xs)(hb:W.heap[bt]? =some (tobj p len cap k)):
  Cal prog 29 [.pointer (some ⟨bt,0,none⟩)].toArray W λv w'=>∃x k',v=dvV x/\IsDv x/\Za8 x=true/\Mem [bt] W w' [(bt,tobj p len cap k')]:=by
 refine Zar (n:=21) [bt] Tryz.func29 rfl rfl rfl ?_
 intro a w F M hwW
 replace M:=M.came hwW hb Q5 Q5
 refine W1 2 ?_;intro a F
 (refine sD F (Zay M ?_);clear F M;intro b2 w M a F)
 refine W1 5 ?_;intro a F
 (refine sD F (Zav (F.e rfl) (F.evs rfl) (Cal.mono (ZtL _ (hT.later M.ext) (M.heap (.there .here))) ?_));clear F;clear a;have M0:=M;clear M;rintro _ w ⟨rfl,N⟩ a F)
 replace M:=M0.turn1 N (.there .here)
 clear M0 N
 have hip:=ZjD xs k
 generalize wipV xs k=ip at*
 generalize wipK xs k=k1 at*
 skip
 (refine sD F (ZaC F M rfl rfl rfl rfl ?_);clear F M;intro b6 w M a F)
 refine W1 1 ?_;intro a F
 (refine sD F (Zav (F.e rfl) (F.evs rfl) (Cal.mono (Za1 4 Q0 Q0 _ (hT.later M.ext) (M.heap (.there (.there .here)))) ?_));clear F;clear a;have M0:=M;clear M;rintro _ w ⟨rfl,N⟩ a F)
 replace M:=M0.turn1 N (.there (.there .here))
 clear M0 N
 have v1:=Zbb xs k1 (n:=4) Q0
 have n1:=Zqt (k:= .i64) (xs:=ZkF) v1.1 (by simpa[ZkF] using v1.2)
 have hbd:=Zr0 (nxV xs k1 4).toNat
 (refine sD F (Zex (F.e rfl) (F.e rfl) Q0 Q0 ?_);clear F a;intro a F)
 (refine sD F (ZgY M (F.e rfl) Q1 (n1) ?_);clear F a;intro a F)
 generalize ZkF.getD (nxV xs k1 4).toNat 0=n at*
 generalize nxV xs k1 4=q at*
 generalize nxK xs k1=k2 at*
 have hcl:ZdC n=n:=Zkt hbd.1 hbd.2
 (refine Qy F M rfl rfl (Cal.to (ZpU ip hip n _) (by rw[hcl])) ?_;clear F M a;intro w a M F)
 have hmi:=Zk4 hip n
 have hvm:=ZiN hip hbd.1 hbd.2
 generalize Zb4 ip n=mip at*
 refine W1 1 ?_;intro a F
 (refine sD F (Zav (F.e rfl) (F.evs rfl) (Cal.mono (ZAh _ (hT.later M.ext) (M.heap (.there (.there .here)))) ?_));clear F;clear a;have M0:=M;clear M;rintro _ w ⟨e,k3,rfl,he,N⟩ a F)
 replace M:=M0.turn1 N (.there (.there .here))
 clear M0 N
 have hd:IsDv ⟨mip,n,zr16,0,e⟩:=⟨hmi,ZuL⟩
 (refine sD F (Zaq F rfl (Zro hmi n e) ?_);clear F a;intro a F)
 skip
 (refine sD F (Zay M ?_);clear F M;intro b3 w M a F)
 (refine ZaW rfl F (Zap M (F.e rfl) (F.e rfl) (Zbl hd) (Zek _)  Q1  (Zat (by rw[Zbl hd];rfl)) Q1 ?_);clear F M;intro w M a F)
 refine W1 6 ?_;intro a F
 (refine sD F (Zav (F.e rfl) (F.evs rfl) (Cal.mono (Zw2 3 Q0 Q0 _ (hT.later M.ext) (M.heap (.there (.there (.there .here))))) ?_));clear F;clear a;have M0:=M;clear M;rintro _ w ⟨c,k4,rfl,N⟩ a F)
 replace M:=M0.turn1 N (.there (.there (.there .here)))
 clear M0 N
 cases c
 ·have g0:=Zcx hd
  refine W1 8 ?_;intro a F
  (refine ZaW rfl F (Zap M (F.e rfl) (F.e rfl) (Zbl hd) (Zek _)  Q1  (Zat (by rw[Zbl hd];rfl)) Q1 ?_);clear F M;intro w M a F)
  with_reducible refine ZdS (Zc6 (ZiK ?_))
  exact ZdP F rfl (.cons (.cell (F.e rfl) (Zam TAgg.h (M.heap Q1) g0)) .nil) ⟨_,k4,rfl,hd,by simp[Za8,hvm,Zob];omega,M.sub (by repeat (first|exact List.Sublist.refl _|apply sC1))⟩
 ·refine W1 5 ?_;intro a F
  (refine sD F (Zav (F.e rfl) (F.evs rfl) (Cal.mono (Zo8 _ (hT.later M.ext) (M.heap (.there (.there (.there .here))))) ?_));clear F;clear a;have M0:=M;clear M;rintro _ w ⟨rfl,N⟩ a F)
  replace M:=M0.turn1 N (.there (.there (.there .here)))
  clear M0 N
  have hpi:IsIP (Zb4 (wpA xs k4) (wpN xs k4)):=Zk4 (ZjD _ _) _
  have hpb:=ZtK xs k4
  have hpv:=ZiN (ZjD xs (wpK0 xs k4)) hpb.1 hpb.2
  change ZcI (Zb4 (wpA xs k4) (wpN xs k4)) (wpN xs k4)=true at hpv
  generalize Zb4 (wpA xs k4) (wpN xs k4)=sip at*
  generalize wpN xs k4=sn at*
  generalize wpK xs k4=k5 at*
  have hd2:IsDv ⟨mip,n,sip,sn,e⟩:=⟨hmi,hpi⟩
  have g0:=Zcx hd2
  refine W1 1 ?_;intro a F
  (refine ZaW rfl F (Zap M (F.e rfl) (F.e rfl) (ZgU hpi.len sn) (Zqf _ _)  Q1  (ZoN hd hpi sn) Q1 ?_);clear F M;intro w M a F)
  replace M:Mem [bt] W w [(b3, .cells (dvC ⟨mip,n,sip,sn,e⟩).toArray 67 (0,0)),(b6,_),(b2,_),(bt,_)]:=M
  refine W1 5 ?_;intro a F
  (refine ZaW rfl F (Zap M (F.e rfl) (F.e rfl) (Zbl hd2) (Zek _)  Q1  (Zat (by rw[Zbl hd2];rfl)) Q1 ?_);clear F M;intro w M a F)
  with_reducible refine ZdS (Zc6 (ZiK ?_))
  exact ZdP F rfl (.cons (.cell (F.e rfl) (Zam TAgg.h (M.heap Q1) g0)) .nil) ⟨_,k5,rfl,hd2,by simp[Za8,hvm,hpv];omega,M.sub (by repeat (first|exact List.Sublist.refl _|apply sC1))⟩
end
section
section
variable {c:Cx} {Q:Exit->Act->World->Prop} {ks:List KF} {fr:FN} {x:RX} {rest:List Oper} {k:Nat} {xs:List (Nat×XP)} {E:ESt} {d:Nat} {ty:TypeId} {pos:String} {af:Array Edge}
theorem ZuP{p:XP}{h0:Nat}{Vs:List Pred}(hlen:Vs.length=k)(hx:∀q∈xs,Vs[q.1]? =some (q.2.pred h0)):∀q∈(k,p)::xs,(Vs++[p.pred h0])[q.1]? =some (q.2.pred h0):=λq hq=>by
 rcases List.mem_cons.1 hq with rfl|hq
 ·rw[<-hlen];simp
 ·exact Ze5 hx q hq
theorem Zo6{a:Act}{o:Oper}{j n0 t2:Nat}{p:XP}{Vs:List Pred}{ol:List Oper}(hx:∀q∈xs,Vs[q.1]? =some (q.2.pred n0))(hj:(j,p)∈xs)(hd:(ZaE o).contains j=true)(ht:(ol.toArray[j]?).bind (·.dst)=some t2)
  (D:∀j'∈ZaE o,∀U,Vs[j']? =some U->U (ZaP ol.toArray j' a) w):p.pred n0 (a.eval (.tmp t2)) w:=by
 have h:=D j (by simpa using hd) _ (hx _ hj)
 unfold ZaP at h
 rw[ht] at h
 exact h
theorem Zy6(j:Nat){t e:TypeId}{len sz t2:Nat}{y:Operand}{ik:IntKind}{n:Int}{o:Obj} [ht:TU c.P t (.slice e)] [hs:TSz c.P e sz](hj:(j,XP.nw len o)∈xs)(hy:Ev fr y=some (.int ik n))(h0:0<=n)(h1:n<len)
  (hk:FE c Q ks x (k+1) rest fr ((k, .pt (0+n.toNat*sz) o)::xs) E) (hlt:flo x.Ef x.Rl [] x.n k (.indexAddr t (.tmp t2) y)=true:=by rfl) (hnd:ZcU d fr=true:=by rfl)
  (hd:(ZaE ⟨some d, .indexAddr t (.tmp t2) y,ty,pos,af,none⟩).contains j=true:=by rfl) (ht2:(x.ol.toArray[j]?).bind (·.dst)=some t2:=by rfl):FE c Q ks x k (⟨some d, .indexAddr t (.tmp t2) y,ty,pos,af,none⟩::rest) fr xs E:=λhE a w Vs hM hB hok hx=>by
 intro hlen
 refine mX (V:=(XP.pt (0+n.toNat*sz) o).pred w.heap.size) hok hlt hnd (XP.stays hB _) (λa' w' F' E' D'=>?_) (hk (λsl l h q hq=>Nat.lt_succ_of_lt (hE sl l h q hq)) a w _ hM hB hok (ZuP hlen hx)) hlen
 obtain⟨b,hv,hb,ho⟩:=Zo6 hx hj hd ht2 D'
 exact Zex hv (F'.e hy) h0 h1 ⟨Ext.refl _ _,b,rfl,hb,ho⟩
theorem Zy5(j:Nat){t t2 off:Nat}{cs:List Value}{t':TypeId}{fz:Nat×Nat} [ht:TOne c.P t](hj:(j,XP.pt off (.cells cs.toArray t' fz))∈xs)(hv:nth cs off=some v)
  (hk:FE c Q ks x (k+1) rest ((d,v)::fr) xs E) (hlt:flo x.Ef x.Rl [] x.n k (.load t (.tmp t2))=true:=by rfl) (hd0:Nat.blt d c.n=true:=by rfl)
  (hd:(ZaE ⟨some d, .load t (.tmp t2),ty,pos,af,none⟩).contains j=true:=by rfl) (ht2:(x.ol.toArray[j]?).bind (·.dst)=some t2:=by rfl):FE c Q ks x k (⟨some d, .load t (.tmp t2),ty,pos,af,none⟩::rest) fr xs E:=λhE a w Vs hM hB hok hx=>by
 intro hlen
 refine mKX hok hlt hd0 (λa' w' F' E' D'=>?_) (hk (λsl l h q hq=>Nat.lt_succ_of_lt (hE sl l h q hq)) a w _ hM hB hok (Ze5 hx)) hlen
 obtain⟨b,hp,hb,ho⟩:=Zo6 hx hj hd ht2 D'
 exact ZcB hp ho hv ⟨Ext.refl _ _,rfl⟩
end
attribute [local irreducible] OpTo wpListIn Code.wpIn MW Cal
theorem ZxX{n:Int}(h0:0<=n)(h1:n<5):∃c:Int,nth [Value.int .i64 256, .int .i64 256, .int .i64 342, .int .i64 512, .int .i64 65535] (0+n.toNat*1)=some (.int .i64 c)/\0<=c/\c<=65535:=by
 rcases(by omega:n=0∨n=1∨n=2∨n=3∨n=4) with rfl|rfl|rfl|rfl|rfl
 ·exact⟨256,rfl,by decide,by decide⟩
 ·exact⟨256,rfl,by decide,by decide⟩
 ·exact⟨342,rfl,by decide,by decide⟩
 ·exact⟨512,rfl,by decide,by decide⟩
 ·exact⟨65535,rfl,by decide,by decide⟩
def PhQT(p:Option Addr)(len cap bt:Nat)(r:Value)(W w':World):Prop:=∃o k',SmQu o/\r= .agg (quC o).toArray/\Mem [bt] W w' [(bt,tobj p len cap k')]
theorem vCE(h:p:=by
  intro y2 hy2
  dsimp only[List.nil_append]
  refine W3 [0,5,0,2] ?_
  exact yN (y2,d-1,_) ⟨hy2,by dsimp only;omega⟩):p:=h
theorem ZiM{p:Option Addr}{len cap k:Nat}(W:World)(hT:Zbz W bt p len xs)(hb:W.heap[bt]? =some (tobj p len cap k)):
  Cal prog 59 [.pointer (some ⟨bt,0,none⟩)].toArray W λr w'=>PhQT p len cap bt r W w':=by
 refine Zcm (n:=38) [bt] hb Q5 Zbj Zbi Tryz.func59 rfl rfl rfl (gQ 2 rfl (Zac λb2=>?_))
 refine W3 [4,0,1] ?_
 refine ZaX (ι:=Int×Nat) 1 (λj=> .int .u16 j.1) (λ_=>True) (λj=>tobj p len cap j.2) (λ_=>[]) rfl rfl rfl (λw M=>Cal.mono (Zm2 w (hT.later M.ext) (M.at_ _ (Zak (i:=1) rfl))) λr w' h=>by
  obtain⟨x,k',q,N⟩:=h
  exact⟨(x,k'),q,trivial,by simpa using N⟩) (λ_=>rfl) ?_
 rintro⟨s,k1⟩-
 dsimp only[List.nil_append]
 refine ZaU (ι:=QuaV) (λo=> .agg (quC o).toArray) SmQu (λ_=>[]) rfl rfl (λw M=>Cal.mono (Zh2 qu0 BdQu.zero s w) λr w' h=>by
  obtain⟨o,ho,q,E⟩:=h
  exact⟨o,q,ho,Mem.nil E⟩) ?_
 intro y hy
 dsimp only[List.nil_append]
 have n9:=Zbb xs k1 (n:=9) Q0
 refine Zac λb3=>?_
 refine W4 [0,6,0,4] @Za1 ?_
 refine Zau (ι:=QuaV×Int×Nat) ⟨λ(y,d,k2)=>d.toNat,λ(y,d,k2)=>SmQu y/\d<9,λ(y,d,k2)=>[(4, .int .i64 d),(3, .pointer (some ⟨b3,0,none⟩)),(0, .pointer (some ⟨bt,0,none⟩)),(2, .pointer (some ⟨b2,0,none⟩))],λ(y,d,k2)=>[[(b3,Obj.cells (quC y).toArray 122 (0,0))],[(b2, .cells (quC qu0).toArray 122 (0,0))],[(bt,tobj p len cap k2)]]⟩ (y,_,_) ⟨hy,Q0⟩ (λa F=>F.only [4,3,0,2] rfl) Qa ?_
 clear n9 hy
 rintro⟨y,d,k2⟩ ⟨hy,hd⟩
 dsimp only at hy hd⊢
 have hb1:=hy.b
 by_cases hlt:0<d
 ·refine W4 [7,0,7,0,2] @Zhl ?_
  refine g_if rfl (λh1=>?_) (λh1=>?_)
  focus
   replace h1:=dqU h1
   refine W3 [1,0] ?_
  rotate_left 1
  focus
   replace h1:=dqV h1
   refine W3 [1,0,1,0] ?_
  rotate_right 1
  ·refine ZaU (ι:=QuaV) (λo=> .agg (quC o).toArray) SmQu (λ_=>[]) rfl rfl (λw M=>Cal.mono (Zot y hb1 w) λr w' h=>by
    obtain⟨o,ho,q,E⟩:=h
    exact⟨o,q,ho,Mem.nil E⟩) ?_
   exact vCE
  ·refine ZaU (ι:=QuaV) (λo=> .agg (quC o).toArray) SmQu (λ_=>[]) rfl rfl (λw M=>Cal.mono (Zh2 y hb1 y.next w) λr w' h=>by
    obtain⟨o,ho,q,E⟩:=h
    exact⟨o,q,ho,Mem.nil E⟩) ?_
   exact vCE
 refine W3 [7,0,2,0,3] ?_
 refine Zc0 (ι:=QuaV) ⟨λy=>SmQu y,λy=>[(3, .pointer (some ⟨b3,0,none⟩)),(0, .pointer (some ⟨bt,0,none⟩)),(2, .pointer (some ⟨b2,0,none⟩))],λy=>[[(b3,Obj.cells (quC y).toArray 122 (0,0))],[(b2, .cells (quC qu0).toArray 122 (0,0))],[(bt,tobj p len cap k2)]]⟩ ?_ ?_
 ·cases hk:y.known
  ·refine W3 [3,0,3,0,1,0] ?_
   refine ZaU (ι:=QuaV) (λo=> .agg (quC o).toArray) SmQu (λ_=>[]) rfl rfl (λw M=>Cal.mono (Zh2 y hb1 0 w) λr w' h=>by
    obtain⟨o,ho,q,E⟩:=h
    exact⟨o,q,ho,Mem.nil E⟩) ?_
   intro y2 hy2
   dsimp only[List.nil_append]
   refine W3 [0,1] ?_
   exact yJ y2 hy2
  ·refine W3 [3,0,3,0,1] ?_
   exact yJ y hy
 clear hy hb1 hlt hd y
 intro y hy
 have hb1:=hy.b
 dsimp only
 have n5:=Zbb xs (nxK xs k2) (n:=5) Q0
 obtain⟨cc,hcc,c0,c1⟩:=ZxX n5.1 n5.2
 refine W4 [5,0,2] @Zhl ?_
 refine g_if rfl (λh1=>?_) (λh1=>?_)
 ·replace h1:=dqU h1
  refine W3 [2,0,0,4] ?_
  exact Zbn 1 rfl rfl rfl rfl (ZpZ trivial) λw M=>⟨y,_,hy,rfl,M.sub (.cons _ (.cons _ (.refl _)))⟩
 replace h1:=dqV h1
 refine W3 [3] ?_
 refine ZfX 7 38 [bt] [3,6] [] [[(bt,tobj p len cap (nxK xs k2))]] [[(b3,Obj.cells (quC y).toArray 122 (0,0))],[(b2, .cells (quC qu0).toArray 122 (0,0))]] rfl Q7 (by simpa using List.perm_append_comm (l₁:=[(b3,Obj.cells (quC y).toArray 122 (0,0)),(b2, .cells (quC qu0).toArray 122 (0,0))]) (l₂:=[(bt,tobj p len cap (nxK xs k2))])) Q5 (Ze1 ?_)
 refine fe_v (λa2 w F M R r=>ZbM (F.e rfl) (M.at_ _ (.head _)) (show seg (quC y) 0 5=some (quC y) from rfl) r) (Zln rfl rfl rfl rfl (Zaw 60 rfl (ZnV (v:= .int .i64 (nxV xs (nxK xs k2) 5)) (λ_=>[[(b3,Obj.cells (quC y).toArray 122 (0,0))],[(b2, .cells (quC qu0).toArray 122 (0,0))],[(bt,tobj p len cap (nxK xs (nxK xs k2)))]]) [] (λi hi=>?_) ?_)))
 ·exact Zqd 2 rfl rfl rfl (.head _) (λw M=>Za1 5 Q0 Q0 w (hT.later M.ext) (M.at_ _ (Zak (i:=2) rfl))) rfl
 refine Zaw 60 rfl (Zy6 1 (.head _) rfl n5.1 Q0 (Zy5 4 (.head _) hcc (Zaw 60 rfl (Zg5 (κ:=QuaV) (λ_ o=> .agg (quC o).toArray) (λ_ o=>SmQu o) (λ_ _=>[[(b3,Obj.cells (quC y).toArray 122 (0,0))],[(b2, .cells (quC qu0).toArray 122 (0,0))],[(bt,tobj p len cap (nxK xs (nxK xs k2)))]]) [] .any (λi hi=>?_) (λ_ _ _ _=>trivial) ?_))))
 ·exact Zh6 (λo:QuaV=> .agg (quC o).toArray) (λo=>SmQu o) (λ_=>[]) rfl rfl (λw M=>Cal.mono (Zos y hb1 cc Q0 w) λr w' h=>by
   obtain⟨o,ho,q,E⟩:=h
   exact⟨o,q,ho,Mem.nil E⟩)
 refine Zis rfl (by rintro i _ q hq;simp at hq;rcases hq with rfl<;>simp) ?_
 rintro⟨_,o⟩ ⟨_,ho⟩
 refine⟨_,rfl,?_⟩
 dsimp only at ho⊢
 refine W3 [0,3] ?_
 exact Zbn 1 rfl rfl rfl rfl rfl λw M=>⟨o,_,ho,rfl,M.sub (.cons _ (.cons _ (.refl _)))⟩
end
section
attribute [local irreducible] OpTo wpListIn Code.wpIn MW Cal
theorem Zd2(t:Int)(W:World):Cal prog 194 [.int .i64 t].toArray W λv w'=>v= .bool (Zag t)/\Ext [] W w':=by
 unfold Zag
 by_cases h:0<=t
 ·rw[dqT h,Bool.true_and]
  have h1:=dqT h
  refine yS (n:=9) Tryz.func194 rfl rfl ?_
  refine W3 [10,0,7] ?_
  exact vA5
 ·rw[dqF h,Bool.false_and]
  have h1:=dqF h
  refine yS (n:=9) Tryz.func194 rfl rfl ?_
  refine W3 [10,0,7] ?_
  exact vA5
theorem Zc9(t:Int)(W:World):Cal prog 65 [.int .i64 t].toArray W λv w'=>v= .bool (Zag t)/\Ext [] W w':=by
 unfold Zag
 by_cases h:0<=t
 ·rw[dqT h,Bool.true_and]
  have h1:=dqT h
  refine yS (n:=9) Tryz.func65 rfl rfl ?_
  refine W3 [10,0,7] ?_
  exact vA5
 ·rw[dqF h,Bool.false_and]
  have h1:=dqF h
  refine yS (n:=9) Tryz.func65 rfl rfl ?_
  refine W3 [10,0,7] ?_
  exact vA5
def orgD(self:Int)(o:OrgV):DstV:=⟨o.dip,o.dbits,o.sip,o.sbits,self⟩
theorem ZwL(self:Int)(o:OrgV)(h:IsDv (orgD self o)):ZaD [(0,17),(17,17),(34,1)] dvZ [(0,pfC o.dip o.dbits),(1,pfC o.sip o.sbits),(2,[.int .u64 self])]=some (dvC (orgD self o)):=Ztq h
theorem ZvN{self:Int}{o:OrgV}(h:IsOg o):IsDv (orgD self o):=h
theorem vBO(h:p:=by
  refine W3 [5,0,1,0,1] ?_
  refine g_v (λa w F M R r=>Zaq F rfl (ZwL _ _ Qd) r) ?_
  refine W3 [0,3] ?_
  refine Zbn 0 rfl rfl rfl rfl (Zcx Qd) λw M=>?_
  exact⟨rfl,M.ext⟩):p:=h
theorem ZjR(self:Int)(o:OrgV)(ho:IsOg o)(W:World):Cal prog 88 [.int .u64 self, .agg (ogC o).toArray].toArray W λv w'=>v= .agg (dvC (orgD self o)).toArray/\Ext [] W w':=by
 have hd:IsDv (orgD self o):=ho
 refine yS (n:=11) Tryz.func88 rfl rfl (gQ 2 rfl (Zai rfl rfl λb3=>Zac λb4=>?_))
 exact vBO
theorem Zhh(self:Int)(o:OrgV)(ho:IsOg o)(W:World):Cal prog 91 [.int .u64 self, .agg (ogC o).toArray].toArray W λv w'=>v= .agg (dvC (orgD self o)).toArray/\Ext [] W w':=by
 have hd:IsDv (orgD self o):=ho
 refine yS (n:=11) Tryz.func91 rfl rfl (gQ 2 rfl (Zai rfl rfl λb3=>Zac λb4=>?_))
 exact vBO
def req1(r:ReqV):Bool:=Za8 r.to&&decide (1<=r.hops)&&decide (r.hops<=32)&&Zag r.next&&decide (1<=r.left)&&decide (r.left<=3)
def Zha(a b:ReqV):Int:=cmpD a.to b.to
def ZaB(l:List ReqV):Bool:=vldL 64 req1 Zha l
def org1(self:Int)(o:OrgV):Bool:=Za8 (orgD self o)
def Zlt(self:Int)(a b:OrgV):Int:=cmpD (orgD self a) (orgD self b)
def ZdL(self:Int)(l:List OrgV):Bool:=vldL 8 (org1 self) (Zlt self) l
def adj1(self:Int)(a:AdjV):Bool:= !decide (a.nb=0)&& !decide (a.nb=self)&&Zci a.q&&a.q.known&&Zag a.til&&Zag a.ans
def ZiA(a b:AdjV):Int:=a.nb-b.nb
def Zdu(self:Int)(l:List AdjV):Bool:=vldL 16 (adj1 self) ZiA l
theorem vAm(h:p:=by
  refine Zae rfl rfl rfl λw M=>?_
  exact vl_F hV hlt_i hx0.symm Qg M.ext):p:=h
theorem vAL(h:p:=by
  refine g_if rfl (λh1=>?_) (λh1=>?_)
  ·replace h1:=dqU h1
   refine W3 [8,0,2] ?_
   exact Zae rfl rfl rfl λw M=>vl_S hV hlt_i hi0 hx0.symm hy0.symm (by unfold Zha;omega) M.ext
  ·replace h1:=dqV h1
   refine W3 [4,0,2] ?_
   exact yN (i+1) ⟨Q0,vl_N hlt_i hx0.symm hv Qg λ_=>by rw[hy0];exact(by unfold Zha;omega)⟩):p:=h
theorem vCT(h:p:=by
  refine W3 [1,1014,3,0,11,0,7,0,2] ?_
  exact yN (i+1) ⟨Q0,vl_N hlt_i hx0.symm hv Qg λh=>absurd h hi0⟩):p:=h
theorem Zbm(l:List ReqV)(hx:∀x∈l,IsRq x)(v:Value)(W:World)(hS:SlAt W 40 v l.length (rqsC l)):
  Cal prog 106 [v].toArray W λr w'=>r= .bool (ZaB l)/\Ext [] W w':=by
 obtain⟨q,cap,rfl,_⟩:=id hS
 have hm:=hS.memB [] Q5
 unfold ZaB
 generalize hV:vldL 64 req1 Zha l=b0
 refine yS (n:=60) Tryz.func106 rfl rfl ?_
 by_cases c0:64<l.length
 ·exact vAn
 refine W3 [13,0,11] ?_
 refine Zau (ι:=Nat) ⟨λ(i:Nat)=>l.length-i,λ(i:Nat)=>i<=l.length/\(∀j,j<i->vld1 req1 Zha l j=true),λ(i:Nat)=>[(10, .int .i64 i),(9, .int .i64 l.length),(8, .slice q l.length cap),(0, .slice q l.length cap)],λ(i:Nat)=>[]⟩ 0 ⟨Q0,Q0⟩ (λa F=>F.only [10,9,8,0] rfl) Qa ?_
 rintro i ⟨hi_i,hv⟩
 by_cases hlt_i:i<l.length
 ·obtain⟨b,o,cs,t',fz,rfl,hb,hs⟩:=hm Q0
  obtain⟨x,hx0⟩:∃x,x=l[i]:=⟨_,rfl⟩
  have hxm:x∈l:=by rw[hx0];exact List.getElem_mem hlt_i
  have hxi:IsRq x:=hx _ hxm
  have f1:seg cs (o+(i:Int).toNat*40) 40=some (rqC x):=by rw[hx0];exact Zal (ZbB hx) hs hlt_i Q0
  replace hx0:=hx0.symm
  have xd:IsDv x.to:=hxi
  refine W3 [6,0,7,0,0] ?_
  refine Zac λb4=>?_
  refine W4 [1,0,6,0,0,2] @Za3 ?_
  refine Zah 19 rfl (λh1=>?_) (λh1=>?_)
  ·replace h1:=Zaa h1
   refine W3 [37,0,2] ?_
   exact vAm
  replace h1:=Zab h1
  refine W3 [1,0,3] ?_
  refine Zah 24 rfl (λh2=>?_) (λh2=>?_)
  ·replace h2:=dqU h2
   refine W3 [32,0,2] ?_
   exact vAm
  replace h2:=dqV h2
  refine W3 [1,0,3] ?_
  refine Zah 29 rfl (λh3=>?_) (λh3=>?_)
  ·replace h3:=dqU h3
   refine W3 [27,0,2] ?_
   exact vAm
  replace h3:=dqV h3
  refine W4 [1,0,0,3] @Zd2 ?_
  refine Zah 35 rfl (λh4=>?_) (λh4=>?_)
  ·replace h4:=Zaa h4
   refine W3 [21,0,2] ?_
   exact vAm
  replace h4:=Zab h4
  refine W3 [1,0,3] ?_
  refine Zah 40 rfl (λh5=>?_) (λh5=>?_)
  ·replace h5:=dqU h5
   refine W3 [16,0,2] ?_
   exact vAm
  replace h5:=dqV h5
  refine W3 [1,0,4] ?_
  refine g_if rfl (λh6=>?_) (λh6=>?_)
  ·replace h6:=dqU h6
   refine W3 [9,0,2] ?_
   exact vAm
  replace h6:=dqV h6
  refine gQ 2 rfl ?_
  by_cases hi0:0<i
  ·obtain⟨y,hy0⟩:∃y,y=l[i-1]'Q0:=⟨_,rfl⟩
   have yI:IsRq y:=by rw[hy0];exact hx _ (List.getElem_mem _)
   have f2:seg cs (o+((i:Int)-1).toNat*40) 40=some (rqC y):=by rw[hy0];exact Zal (ZbB hx) hs (show i-1<l.length by omega) Q0
   replace hy0:=hy0.symm
   have yd:IsDv y.to:=yI
   refine W3 [1,1014,3,0,2,0,0,1] ?_
   refine Zb8 rfl Qd (Zbe f2 (Zsk Qd) Q0) ?_
   refine W4 [1,0,0,2,0,2] @Zb0 ?_
   exact vAL
  ·exact vCT
 ·exact vA6
theorem Zbf(l:List ReqV)(hx:∀x∈l,IsRq x)(v:Value)(W:World)(hS:SlAt W 40 v l.length (rqsC l)):
  Cal prog 116 [v].toArray W λr w'=>r= .bool (ZaB l)/\Ext [] W w':=by
 obtain⟨q,cap,rfl,_⟩:=id hS
 have hm:=hS.memB [] Q5
 unfold ZaB
 generalize hV:vldL 64 req1 Zha l=b0
 refine yS (n:=62) Tryz.func116 rfl rfl ?_
 by_cases c0:64<l.length
 ·exact vAn
 refine W3 [13,0,11] ?_
 refine Zau (ι:=Nat) ⟨λ(i:Nat)=>l.length-i,λ(i:Nat)=>i<=l.length/\(∀j,j<i->vld1 req1 Zha l j=true),λ(i:Nat)=>[(10, .int .i64 i),(9, .int .i64 l.length),(8, .slice q l.length cap),(0, .slice q l.length cap)],λ(i:Nat)=>[]⟩ 0 ⟨Q0,Q0⟩ (λa F=>F.only [10,9,8,0] rfl) Qa ?_
 rintro i ⟨hi_i,hv⟩
 by_cases hlt_i:i<l.length
 ·obtain⟨b,o,cs,t',fz,rfl,hb,hs⟩:=hm Q0
  obtain⟨x,hx0⟩:∃x,x=l[i]:=⟨_,rfl⟩
  have hxm:x∈l:=by rw[hx0];exact List.getElem_mem hlt_i
  have hxi:IsRq x:=hx _ hxm
  have f1:seg cs (o+(i:Int).toNat*40) 40=some (rqC x):=by rw[hx0];exact Zal (ZbB hx) hs hlt_i Q0
  replace hx0:=hx0.symm
  have xd:IsDv x.to:=hxi
  refine W3 [6,0,14,0,0] ?_
  refine Zac λb4=>?_
  refine W4 [0,6,0,0,2] @ZaM ?_
  refine Zah 21 rfl (λh1=>?_) (λh1=>?_)
  ·replace h1:=Zaa h1
   refine W3 [37,0,2] ?_
   exact vAm
  replace h1:=Zab h1
  refine W3 [1,0,3] ?_
  refine Zah 26 rfl (λh2=>?_) (λh2=>?_)
  ·replace h2:=dqU h2
   refine W3 [32,0,2] ?_
   exact vAm
  replace h2:=dqV h2
  refine W3 [1,0,3] ?_
  refine Zah 31 rfl (λh3=>?_) (λh3=>?_)
  ·replace h3:=dqU h3
   refine W3 [27,0,2] ?_
   exact vAm
  replace h3:=dqV h3
  refine W4 [1,0,0,3] @Zas ?_
  refine Zah 37 rfl (λh4=>?_) (λh4=>?_)
  ·replace h4:=Zaa h4
   refine W3 [21,0,2] ?_
   exact vAm
  replace h4:=Zab h4
  refine W3 [1,0,3] ?_
  refine Zah 42 rfl (λh5=>?_) (λh5=>?_)
  ·replace h5:=dqU h5
   refine W3 [16,0,2] ?_
   exact vAm
  replace h5:=dqV h5
  refine W3 [1,0,4] ?_
  refine g_if rfl (λh6=>?_) (λh6=>?_)
  ·replace h6:=dqU h6
   refine W3 [9,0,2] ?_
   exact vAm
  replace h6:=dqV h6
  refine gQ 2 rfl ?_
  by_cases hi0:0<i
  ·obtain⟨y,hy0⟩:∃y,y=l[i-1]'Q0:=⟨_,rfl⟩
   have yI:IsRq y:=by rw[hy0];exact hx _ (List.getElem_mem _)
   have f2:seg cs (o+((i:Int)-1).toNat*40) 40=some (rqC y):=by rw[hy0];exact Zal (ZbB hx) hs (show i-1<l.length by omega) Q0
   replace hy0:=hy0.symm
   have yd:IsDv y.to:=yI
   refine W3 [1,1014,3,0,2,0,0,1] ?_
   refine Zb8 rfl Qd (Zbe f2 (Zsk Qd) Q0) ?_
   refine W4 [1,0,0,2,0,2] @ZaR ?_
   exact vAL
  ·exact vCT
 ·exact vA6
theorem vC4(h:p:=by
  replace h2:=dqV h2
  refine W3 [4,0,2] ?_
  exact yN (i+1) ⟨Q0,vl_N hlt_i hx0.symm hv Qi λ_=>by rw[hy0];exact(by unfold Zlt;omega)⟩):p:=h
theorem vCn(h:p:=by
  replace h1:=Zaa h1
  refine W3 [15,0,11,0,2] ?_
  refine Zae rfl rfl rfl λw M=>?_
  exact vl_F hV hlt_i hx0.symm Qi M.ext):p:=h
theorem Zod(self:Int)(l:List OrgV)(hx:∀x∈l,IsOg x)(v:Value)(W:World)(hS:SlAt W 34 v l.length (ogsC l)):
  Cal prog 101 [.int .u64 self,v].toArray W λr w'=>r= .bool (ZdL self l)/\Ext [] W w':=by
 obtain⟨q,cap,rfl,_⟩:=id hS
 have hm:=hS.memB [] Q5
 unfold ZdL
 generalize hV:vldL 8 (org1 self) (Zlt self) l=b0
 refine yS (n:=41) Tryz.func101 rfl rfl ?_
 by_cases c0:8<l.length
 ·exact vAn
 refine W3 [13,0,11] ?_
 refine Zau (ι:=Nat) ⟨λ(i:Nat)=>l.length-i,λ(i:Nat)=>i<=l.length/\(∀j,j<i->vld1 (org1 self) (Zlt self) l j=true),λ(i:Nat)=>[(13, .int .i64 i),(12, .int .i64 l.length),(11, .slice q l.length cap),(1, .slice q l.length cap),(0, .int .u64 self)],λ(i:Nat)=>[]⟩ 0 ⟨Q0,Q0⟩ (λa F=>F.only [13,12,11,1,0] rfl) Qa ?_
 rintro i ⟨hi_i,hv⟩
 by_cases hlt_i:i<l.length
 ·obtain⟨b,o,cs,t',fz,rfl,hb,hs⟩:=hm Q0
  obtain⟨x,hx0⟩:∃x,x=l[i]:=⟨_,rfl⟩
  have hxm:x∈l:=by rw[hx0];exact List.getElem_mem hlt_i
  have hxi:IsOg x:=hx _ hxm
  have f1:seg cs (o+(i:Int).toNat*34) 34=some (ogC x):=by rw[hx0];exact Zal (ZdF hx) hs hlt_i Q0
  replace hx0:=hx0.symm
  have xd:IsDv (orgD self x):=hxi
  by_cases hi0:0<i
  ·obtain⟨y,hy0⟩:∃y,y=l[i-1]'Q0:=⟨_,rfl⟩
   have yI:IsOg y:=by rw[hy0];exact hx _ (List.getElem_mem _)
   have f2:seg cs (o+((i:Int)-1).toNat*34) 34=some (ogC y):=by rw[hy0];exact Zal (ZdF hx) hs (show i-1<l.length by omega) Q0
   replace hy0:=hy0.symm
   have yd:IsDv (orgD self y):=yI
   refine W3 [6,0,7,0,0] ?_
   refine Zac λb6=>?_
   refine W4 [1,0,5,0,0] @ZjR ?_
   refine Zac λb7=>?_
   refine W4 [0,3,1019,0,0,2] @Za3 ?_
   refine ZbQ 24 rfl (λh1=>?_) (λh1=>?_)
   ·exact vCn
   ·replace h1:=Zab h1
    refine W4 [3,0,3,0,0,0,0,0,0,3,0,2] (T2 @ZjR @Zb0) ?_
    refine g_if rfl (λh2=>?_) (λh2=>?_)
    ·replace h2:=dqU h2
     refine W3 [8,0,2] ?_
     exact Zae rfl rfl rfl λw M=>vl_S hV hlt_i hi0 hx0.symm hy0.symm (by unfold Zlt;omega) M.ext
    ·exact vC4
  ·refine W3 [6,0,7,0,0] ?_
   refine Zac λb6=>?_
   refine W4 [1,0,5,0,0] @ZjR ?_
   refine Zac λb7=>?_
   refine W4 [0,3,1019,0,0,2] @Za3 ?_
   refine ZbQ 24 rfl (λh1=>?_) (λh1=>?_)
   ·exact vCn
   ·replace h1:=Zab h1
    refine W3 [3,0,12,0,7,0,2] ?_
    exact yN (i+1) ⟨Q0,vl_N hlt_i hx0.symm hv Qi λh=>absurd h hi0⟩
 ·exact vA6
theorem vAW(h:p:=by
  refine Zae rfl rfl rfl λw M=>?_
  exact vl_F hV hlt_i hx0.symm Qh M.ext):p:=h
theorem Zof(self:Int)(l:List AdjV)(hx:∀x∈l,IsAj x)(hqB:∀x∈l,BdQu x.q)(v:Value)(W:World)(hS:SlAt W 8 v l.length (ajsC l)):
  Cal prog 102 [.int .u64 self,v].toArray W λr w'=>r= .bool (Zdu self l)/\Ext [] W w':=by
 obtain⟨q,cap,rfl,_⟩:=id hS
 have hm:=hS.memB [] Q5
 unfold Zdu
 generalize hV:vldL 16 (adj1 self) ZiA l=b0
 refine yS (n:=64) Tryz.func102 rfl rfl ?_
 by_cases c0:16<l.length
 ·exact vAn
 refine W3 [13,0,11] ?_
 refine Zau (ι:=Nat) ⟨λ(i:Nat)=>l.length-i,λ(i:Nat)=>i<=l.length/\(∀j,j<i->vld1 (adj1 self) ZiA l j=true),λ(i:Nat)=>[(12, .int .i64 i),(11, .int .i64 l.length),(10, .slice q l.length cap),(1, .slice q l.length cap),(0, .int .u64 self)],λ(i:Nat)=>[]⟩ 0 ⟨Q0,Q0⟩ (λa F=>F.only [12,11,10,1,0] rfl) Qa ?_
 rintro i ⟨hi_i,hv⟩
 by_cases hlt_i:i<l.length
 ·obtain⟨b,o,cs,t',fz,rfl,hb,hs⟩:=hm Q0
  obtain⟨x,hx0⟩:∃x,x=l[i]:=⟨_,rfl⟩
  have hxm:x∈l:=by rw[hx0];exact List.getElem_mem hlt_i
  have hxi:IsAj x:=hx _ hxm
  have f1:seg cs (o+(i:Int).toNat*8) 8=some (ajC x):=by rw[hx0];exact Zal (ZdI hx) hs hlt_i Q0
  replace hx0:=hx0.symm
  have hbq:=hqB _ hxm
  refine W3 [6,0,7,0,0] ?_
  refine Zac λb6=>?_
  refine W3 [1,0,6,0,2] ?_
  refine Zah 20 rfl (λh1=>?_) (λh1=>?_)
  ·replace h1:=dqU h1
   refine W3 [41,0,2] ?_
   exact vAW
  replace h1:=dqV h1
  refine W3 [1,0,4] ?_
  refine Zah 26 rfl (λh2=>?_) (λh2=>?_)
  ·replace h2:=dqU h2
   refine W3 [35,0,2] ?_
   exact vAW
  replace h2:=dqV h2
  refine W4 [1,0,0,3] @ZjP ?_
  refine Zah 32 rfl (λh3=>?_) (λh3=>?_)
  ·replace h3:=Zaa h3
   refine W3 [29,0,2] ?_
   exact vAW
  replace h3:=Zab h3
  refine W3 [2,0,3] ?_
  refine Zah 38 rfl (λh4=>?_) (λh4=>?_)
  ·replace h4:=Zaa h4
   refine W3 [23,0,2] ?_
   exact vAW
  replace h4:=Zab h4
  refine W4 [1,0,0,3] @Zc9 ?_
  refine Zah 44 rfl (λh5=>?_) (λh5=>?_)
  ·replace h5:=Zaa h5
   refine W3 [17,0,2] ?_
   exact vAW
  replace h5:=Zab h5
  refine W4 [1,0,0,4] @Zc9 ?_
  refine g_if rfl (λh6=>?_) (λh6=>?_)
  ·replace h6:=Zaa h6
   refine W3 [9,0,2] ?_
   exact vAW
  replace h6:=Zab h6
  refine gQ 2 rfl ?_
  by_cases hi0:0<i
  ·obtain⟨y,hy0⟩:∃y,y=l[i-1]'Q0:=⟨_,rfl⟩
   have yI:IsAj y:=by rw[hy0];exact hx _ (List.getElem_mem _)
   have f2:seg cs (o+((i:Int)-1).toNat*8) 8=some (ajC y):=by rw[hy0];exact Zal (ZdI hx) hs (show i-1<l.length by omega) Q0
   replace hy0:=hy0.symm
   refine W3 [1,1013,3,0,2,0,0,1] ?_
   refine Zjq rfl Qd (Zcr f2 (Zo0 Qd) Q0) ?_
   refine W3 [1,0,2,0,2] ?_
   refine g_if rfl (λh1=>?_) (λh1=>?_)
   ·replace h1:=dqU h1
    refine W3 [8,0,2] ?_
    exact Zae rfl rfl rfl λw M=>vl_S hV hlt_i hi0 hx0.symm hy0.symm (by unfold ZiA;omega) M.ext
   ·replace h1:=dqV h1
    refine W3 [4,0,2] ?_
    exact yN (i+1) ⟨Q0,vl_N hlt_i hx0.symm hv Qh λ_=>by rw[hy0];exact(by unfold ZiA;omega)⟩
  ·refine W3 [1,1013,3,0,10,0,7,0,2] ?_
   exact yN (i+1) ⟨Q0,vl_N hlt_i hx0.symm hv Qh λh=>absurd h hi0⟩
 ·exact vA6
end
section
def Zbg(a b:Int):Bool:=let d:=IntKind.u16.wrap (a-b);(decide (1<=d)&&decide (d<32768))||(decide (d=32768)&&decide (b<a))
def Zeo(a b:DisV):Bool:= !decide (a=b)&&(Zbg a.seq b.seq||(decide (a.seq=b.seq)&&decide (a.met<b.met)))
def addM(a b:Int):Int:=if ZaA a&&ZaA b then min (a+b) inf else inf
def src1(s:SrcV):Bool:=Za8 s.to&&finD s.bst&&Zag s.til
def cmpS(a b:SrcV):Int:=cmpD a.to b.to
def ZaK(l:List SrcV):Bool:=vldL 256 src1 cmpS l
theorem Zbc{l:List SrcV}:ZaK l=true↔l.length<=256/\(∀a∈l,src1 a=true)/\AscC cmpS l:=Zdt (λ_ _ _ h k=>Za6 h k)
def Zds(s:List SrcV)(now:Int)(t:DstV):Option DisV:=(s.find? λx=>decide (x.to=t)&&decide (now<x.til)).map (·.bst)
def Zg4(s:List SrcV)(now:Int)(t:DstV)(d:DisV):Bool:=finD d&&match Zds s now t with
 |none=>true
 |some b=>Zeo d b
def Zdb:OptV:=⟨0,inf⟩
def bstO(l:List OptV):OptV:=l.foldl (λb o=>if o.cost<b.cost then o else b) Zdb
def prvO(nb:Int)(l:List OptV):OptV:=l.foldl (λc o=>if o.cost<inf/\o.nb=nb then o else c) Zdb
def Zdk(c:ChoV):Bool:=ZaA c.cost&&(decide (c.btn= -1)||Zag c.btn)
def opt1(o:OptV):Bool:= !decide (o.nb=0)&&ZaA o.cost
def cmpO(a b:OptV):Int:=cmpI a.nb b.nb
def Zdj(l:List OptV):Bool:=vldL 16 opt1 cmpO l
theorem ZoS{a b c:OptV}(h:cmpO a b<0)(k:cmpO b c<0):cmpO a c<0:=by
 unfold cmpO at*
 rw[Zfp] at*
 omega
theorem Zca{l:List OptV}:Zdj l=true↔l.length<=16/\(∀a∈l,opt1 a=true)/\AscC cmpO l:=Zdt (λ_ _ _ h k=>ZoS h k)
def choB(now:Int)(old:ChoV)(b c:OptV):ChoV:=
 if c=Zdb then⟨b.nb,b.cost,-1⟩ else if b.cost=c.cost then⟨c.nb,c.cost,-1⟩
 else if 256<=c.cost-b.cost then⟨b.nb,b.cost,-1⟩ else if old.btn= -1 then⟨c.nb,c.cost,now⟩
 else if old.btn+6<=now then⟨b.nb,b.cost,-1⟩ else⟨c.nb,c.cost,old.btn⟩
def Zbk(now:Int)(old:ChoV)(l:List OptV):ChoV:=choB now old (bstO l) (prvO old.nb l)
def ins1(e:InsV):Bool:=Za8 e.to&&(if e.nb=0 then decide (e.own.met=inf)&&decide (e.btn= -1)&&Zag e.til else finD e.own&&(decide (e.btn= -1)||Zag e.btn)&&decide (e.til=0))
def cmpN(a b:InsV):Int:=cmpD a.to b.to
def ZbG(l:List InsV):Bool:=vldL 512 ins1 cmpN l
theorem Za5{l:List InsV}:ZbG l=true↔l.length<=512/\(∀a∈l,ins1 a=true)/\AscC cmpN l:=Zdt (λ_ _ _ h k=>Za6 h k)
def insD(t:DstV):List DstV->List DstV
 |[]=>[t]
 |x::xs=>if cmpD t x<0 then t::x::xs else if t=x then x::xs else x::insD t xs
abbrev AscD(l:List DstV):Prop:=AscC cmpD l
theorem Zj3{t y:DstV}:∀{l:List DstV},y∈insD t l↔y=t∨y∈l
 |[]=>by simp[insD]
 |x::xs=>by
  unfold insD
  split
  ·simp
  ·split
   ·rename_i h
    subst h
    simp
   ·rw[List.mem_cons,Zj3 (l:=xs),List.mem_cons]
    constructor
    ·rintro(h|h|h)<;>simp[h]
    ·rintro(h|h|h)<;>simp[h]
theorem Zn6{t:DstV}(ht:IsDv t):∀{l:List DstV},(∀x∈l,IsDv x)->AscD l->AscD (insD t l)
 |[],_,_=>by simp[insD,AscD,AscC]
 |x::xs,hi,h=>by
  have h1:=List.pairwise_cons.1 h
  unfold insD
  split
  ·rename_i h2
   refine List.pairwise_cons.2 ⟨λy hy=>?_,h⟩
   rcases List.mem_cons.1 hy with rfl|hy
   ·exact h2
   ·exact Za6 h2 (h1.1 y hy)
  ·split
   ·exact h
   ·rename_i h2 h3
    refine List.pairwise_cons.2 ⟨λy hy=>?_,Zn6 ht (λz hz=>hi z (List.mem_cons_of_mem _ hz)) h1.2⟩
    rcases Zj3.1 hy with rfl|hy
    ·have h4:=ZbJ y x
     have h5:cmpD y x≠0:=λe=>h3 (Zcg ht (hi x Q5) e)
     omega
    ·exact h1.1 y hy
def allD(l:List RouV)(old:List InsV):List DstV:=l.map (·.to)++old.map (·.to)
def Zby(l:List RouV)(old:List InsV):List DstV:=(allD l old).foldr insD []
theorem ZeA{l:List DstV}(hi:∀x∈l,IsDv x):AscD (l.foldr insD [])/\(∀x,x∈l.foldr insD []↔x∈l):=by
 induction l with
 |nil=>simp[AscD,AscC]
 |cons a l ih=>
  obtain⟨h1,h2⟩:=ih λx hx=>hi x (List.mem_cons_of_mem _ hx)
  rw[List.foldr_cons]
  exact⟨Zn6 (hi a Q5) (λx hx=>hi x (List.mem_cons_of_mem _ ((h2 x).1 hx))) h1,λx=>by rw[Zj3,h2,List.mem_cons]⟩
def lkC(c:Int):Int:=if c<1 then 1 else c
def Zcp(links:List OptV):List (Int×Int):=links.foldl (λm o=>putA o.nb (lkC o.cost) m) []
def optV(now:Int)(s:List SrcV)(cm:List (Int×Int))(t:DstV)(r:RouV):Option OptV:=match getA r.nb cm with
 |none=>none
 |some c=>if decide (r.til<=now)|| !Zg4 s now t r.said then none else some ⟨r.nb,addM r.said.met c⟩
def ZcA(now:Int)(s:List SrcV)(cm:List (Int×Int))(t:DstV)(l:List RouV):List OptV:=(l.filter λr=>decide (r.to=t)).filterMap (optV now s cm t)
def ZeM(now:Int)(s:List SrcV)(cm:List (Int×Int))(t:DstV)(l:List RouV):List (Int×DisV):=((l.filter λr=>decide (r.to=t)).filter λr=>(optV now s cm t r).isSome).foldl (λm r=>putA r.nb r.said m) []
def befV:Option InsV->ChoV
 |none=>⟨0,0,-1⟩
 |some o=>⟨o.nb,o.own.met,o.btn⟩
def aftV(now:Int)(t:DstV)(old:Option InsV)(l:List OptV)(said:List (Int×DisV)):Option InsV:=
 let c:=Zbk now (befV old) l
 if c.nb≠0 then some ⟨t,c.nb,⟨((getA c.nb said).getD di0).seq,c.cost⟩,c.btn,0⟩ else match old with
  |none=>none
  |some o=>if o.nb≠0 then some ⟨t,0,⟨o.own.seq,inf⟩,-1,Zaz now 14⟩ else if now<o.til then some o else none
def oldV(old:List InsV)(t:DstV):Option InsV:=old.find? λo=>decide (o.to=t)
def selE(now:Int)(l:List RouV)(s:List SrcV)(cm:List (Int×Int))(old:List InsV)(t:DstV):Option InsV:=aftV now t (oldV old t) (ZcA now s cm t l) (ZeM now s cm t l)
def selV(now:Int)(l:List RouV)(s:List SrcV)(links:List OptV)(old:List InsV):List InsV:=(Zby l old).filterMap (selE now l s (Zcp links) old)
def ZiF:List Int:=[0,0,0,0,0,0,0,0,0,0,0,0,0,0,0,0]
theorem Zeh:IsIP ZiF:=⟨rfl,by intro x hx;simp[ZiF] at hx;omega⟩
def in0:InsV:=⟨⟨ZiF,0,ZiF,0,0⟩,0,di0,0,0⟩
end
section
attribute [local irreducible] OpTo wpListIn Code.wpIn MW Cal
theorem ZeN(t:Int)(W:World):Cal prog 191 [.int .i64 t].toArray W λv w'=>v= .bool (Zag t)/\Ext [] W w':=by
 unfold Zag
 by_cases h:0<=t
 ·rw[dqT h,Bool.true_and]
  refine yS (n:=9) Tryz.func191 rfl rfl ?_
  refine W3 [10,0,7] ?_
  exact vA5
 ·rw[dqF h,Bool.false_and]
  refine yS (n:=9) Tryz.func191 rfl rfl ?_
  refine W3 [10,0,7] ?_
  exact vA5
theorem vCx(h:p:=by
  refine Zar (n:=9) [] Tryz.func341 rfl rfl rfl ?_
  intro a w F M hwW
  refine W1 17 ?_;intro a F
  exact Qq F (⟨rfl,M.ext⟩)):p:=h
theorem ZnA(t:Int)(W:World):Cal prog 341 [.int .i64 t].toArray W λv w'=>v= .bool (Zag t)/\Ext [] W w':=by
 unfold Zag
 by_cases h:0<=t
 ·rw[dqT h,Bool.true_and]
  exact vCx
 ·rw[dqF h,Bool.false_and]
  exact vCx
theorem ZeL(t:Int)(W:World):Cal prog 189 [.int .i64 t].toArray W λv w'=>v= .bool (Zag t)/\Ext [] W w':=by
 unfold Zag
 by_cases h:0<=t
 ·rw[dqT h,Bool.true_and]
  refine yS (n:=9) Tryz.func189 rfl rfl ?_
  refine W3 [10,0,7] ?_
  exact vA5
 ·rw[dqF h,Bool.false_and]
  refine yS (n:=9) Tryz.func189 rfl rfl ?_
  refine W3 [10,0,7] ?_
  exact vA5
theorem Zso(a d:Int)(h0:0<=a)(h1:a<=1099511627776)(d0:0<=d)(d1:d<=1099511627776)(W:World):Cal prog 304 [.int .i64 a, .int .i64 d].toArray W λv w'=>v= .int .i64 (Zaz a d)/\Ext [] W w':=by
 refine Zar (n:=9) [] Tryz.func304 rfl rfl rfl ?_
 intro a w F M hwW
 refine W1 15 ?_;intro a F
 exact Qq F (⟨rfl,M.ext⟩)
theorem ZbZ(d:DisV)(W:World):Cal prog 188 [.agg (diC d).toArray].toArray W λv w'=>v= .bool (ZaA d.met)/\Ext [] W w':=by
 have e1:=ZgE (o:=d) trivial
 refine yS (n:=6) Tryz.func188 rfl rfl (gQ 2 rfl (Zai rfl rfl λb1=>?_))
 refine W4 [6,0,0,4] @ZfC ?_
 exact vA5
theorem ZpF(d:DisV)(W:World):Cal prog 190 [.agg (diC d).toArray].toArray W λv w'=>v= .bool (finD d)/\Ext [] W w':=by
 have e1:=ZgE (o:=d) trivial
 have e2:=ZbR (o:=d) trivial
 unfold finD inf
 refine yS (n:=10) Tryz.func190 rfl rfl ?_
 cases h1:ZaA d.met
 ·refine gQ 2 rfl ?_
  refine Zai rfl rfl λb1=>?_
  refine W4 [5,0,0,1,0,8] @ZbZ ?_
  exact vA5
 ·by_cases h2:d.met=65535
  ·rw[dqT h2]
   refine gQ 2 rfl (Zai rfl rfl λb1=>?_)
   refine W4 [5,0,0,1,0,1,0,6] @ZbZ ?_
   exact vAu
  ·rw[dqF h2]
   refine gQ 2 rfl (Zai rfl rfl λb1=>?_)
   refine W4 [5,0,0,1,0,1,0,6] @ZbZ ?_
   exact vAu
theorem Zsl(x y:RouV)(ha:IsRo x)(hb:IsRo y)(W:World):Cal prog 192 [.agg (roC x).toArray, .agg (roC y).toArray].toArray W λv w'=>v= .int .i64 (cmpR x y)/\Ext [] W w':=by
 have a1:=ZfR ha
 have a2:=ZkK ha
 have c1:=ZfR hb
 have c2:=ZkK hb
 have hr:cmpR x y=orV [cmpD x.to y.to,cmpV x.nb y.nb]:=by
  rw[Zkn ha.1 hb.1]
  exact vCr
 rw[hr]
 refine yS (n:=17) Tryz.func192 rfl rfl (gQ 2 rfl (Zai rfl rfl λb2=>Zai rfl rfl λb3=>?_))
 refine W4 [4,1011,1,0,1,0,0,1,0,1,0,0] (T2 @Zb0 @Ztx) ?_
 refine Zmy rfl rfl rfl rfl (λb15=>?_)
 refine Zb6 rfl rfl (λw M=>or_c (b:=_) [cmpD x.to y.to,cmpV x.nb y.nb] 2 rfl (by omega) _ (M.at_ _ (Zak (i:=0) rfl))) ?_
 refine gQ 4 rfl ?_
 exact vA5
theorem Zge(e:InsV)(he:IsIn e)(W:World):Cal prog 223 [.agg (inC e).toArray].toArray W λv w'=>v= .bool (!decide (e.nb=0))/\Ext [] W w':=by
 have e1:=Zs6 he
 refine yS (n:=6) Tryz.func223 rfl rfl ?_
 by_cases h:e.nb=0
 ·rw[dqT h]
  refine gQ 2 rfl (Zai rfl rfl λb1=>?_)
  refine W3 [6,0,5] ?_
  exact vAu
 ·rw[dqF h]
  refine gQ 2 rfl (Zai rfl rfl λb1=>?_)
  refine W3 [6,0,5] ?_
  exact vAu
theorem Zdo(e:InsV)(he:IsIn e)(W:World):Cal prog 56 [.agg (inC e).toArray].toArray W λv w'=>v= .bool (!decide (e.nb=0))/\Ext [] W w':=by
 have e1:=Zs6 he
 refine yS (n:=6) Tryz.func56 rfl rfl ?_
 by_cases h:e.nb=0
 ·rw[dqT h]
  refine gQ 2 rfl (Zai rfl rfl λb1=>?_)
  refine W3 [6,0,5] ?_
  exact vAu
 ·rw[dqF h]
  refine gQ 2 rfl (Zai rfl rfl λb1=>?_)
  refine W3 [6,0,5] ?_
  exact vAu
theorem vBf(h:p:=by
  refine W1 16 ?_;intro a F
  exact Qq F (⟨rfl,M.ext⟩)):p:=h
theorem ZzM(x y:Int)(W:World):Cal prog 242 [.int .i64 x, .int .i64 y].toArray W λv w'=>v= .int .i64 (addM x y)/\Ext [] W w':=by
 unfold addM inf
 refine Zar (n:=17) [] Tryz.func242 rfl rfl rfl ?_
 intro a w F M hwW
 refine W5 10 @ZfC ?_;intro a w F M
 cases h1:ZaA x
 ·rw[h1] at F
  exact vBf
 rw[h1] at F
 refine W5 4 @ZfC ?_;intro a w F M
 cases h2:ZaA y
 ·rw[h2] at F
  refine W1 12 ?_;intro a F
  exact Qq F (⟨rfl,M.ext⟩)
 rw[h2] at F
 unfold ZaA at h1 h2
 simp only[Bool.and_eq_true,decide_eq_true_eq] at h1 h2
 refine W1 17 ?_;intro a F
 refine Qq F ?_
 exact⟨by
  show _=Value.int .i64 (min (x+y) 65535)
  rw[show min (x+y) 65535=if 65535<x+y then 65535 else x+y by split<;>omega]
  (try rfl),M.ext⟩
theorem Zic(x y:Int)(W:World):Cal prog 245 [.int .u16 x, .int .u16 y].toArray W λv w'=>v= .bool (Zbg x y)/\Ext [] W w':=by
 obtain⟨d,hd⟩:∃d,d=IntKind.u16.wrap (x-y):=⟨_,rfl⟩
 have hn:Zbg x y=((decide (1<=d)&&decide (d<32768))||(decide (d=32768)&&decide (y<x))):=by rw[hd];rfl
 rw[hn]
 refine Zar (n:=24) [] Tryz.func245 rfl rfl rfl ?_
 intro a w F M hwW
 refine W1 18 ?_;intro a F
 rw[<-hd] at F
 by_cases h1:1<=d
 ·rw[dqT h1] at F
  rw[dqT h1]
  by_cases h2:d<32768
  ·rw[dqT h2]
   exact vBf
  ·by_cases h3:d=32768
   ·rw[dqF h2,dqT h3]
    exact vBf
   ·rw[dqF h2,dqF h3]
    exact vBf
 ·rw[dqF h1] at F
  rw[dqF h1,dqF (show ¬d=32768 by omega)]
  exact vBf
theorem vC5(h:p:=by
  refine Zae rfl rfl rfl λw M=>?_
  exact⟨by unfold inf;simp[*];done,M.ext⟩):p:=h
theorem vCZ(h:p:=by
  exact⟨by congr 1;rw[Bool.eq_iff_iff];simp[*],M.ext⟩):p:=h
theorem Zm8(e:InsV)(he:IsIn e)(W:World):Cal prog 193 [.agg (inC e).toArray].toArray W λv w'=>v= .bool (ins1 e)/\Ext [] W w':=by
 have hd:IsDv e.to:=he.1
 refine yS (n:=41) Tryz.func193 rfl rfl ?_
 unfold ins1
 refine gQ 2 rfl (Zai rfl rfl λb1=>?_)
 refine W4 [7,0,0,3] @Za3 ?_
 refine g_if rfl (λh1=>?_) (λh1=>?_)
 ·replace h1:=Zaa h1
  refine gQ 7 rfl (Zae rfl rfl rfl λw M=>?_)
  exact⟨by simp[*];done,M.ext⟩
 ·replace h1:=Zab h1
  refine W4 [5,0,0,2] @Zge ?_
  refine g_if rfl (λh2=>?_) (λh2=>?_)
  ·replace h2:=Zbx h2
   refine W4 [3,0,0,1] @ZpF ?_
   refine Zah 12 rfl (λh3=>?_) (λh3=>?_)
   ·refine W3 [1,0,2] ?_
    refine Zah 16 rfl (λh4=>?_) (λh4=>?_)
    ·replace h4:=dqU h4
     refine W3 [7,0,7] ?_
     refine Zae rfl rfl rfl λw M=>?_
     exact vCZ
    ·replace h4:=dqV h4
     refine W4 [1,0,0,3] @ZeN ?_
     refine Zah 22 rfl (λh5=>?_) (λh5=>?_)
     ·refine W3 [1,0,7] ?_
      refine Zae rfl rfl rfl λw M=>?_
      exact vCZ
     ·refine gQ 9 rfl (Zae rfl rfl rfl λw M=>?_)
      exact⟨by simp[*];done,M.ext⟩
   ·refine gQ 19 rfl (Zae rfl rfl rfl λw M=>?_)
    exact⟨by simp[*];done,M.ext⟩
  ·replace h2:=ZaJ h2
   refine W3 [6,0,2] ?_
   refine Zah 31 rfl (λh3=>?_) (λh3=>?_)
   ·replace h3:=dqU h3
    refine W3 [1,0,3] ?_
    refine Zah 36 rfl (λh4=>?_) (λh4=>?_)
    ·replace h4:=dqU h4
     refine W4 [1,0,0,5] @ZeN ?_
     exact vC5
    ·replace h4:=dqV h4
     refine gQ 8 rfl (Zae rfl rfl rfl λw M=>?_)
     exact⟨by simp[*];done,M.ext⟩
   ·replace h3:=dqV h3
    refine gQ 13 rfl (Zae rfl rfl rfl λw M=>?_)
    exact⟨by unfold inf;simp[*];done,M.ext⟩
theorem vAB(h:p:=by
  exact Zae rfl rfl rfl λw M=>vl_F hV hlt_i hx0.symm Qj M.ext):p:=h
theorem vB1(h:p:=by
  refine g_if rfl (λh1=>?_) (λh1=>?_)
  ·replace h1:=dqU h1
   refine W3 [8,0,2] ?_
   exact Zae rfl rfl rfl λw M=>vl_S hV hlt_i hi0 hx0.symm hy0.symm Q0 M.ext
  ·replace h1:=dqV h1
   refine W3 [4,0,2] ?_
   exact yN (i+1) ⟨Q0,vl_N hlt_i hx0.symm hv Qj λ_=>by rw[hy0];exact Q0⟩):p:=h
theorem Zdx(l:List RouV)(hx:∀x∈l,IsRo x)(v:Value)(W:World)(hS:SlAt W 39 v l.length (rosC l)):
  Cal prog 104 [v].toArray W λr w'=>r= .bool (Za7 l)/\Ext [] W w':=by
 obtain⟨q,cap,rfl,_⟩:=id hS
 have hm:=hS.memB [] Q5
 unfold Za7
 generalize hV:vldL 512 rou1 cmpR l=b0
 refine yS (n:=49) Tryz.func104 rfl rfl ?_
 by_cases c0:512<l.length
 ·exact vAn
 refine W3 [13,0,11] ?_
 refine Zau (ι:=Nat) ⟨λ(i:Nat)=>l.length-i,λ(i:Nat)=>i<=l.length/\(∀j,j<i->vld1 rou1 cmpR l j=true),λ(i:Nat)=>[(10, .int .i64 i),(9, .int .i64 l.length),(8, .slice q l.length cap),(0, .slice q l.length cap)],λ(i:Nat)=>[]⟩ 0 ⟨Q0,Q0⟩ (λa F=>F.only [10,9,8,0] rfl) Qa ?_
 rintro i ⟨hi_i,hv⟩
 by_cases hlt_i:i<l.length
 ·obtain⟨b,o,cs,t',fz,rfl,hb,hs⟩:=hm Q0
  obtain⟨x,hx0⟩:∃x,x=l[i]:=⟨_,rfl⟩
  have hxm:x∈l:=by rw[hx0];exact List.getElem_mem hlt_i
  have hxi:IsRo x:=hx _ hxm
  have f1:seg cs (o+(i:Int).toNat*39) 39=some (roC x):=by rw[hx0];exact Zal (Zbw hx) hs hlt_i Q0
  replace hx0:=hx0.symm
  have xd:IsDv x.to:=hxi.1
  refine W3 [6,0,7,0,0] ?_
  refine Zac λb4=>?_
  refine W4 [1,0,6,0,0,2] @Za3 ?_
  refine Zah 19 rfl (λh1=>?_) (λh1=>?_)
  ·replace h1:=Zaa h1
   refine W3 [28,0,2] ?_
   exact vAB
  replace h1:=Zab h1
  refine W3 [1,0,3] ?_
  refine Zah 24 rfl (λh2=>?_) (λh2=>?_)
  ·replace h2:=dqU h2
   refine W3 [23,0,2] ?_
   exact vAB
  replace h2:=dqV h2
  refine W4 [1,0,0,3] @ZpF ?_
  refine Zah 30 rfl (λh3=>?_) (λh3=>?_)
  ·replace h3:=Zaa h3
   refine W3 [17,0,2] ?_
   exact vAB
  replace h3:=Zab h3
  refine W4 [1,0,0,4] @ZeN ?_
  refine g_if rfl (λh4=>?_) (λh4=>?_)
  ·replace h4:=Zaa h4
   refine W3 [9,0,2] ?_
   exact vAB
  replace h4:=Zab h4
  refine gQ 2 rfl ?_
  by_cases hi0:0<i
  ·obtain⟨y,hy0⟩:∃y,y=l[i-1]'Q0:=⟨_,rfl⟩
   have yI:IsRo y:=by rw[hy0];exact hx _ (List.getElem_mem _)
   have f2:seg cs (o+((i:Int)-1).toNat*39) 39=some (roC y):=by rw[hy0];exact Zal (Zbw hx) hs (show i-1<l.length by omega) Q0
   replace hy0:=hy0.symm
   have yd:IsDv y.to:=yI.1
   refine W4 [1,1012,3,0,2,0,0,0,0,0,2,0,2] @Zsl ?_
   exact vB1
  ·refine W3 [1,1012,3,0,9,0,7,0,2] ?_
   exact yN (i+1) ⟨Q0,vl_N hlt_i hx0.symm hv Qj λh=>absurd h hi0⟩
 ·exact vA6
theorem vAF(h:p:=by
  exact Zae rfl rfl rfl λw M=>vl_F hV hlt_i hx0.symm Qk M.ext):p:=h
theorem vAM(h:p:=by
  refine g_if rfl (λh1=>?_) (λh1=>?_)
  ·replace h1:=dqU h1
   refine W3 [8,0,2] ?_
   exact Zae rfl rfl rfl λw M=>vl_S hV hlt_i hi0 hx0.symm hy0.symm (by unfold cmpS;omega) M.ext
  ·replace h1:=dqV h1
   refine W3 [4,0,2] ?_
   exact yN (i+1) ⟨Q0,vl_N hlt_i hx0.symm hv Qk λ_=>by rw[hy0];exact(by unfold cmpS;omega)⟩):p:=h
theorem Zbq(l:List SrcV)(hx:∀x∈l,IsSr x)(v:Value)(W:World)(hS:SlAt W 38 v l.length (srsC l)):
  Cal prog 103 [v].toArray W λr w'=>r= .bool (ZaK l)/\Ext [] W w':=by
 obtain⟨q,cap,rfl,_⟩:=id hS
 have hm:=hS.memB [] Q5
 unfold ZaK
 generalize hV:vldL 256 src1 cmpS l=b0
 refine yS (n:=52) Tryz.func103 rfl rfl ?_
 by_cases c0:256<l.length
 ·exact vAn
 refine W3 [13,0,11] ?_
 refine Zau (ι:=Nat) ⟨λ(i:Nat)=>l.length-i,λ(i:Nat)=>i<=l.length/\(∀j,j<i->vld1 src1 cmpS l j=true),λ(i:Nat)=>[(10, .int .i64 i),(9, .int .i64 l.length),(8, .slice q l.length cap),(0, .slice q l.length cap)],λ(i:Nat)=>[]⟩ 0 ⟨Q0,Q0⟩ (λa F=>F.only [10,9,8,0] rfl) Qa ?_
 rintro i ⟨hi_i,hv⟩
 by_cases hlt_i:i<l.length
 ·obtain⟨b,o,cs,t',fz,rfl,hb,hs⟩:=hm Q0
  obtain⟨x,hx0⟩:∃x,x=l[i]:=⟨_,rfl⟩
  have hxm:x∈l:=by rw[hx0];exact List.getElem_mem hlt_i
  have hxi:IsSr x:=hx _ hxm
  have f1:seg cs (o+(i:Int).toNat*38) 38=some (srC x):=by rw[hx0];exact Zal (ZbN hx) hs hlt_i Q0
  replace hx0:=hx0.symm
  have xd:IsDv x.to:=hxi.1
  refine W3 [6,0,7,0,0] ?_
  refine Zac λb4=>?_
  refine W4 [1,0,6,0,0,2] @Za3 ?_
  refine Zah 19 rfl (λh1=>?_) (λh1=>?_)
  ·replace h1:=Zaa h1
   refine W3 [29,0,2] ?_
   exact vAF
  replace h1:=Zab h1
  refine W4 [1,0,0,3] @ZbZ ?_
  refine Zah 25 rfl (λh2=>?_) (λh2=>?_)
  ·replace h2:=Zaa h2
   refine W3 [23,0,2] ?_
   exact vAF
  replace h2:=Zab h2
  refine W3 [2,0,3] ?_
  refine Zah 31 rfl (λh3=>?_) (λh3=>?_)
  ·replace h3:=dqU h3
   refine W3 [17,0,2] ?_
   exact vAF
  replace h3:=dqV h3
  refine W4 [1,0,0,4] @ZeL ?_
  refine g_if rfl (λh4=>?_) (λh4=>?_)
  ·replace h4:=Zaa h4
   refine W3 [9,0,2] ?_
   exact vAF
  replace h4:=Zab h4
  refine gQ 2 rfl ?_
  by_cases hi0:0<i
  ·obtain⟨y,hy0⟩:∃y,y=l[i-1]'Q0:=⟨_,rfl⟩
   have yI:IsSr y:=by rw[hy0];exact hx _ (List.getElem_mem _)
   have f2:seg cs (o+((i:Int)-1).toNat*38) 38=some (srC y):=by rw[hy0];exact Zal (ZbN hx) hs (show i-1<l.length by omega) Q0
   replace hy0:=hy0.symm
   have yd:IsDv y.to:=yI.1
   refine W3 [1,1014,3,0,2,0,0,1] ?_
   refine Zb8 rfl Qd (Zbe f2 (ZlG Qd) Q0) ?_
   refine W4 [1,0,0,2,0,2] @Zb0 ?_
   exact vAM
  ·refine W3 [1,1014,3,0,11,0,7,0,2] ?_
   exact yN (i+1) ⟨Q0,vl_N hlt_i hx0.symm hv Qk λh=>absurd h hi0⟩
 ·exact vA6
theorem vAN(h:p:=by
  refine g_if rfl (λh2=>?_) (λh2=>?_)
  ·replace h2:=dqU h2
   refine W3 [8,0,2] ?_
   exact Zae rfl rfl rfl λw M=>vl_S hV hlt_i hi0 hx0.symm hy0.symm (by unfold cmpN;omega) M.ext
  ·replace h2:=dqV h2
   refine W3 [4,0,2] ?_
   exact yN (i+1) ⟨Q0,vl_N hlt_i hx0.symm hv Qm λ_=>by rw[hy0];exact(by unfold cmpN;omega)⟩):p:=h
theorem vBW(h:p:=by
  exact Zae rfl rfl rfl λw M=>vl_F hV hlt_i hx0.symm Qm M.ext):p:=h
theorem Zet(l:List InsV)(hx:∀x∈l,IsIn x)(v:Value)(W:World)(hS:SlAt W 40 v l.length (insC l)):
  Cal prog 105 [v].toArray W λr w'=>r= .bool (ZbG l)/\Ext [] W w':=by
 obtain⟨q,cap,rfl,_⟩:=id hS
 have hm:=hS.memB [] Q5
 unfold ZbG
 generalize hV:vldL 512 ins1 cmpN l=b0
 refine yS (n:=35) Tryz.func105 rfl rfl ?_
 by_cases c0:512<l.length
 ·exact vAn
 refine W3 [13,0,11] ?_
 refine Zau (ι:=Nat) ⟨λ(i:Nat)=>l.length-i,λ(i:Nat)=>i<=l.length/\(∀j,j<i->vld1 ins1 cmpN l j=true),λ(i:Nat)=>[(10, .int .i64 i),(9, .int .i64 l.length),(8, .slice q l.length cap),(0, .slice q l.length cap)],λ(i:Nat)=>[]⟩ 0 ⟨Q0,Q0⟩ (λa F=>F.only [10,9,8,0] rfl) Qa ?_
 rintro i ⟨hi_i,hv⟩
 by_cases hlt_i:i<l.length
 ·obtain⟨b,o,cs,t',fz,rfl,hb,hs⟩:=hm Q0
  obtain⟨x,hx0⟩:∃x,x=l[i]:=⟨_,rfl⟩
  have hxm:x∈l:=by rw[hx0];exact List.getElem_mem hlt_i
  have hxi:IsIn x:=hx _ hxm
  have f1:seg cs (o+(i:Int).toNat*40) 40=some (inC x):=by rw[hx0];exact Zal (ZbU hx) hs hlt_i Q0
  replace hx0:=hx0.symm
  have xd:IsDv x.to:=hxi.1
  by_cases hi0:0<i
  ·obtain⟨y,hy0⟩:∃y,y=l[i-1]'Q0:=⟨_,rfl⟩
   have yI:IsIn y:=by rw[hy0];exact hx _ (List.getElem_mem _)
   have f2:seg cs (o+((i:Int)-1).toNat*40) 40=some (inC y):=by rw[hy0];exact Zal (ZbU hx) hs (show i-1<l.length by omega) Q0
   replace hy0:=hy0.symm
   have yd:IsDv y.to:=yI.1
   refine W3 [6,0,7,0,0] ?_
   refine Zac λb4=>?_
   refine W4 [1,0,3,1019,0,0,2] @Zm8 ?_
   refine ZbQ 18 rfl (λh1=>?_) (λh1=>?_)
   ·replace h1:=Zaa h1
    refine W3 [15,0,11,0,2] ?_
    exact vBW
   ·replace h1:=Zab h1
    refine W3 [3,0,2,0,0,1] ?_
    refine Zb8 rfl Qd (Zbe f2 (Zgu Qd) Q0) ?_
    refine W4 [1,0,0,3,0,2] @Zb0 ?_
    exact vAN
  ·refine W3 [6,0,7,0,0] ?_
   refine Zac λb4=>?_
   refine W4 [1,0,3,1019,0,0,2] @Zm8 ?_
   refine ZbQ 18 rfl (λh1=>?_) (λh1=>?_)
   ·replace h1:=Zaa h1
    refine W3 [15,0,11,0,2] ?_
    exact vBW
   ·replace h1:=Zab h1
    refine W3 [3,0,12,0,7,0,2] ?_
    exact yN (i+1) ⟨Q0,vl_N hlt_i hx0.symm hv Qm λh=>absurd h hi0⟩
 ·exact vA6
theorem vAO(h:p:=by
  refine Za4 24 F Q7 ?_
  intro w1 hE hok
  have M1:=M.later hE
  refine W2 6 hok ?_
  (refine mKG hok rfl rfl rfl rfl (λa' w' F' E'=>Zav (F'.e rfl) (F'.evs rfl) (Cal.mono (hel _) λ_ _ hh=>⟨hh.2,hh.1⟩)) ?_)
  refine W2 17 hok ?_
  (refine Qx M1 ?_;clear F M M1 hok hE;intro a w F M;(try dsimp only at F))
  refine W1 14 ?_;intro a F
  exact Qq F (⟨rfl,M.ext⟩)):p:=h
theorem Zja(l:List OptV)(hx:∀x∈l,IsOp x)(v:Value)(W:World)(hS:SlAt W 2 v l.length (opsC l)):
  Cal prog 239 [v].toArray W λr w'=>r= .bool (Zdj l)/\Ext [] W w':=by
 obtain⟨q,cap,rfl,hcap,hsp,hl,hm⟩:=hS
 unfold Zdj vldL
 by_cases c0:16<l.length
 ·rw[dqF Q0,Bool.false_and]
  refine Zar (n:=40) [] Tryz.func239 rfl rfl rfl ?_
  intro a w F M hwW
  refine W1 21 ?_;intro a F
  exact Qq F (⟨rfl,M.ext⟩)
 rw[dqT (show l.length<=16 by omega),Bool.true_and]
 refine Zar (n:=40) [] Tryz.func239 rfl rfl rfl ?_
 intro a w F M hwW
 refine W1 25 ?_;intro a F
 refine ZbK (λm a w=>∃i:Nat,m=l.length-i/\i<=l.length/\(∀j,j<i->vld1 opt1 cmpO l j=true)/\Frm a 40 [] [(10, .int .i64 i),(9, .int .i64 l.length),(0, .slice q l.length cap),(8, .slice q l.length cap)]/\Mem [] W w []) l.length ⟨0,rfl,Q0,Q0,F.only [10,9,0,8] rfl,M⟩ ?_
 clear F M
 rintro m a w ⟨i,hm',hi,hv,F,M⟩
 by_cases hlt:i<l.length
 ·obtain⟨b,o,cs,t,fz,rfl,hb,hs⟩:=hm Q0
  have hxv:=hx _ (List.getElem_mem hlt)
  have hv0:=Zpd (e1:=opt1) (cm:=cmpO) hlt
  have hvs:=ZkE (e1:=opt1) (cm:=cmpO) hlt
  have hvf:=ZmP (e1:=opt1) (cm:=cmpO) hlt
  have f1:seg cs (o+(i:Int).toNat*2) 2=some (opC l[i]):=Zal (Zfh hx) hs hlt Q0
  obtain⟨x,hx0⟩:∃x,x=l[i]:=⟨_,rfl⟩
  rw[<-hx0] at hxv hv0 hvs hvf f1
  have f2:(opC x).length=2:=Zfi hxv
  have f3:=ZkZ hxv
  have f4:=ZeR hxv
  have hel:=ZfC x.cost
  refine W1 16 ?_;intro a F
  (refine sD F (Zay M ?_);clear F M;intro b4 w M a F)
  refine W1 1 ?_;intro a F
  (refine ZaW rfl F (Zap M (F.e rfl) (F.e rfl) (f2) (Ze6 x)  Q1  (Zat (by rw[f2];rfl)) Q1 ?_);clear F M;intro w M a F)
  with_reducible refine ZdS (Zc6 (Zea ?_))
  replace F:=F.only [10,9,0,8,3,4] rfl
  by_cases c1:x.nb=0
  ·rw[Zou hlt (hvf (by unfold opt1;rw[dqT c1];rfl))]
   refine Za4 24 F Q7 ?_
   intro w1 hE hok
   have M1:=M.later hE
   refine W2 24 hok ?_
   (refine Qx M1 ?_;clear F M M1 hok hE;intro a w F M;(try dsimp only at F))
   exact vBQ
  cases c2:ZaA x.cost
  ·rw[Zou hlt (hvf (by unfold opt1;rw[dqF c1,c2];rfl))]
   rw[c2] at hel
   exact vAO
  have c5:opt1 x=true:=by unfold opt1;rw[dqF c1,c2];rfl
  rw[c2] at hel
  rw[c5] at hv0 hvs
  clear hvf
  rcases Nat.eq_zero_or_pos i with hi0|hi0
  ·refine Za4 24 F Q7 ?_
   intro w1 hE hok
   have M1:=M.later hE
   refine W2 6 hok ?_
   (refine mKG hok rfl rfl rfl rfl (λa' w' F' E'=>Zav (F'.e rfl) (F'.evs rfl) (Cal.mono (hel _) λ_ _ hh=>⟨hh.2,hh.1⟩)) ?_)
   refine W2 17 hok ?_
   (refine Qx M1 ?_;clear F M M1 hok hE;intro a w F M;(try dsimp only at F))
   refine W1 11 ?_;intro a F
   exact⟨_,Q0,i+1,rfl,Q0,λj hj=>by
    rcases Nat.lt_or_ge j i with h1|h1
    ·exact hv j h1
    ·obtain rfl:j=i:=by omega
     exact hv0 hi0,F.only [10,9,0,8] rfl,M.sub (List.sublist_cons_self _ _)⟩
  ·have hyv:=hx _ (List.getElem_mem (show i-1<l.length by omega))
   have g1:seg cs (o+((i:Int)-1).toNat*2) 2=some (opC (l[i-1]'Q0)):=Zal (Zfh hx) hs (show i-1<l.length by omega) Q0
   replace hvs:=hvs hi0
   obtain⟨y,hy0⟩:∃y,y=l[i-1]'Q0:=⟨_,rfl⟩
   rw[<-hy0] at hyv g1 hvs
   have g2:nth cs (o+((i:Int)-1).toNat*2+0)=some (.int .u64 y.nb):=Zcr g1 (ZkZ hyv) Q0
   clear g1 hy0
   change vld1 opt1 cmpO l i=(true&&decide (cmpI y.nb x.nb<0)) at hvs
   by_cases c6:y.nb<x.nb
   ·rw[dqT (Zfp.2 c6)] at hvs
    refine Za4 24 F Q7 ?_
    intro w1 hE hok
    have M1:=M.later hE
    refine W2 6 hok ?_
    (refine mKG hok rfl rfl rfl rfl (λa' w' F' E'=>Zav (F'.e rfl) (F'.evs rfl) (Cal.mono (hel _) λ_ _ hh=>⟨hh.2,hh.1⟩)) ?_)
    refine W2 17 hok ?_
    (refine Qx M1 ?_;clear F M M1 hok hE;intro a w F M;(try dsimp only at F))
    refine W1 11 ?_;intro a F
    exact⟨_,Q0,i+1,rfl,Q0,λj hj=>by
     rcases Nat.lt_or_ge j i with h1|h1
     ·exact hv j h1
     ·obtain rfl:j=i:=by omega
      rw[hvs];rfl,F.only [10,9,0,8] rfl,M.sub (List.sublist_cons_self _ _)⟩
   ·rw[Zou hlt (by rw[hvs,dqF (λh=>c6 (Zfp.1 h))];rfl)]
    exact vAO
 ·obtain rfl:i=l.length:=by omega
  rw[ZxV hv]
  exact vBR
def cmpQ(x y:DisV):Int:=if x=y then 0 else if Zeo x y then-1 else 1
theorem Zry(x y:DisV):decide (cmpQ x y= -1)=Zeo x y:=by
 unfold cmpQ
 by_cases h:x=y
 ·rw[if_pos h]
  unfold Zeo
  rw[dqT h]
  rfl
 ·rw[if_neg h]
  cases Zeo x y<;>rfl
theorem ZlI(x y:DisV)(W:World):Cal prog 339 [.agg (diC x).toArray, .agg (diC y).toArray].toArray W λv w'=>v= .int .i64 (cmpQ x y)/\Ext [] W w':=by
 have e1:=ZgE (o:=x) trivial
 have e2:=ZbR (o:=x) trivial
 have e3:=Zrp (o:=x) trivial
 have e4:=Zg9 (o:=x) trivial
 have g1:=ZgE (o:=y) trivial
 have g2:=ZbR (o:=y) trivial
 have g3:=Zrp (o:=y) trivial
 have g4:=Zg9 (o:=y) trivial
 have he:=Zki (a:=x) (b:=y) trivial trivial
 unfold cmpQ Zeo
 refine Zar (n:=27) [] Tryz.func339 rfl rfl rfl ?_
 intro a w F M hwW
 refine W1 2 ?_;intro a F
 refine Qs F M ?_;clear F M;intro b2 w M a F
 refine Qs F M ?_;clear F M;intro b3 w M a F
 refine W1 13 ?_;intro a F
 by_cases h:x=y
 ·rw[he,dqT h] at F
  rw[if_pos h]
  refine W1 9 ?_;intro a F
  exact Qq F (⟨rfl,M.ext⟩)
 rw[he,dqF h] at F
 rw[if_neg h,dqF h]
 refine W5 9 @Zic ?_;intro a w F M
 cases h1:Zbg x.seq y.seq
 ·rw[h1] at F
  by_cases h2:x.seq=y.seq
  ·rw[dqT h2]
   by_cases h3:x.met<y.met
   ·rw[dqT h3]
    refine W1 29 ?_;intro a F
    exact Qq F (⟨rfl,M.ext⟩)
   ·rw[dqF h3]
    refine W1 30 ?_;intro a F
    exact Qq F (⟨rfl,M.ext⟩)
  ·rw[dqF h2]
   refine W1 30 ?_;intro a F
   exact Qq F (⟨rfl,M.ext⟩)
 ·rw[h1] at F
  refine W1 15 ?_;intro a F
  exact Qq F (⟨rfl,M.ext⟩)
theorem Zr6(d b:DisV)(k:Bool)(W:World):Cal prog 302 [.agg (diC d).toArray, .agg (diC b).toArray, .bool k].toArray W λv w'=>v= .bool (finD d&&(!k||(ZaA b.met&&Zeo d b)))/\Ext [] W w':=by
 have e1:=ZgE (o:=d) trivial
 have e2:=ZbR (o:=d) trivial
 have g2:=ZbR (o:=b) trivial
 unfold finD inf
 refine Zar (n:=27) [] Tryz.func302 rfl rfl rfl ?_
 intro a w F M hwW
 refine W1 2 ?_;intro a F
 refine Qs F M ?_;clear F M;intro b3 w M a F
 refine Qs F M ?_;clear F M;intro b4 w M a F
 refine W5 8 @ZbZ ?_;intro a w F M
 cases h1:ZaA d.met
 ·rw[h1] at F
  exact vBf
 rw[h1] at F
 by_cases h2:d.met=65535
 ·rw[dqT h2]
  exact vBf
 rw[dqF h2]
 cases k
 ·refine W1 29 ?_;intro a F
  exact Qq F (⟨rfl,M.ext⟩)
 ·refine W5 18 @ZbZ ?_;intro a w F M
  cases h3:ZaA b.met
  ·rw[h3] at F
   refine W1 11 ?_;intro a F
   exact Qq F (⟨rfl,M.ext⟩)
  rw[h3] at F
  refine W5 4 @ZlI ?_;intro a w F M
  rw[<-Zry]
  by_cases h4:cmpQ d b= -1
  ·rw[dqT h4]
   refine W1 7 ?_;intro a F
   exact Qq F (⟨rfl,M.ext⟩)
  ·rw[dqF h4]
   refine W1 7 ?_;intro a F
   exact Qq F (⟨rfl,M.ext⟩)
theorem Zmw{α:Type}{p:α->Bool}{l:List α}(hi:i<l.length)(h:p l[i]=true)(hn:∀j(hj:j<l.length),j<i->p l[j]=false):l.find? p=some l[i]:=by
 rw[List.find?_eq_some_iff_getElem]
 exact⟨h,i,hi,rfl,λj hj=>by rw[hn j Q0 hj];rfl⟩
theorem Zj8{α:Type}{p:α->Bool}{l:List α}(hn:∀j(hj:j<l.length),p l[j]=false):l.find? p=none:=by
 rw[List.find?_eq_none]
 intro x hx
 obtain⟨j,hj,rfl⟩:=List.mem_iff_getElem.1 hx
 rw[hn j hj]
 simp
def hitS(now:Int)(t:DstV)(x:SrcV):Bool:=decide (x.to=t)&&decide (now<x.til)
theorem ZhL(s:List SrcV)(now:Int)(t:DstV):Zds s now t=(s.find? (hitS now t)).map (·.bst):=rfl
theorem Zm5(l:List SrcV)(hx:∀x∈l,IsSr x)(hval:ZaK l=true)(v:Value)(now:Int)(hnow:Zag now=true)(t:DstV)(ht:IsDv t)(W:World)(hS:SlAt W 38 v l.length (srsC l)):
  Cal prog 159 [v, .int .i64 now, .agg (dvC t).toArray].toArray W λr w'=>r= .tuple [diV ((Zds l now t).getD di0), .bool (Zds l now t).isSome].toArray/\Ext [] W w':=by
 have hS0:=hS
 have hlen:=(Zbc.1 hval).1
 obtain⟨q,cap,rfl,hcap,hsp,hl,hm⟩:=hS
 have d1:=Zcx ht
 have d2:=Zbl ht
 have d3:=ZaG ht
 rw[ZhL]
 refine Zar (n:=39) [] Tryz.func159 rfl rfl rfl ?_
 intro a w F M hwW
 refine W1 2 ?_;intro a F
 refine Qs F M ?_;clear F M;intro b5 w M a F
 (refine sD F (Zay M ?_);clear F M;intro b6 w M a F)
 refine W5 8 @Zbq ?_;intro a w F M
 rw[hval] at F
 refine W5 4 @ZeL ?_;intro a w F M
 rw[hnow] at F
 refine W1 16 ?_;intro a F
 refine ZbK (λm a w=>∃i:Nat,m=l.length-i/\i<=l.length/\(∀j(hj:j<l.length),j<i->hitS now t l[j]=false)/\Frm a 39 [] [(21, .int .i64 i),(20, .int .i64 l.length),(19, .slice q l.length cap),(1, .int .i64 now),(5, .pointer (some ⟨b5,0,none⟩)),(6, .pointer (some ⟨b6,0,none⟩)),(7, .bool false)]/\Mem [] W w [(b6, .cells [Value.int .u16 0, .int .i64 0].toArray 72 (0,0)),(b5, .cells (dvC t).toArray 67 (0,0))]) l.length ⟨0,rfl,Q0,Q0,F.only [21,20,19,1,5,6,7] rfl,M⟩ ?_
 clear F M
 rintro m a w ⟨i,hm',hi,hv,F,M⟩
 by_cases hlt:i<l.length
 ·obtain⟨b,o,cs,t',fz,rfl,hb,hs⟩:=hm Q0
  have hxv:=hx _ (List.getElem_mem hlt)
  have f1:seg cs (o+(i:Int).toNat*38) 38=some (srC l[i]):=Zal (ZbN hx) hs hlt Q0
  have hget:=Zmw (p:=hitS now t) hlt
  have hne:hitS now t l[i]=false->∀j(hj:j<l.length),j<i+1->hitS now t l[j]=false:=λh j hj hj2=>by
   exact vBT
  obtain⟨x,hx0⟩:∃x,x=l[i]:=⟨_,rfl⟩
  rw[<-hx0] at hxv f1 hget hne
  have f2:(srC x).length=38:=Zcj hxv
  have f3:=ZlG hxv
  have f4:=ZmY hxv
  have f5:=ZkG hxv
  have f6:=ZaG hxv.1
  have f7:=Zc3 hxv.1 ht
  refine W1 15 ?_;intro a F
  (refine sD F (Zay M ?_);clear F M;intro b9 w M a F)
  (refine ZaW rfl F (Zap M (F.e rfl) (F.e rfl) (f2) (ZcX x)  Q1  (Zat (by rw[f2];rfl)) Q1 ?_);clear F M;intro w M a F)
  refine W1 9 ?_;intro a F
  by_cases he:x.to=t
  ·rw[f7,dqT he] at F
   by_cases h2:now<x.til
   ·rw[hget (by unfold hitS;rw[dqT he,dqT h2];rfl) hv]
    refine W1 12 ?_;intro a F
    (refine ZaW rfl F (Zap M (F.e rfl) (F.e rfl) (ZbE (o:=x.bst) trivial) (Ze8 x.bst)  Q1  (Zat (by rw[ZbE (o:=x.bst) trivial];rfl)) Q1 ?_);clear F M;intro w M a F)
    refine W1 9 ?_;intro a F
    have e5:seg (diC x.bst) 0 2=some (diC x.bst):=ZbR (o:=x.bst) trivial
    exact vCt
   ·refine W1 16 ?_;intro a F
    exact⟨_,Q0,i+1,rfl,Q0,hne (by unfold hitS;rw[dqF h2,Bool.and_false]),F.only [21,20,19,1,5,6,7] rfl,M.sub (List.sublist_cons_self _ _)⟩
  ·rw[f7,dqF he] at F
   refine W1 16 ?_;intro a F
   exact⟨_,Q0,i+1,rfl,Q0,hne (by unfold hitS;rw[dqF he,Bool.false_and]),F.only [21,20,19,1,5,6,7] rfl,M.sub (List.sublist_cons_self _ _)⟩
 ·obtain rfl:i=l.length:=by omega
  rw[Zj8 (λj hj=>hv j hj hj)]
  refine W5 20 trivial ?_;intro a w F M
  exact vAx
theorem Zjy{l:List SrcV}(hval:ZaK l=true){now:Int}{b:DisV}(h:Zds l now t=some b):ZaA b.met=true:=by
 rw[ZhL,Option.map_eq_some_iff] at h
 obtain⟨x,h1,rfl⟩:=h
 have h2:=(Zbc.1 hval).2.1 x (List.mem_of_find?_eq_some h1)
 simp only[src1,finD,Bool.and_eq_true] at h2
 exact h2.1.2.1
theorem Zsc(l:List SrcV)(hx:∀x∈l,IsSr x)(hval:ZaK l=true)(v:Value)(now:Int)(hnow:Zag now=true)(t:DstV)(ht:IsDv t)(hvt:Za8 t=true)(d:DisV)(W:World)(hS:SlAt W 38 v l.length (srsC l)):
  Cal prog 241 [v, .int .i64 now, .agg (dvC t).toArray, .agg (diC d).toArray].toArray W λr w'=>r= .bool (Zg4 l now t d)/\Ext [] W w':=by
 have hvv:=hS.one
 have d1:=Zcx ht
 have e1:=ZbR (o:=d) trivial
 obtain⟨z,hz⟩:∃z,z=(Zds l now t).getD di0:=⟨_,rfl⟩
 obtain⟨k,hk⟩:∃k,k=(Zds l now t).isSome:=⟨_,rfl⟩
 have hf:Zg4 l now t d=(finD d&&(!k||(ZaA z.met&&Zeo d z))):=by
  rw[hz,hk]
  unfold Zg4
  cases h:Zds l now t with
  |none=>simp
  |some b=>simp[Zjy hval h]
 rw[hf]
 have hfind:=Zm5 l hx hval v now hnow t ht
 rw[<-hz,<-hk] at hfind
 have z1:=ZbR (o:=z) trivial
 have z2:=ZbE (o:=z) trivial
 refine Zar (n:=35) [] Tryz.func241 rfl rfl rfl ?_
 intro a w F M hwW
 refine W1 2 ?_;intro a F
 refine Qs F M ?_;clear F M;intro b6 w M a F
 refine Qs F M ?_;clear F M;intro b7 w M a F
 refine W5 8 @Zbq ?_;intro a w F M
 rw[hval] at F
 refine W5 4 @Za3 ?_;intro a w F M
 rw[hvt] at F
 refine W5 5 @ZeL ?_;intro a w F M
 rw[hnow] at F
 refine W5 16 hfind ?_;intro a w F M
 (refine sD F (Zay M ?_);clear F M;intro b9 w M a F)
 (refine ZaW rfl F (Zap M (F.e rfl) (F.e rfl) (z2) (Ze8 z)  Q1  (Zat (by rw[z2];rfl)) Q1 ?_);clear F M;intro w M a F)
 refine W5 13 @Zr6 ?_;intro a w F M
 exact Qq F (⟨rfl,M.ext⟩)
theorem ZoF(c:ChoV)(W:World):Cal prog 340 [.agg (chC c).toArray].toArray W λv w'=>v= .bool (Zdk c)/\Ext [] W w':=by
 have e1:=ZmE (o:=c) trivial
 have e2:=Zn2 (o:=c) trivial
 unfold Zdk
 refine Zar (n:=16) [] Tryz.func340 rfl rfl rfl ?_
 intro a w F M hwW
 refine W1 2 ?_;intro a F
 refine Qs F M ?_;clear F M;intro b1 w M a F
 refine W5 8 @ZfC ?_;intro a w F M
 cases h1:ZaA c.cost
 ·rw[h1] at F
  exact vBQ
 rw[h1] at F
 by_cases h2:c.btn= -1
 ·rw[dqT h2]
  exact vBQ
 ·rw[dqF h2]
  refine W5 14 @ZnA ?_;intro a w F M
  exact Qq F (⟨rfl,M.ext⟩)
theorem ZeH(o:OptV)(bt:Int)(W:World):Cal prog 342 [.agg (opC o).toArray, .int .i64 bt].toArray W λv w'=>v= .tuple [.agg (chC ⟨o.nb,o.cost,bt⟩).toArray, .int .i64 0].toArray/\Ext [] W w':=by
 have e1:=ZkZ (o:=o) trivial
 have e2:=ZeR (o:=o) trivial
 refine Zar (n:=12) [] Tryz.func342 rfl rfl rfl ?_
 intro a w F M hwW
 refine W1 2 ?_;intro a F
 refine Qs F M ?_;clear F M;intro b2 w M a F
 (refine sD F (Zay M ?_);clear F M;intro b4 w M a F)
 refine W5 16 trivial ?_;intro a w F M
 exact vAx
theorem Zlw{l:List OptV}(h:i<l.length):bstO (l.take (i+1))=if l[i].cost<(bstO (l.take i)).cost then l[i] else bstO (l.take i):=by
 unfold bstO
 exact vBm
theorem ZkV{l:List OptV}{nb:Int}(h:i<l.length):prvO nb (l.take (i+1))=if l[i].cost<inf/\l[i].nb=nb then l[i] else prvO nb (l.take i):=by
 unfold prvO
 exact vBm
theorem vBC(h:p:=by
  intro l
  induction l with
  |nil=>intro b _ h;exact h
  |cons x xs ih=>
   intro b h1 h2
   rw[List.foldl_cons]
   refine ih _ (λo ho=>h1 o (List.mem_cons_of_mem _ ho)) ?_
   split
   ·exact h1 x Q5
   ·exact h2):p:=h
theorem Zjx{l:List OptV}(h:∀o∈l,ZaA o.cost=true):ZaA (bstO l).cost=true:=by
 have key:∀(l:List OptV)(b:OptV),(∀o∈l,ZaA o.cost=true)->ZaA b.cost=true->ZaA (l.foldl (λb o=>if o.cost<b.cost then o else b) b).cost=true:=by
  exact vBC
 exact key l Zdb h rfl
theorem Zi0{nb:Int}{l:List OptV}(h:∀o∈l,ZaA o.cost=true):ZaA (prvO nb l).cost=true:=by
 have key:∀(l:List OptV)(b:OptV),(∀o∈l,ZaA o.cost=true)->ZaA b.cost=true->ZaA (l.foldl (λc o=>if o.cost<inf/\o.nb=nb then o else c) b).cost=true:=by
  exact vBC
 exact key l Zdb h rfl
abbrev opO(o:OptV):Obj:= .cells (opC o).toArray 96 (0,0)
theorem vAh(h:p:=by
  (refine ZaW rfl F (Zap M (F.e rfl) (F.e rfl) (Zfr (o:=⟨bb.nb,bb.cost,(-1)⟩) trivial) (Zjv ⟨bb.nb,bb.cost,(-1)⟩)  Q1  (Zat (by rw[Zfr (o:=⟨bb.nb,bb.cost,(-1)⟩) trivial];rfl)) Q1 ?_);clear F M;intro w M a F)
  refine W1 6 ?_;intro a F
  exact ZdP F rfl (.cons (.cell (F.e rfl) (Zam TAgg.h (M.heap Q1) (ZfM (o:=⟨bb.nb,bb.cost,(-1)⟩) trivial))) (.cons (.tmp (F.e rfl)) .nil)) ⟨rfl,M.ext⟩):p:=h
theorem vAq(h:p:=by
  exact⟨_,Q0,i+1,rfl,Q0,F.only [32,31,30,0,4,6,7,8,9,10] rfl,by rw[hb1,hp1];exact M.sub (List.sublist_cons_self _ _)⟩):p:=h
theorem ZtB(l:List OptV)(hx:∀x∈l,IsOp x)(hval:Zdj l=true)(v:Value)(now:Int)(hnow:Zag now=true)(old:ChoV)(hold:Zdk old=true)(W:World)(hS:SlAt W 2 v l.length (opsC l)):
  Cal prog 303 [.int .i64 now, .agg (chC old).toArray,v].toArray W λr w'=>r= .tuple [.agg (chC (Zbk now old l)).toArray, .int .i64 0].toArray/\Ext [] W w':=by
 have hS0:=hS
 have hlen:=(Zca.1 hval).1
 have hopt:=(Zca.1 hval).2.1
 obtain⟨q,cap,rfl,hcap,hsp,hl,hm⟩:=hS
 have o1:=ZfM (o:=old) trivial
 have o2:=ZwX (o:=old) trivial
 have o3:=Zn2 (o:=old) trivial
 have n1:=ZsC (o:=Zdb) trivial
 have n2:=Zfi (o:=Zdb) trivial
 have n3:=Znt (o:=Zdb) trivial
 unfold Zbk
 refine Zar (n:=114) [] Tryz.func303 rfl rfl rfl ?_
 intro a w F M hwW
 refine W1 2 ?_;intro a F
 refine Qs F M ?_;clear F M;intro b4 w M a F
 (refine sD F (Zay M ?_);clear F M;intro b6 w M a F)
 refine W5 8 @ZoF ?_;intro a w F M
 rw[hold] at F
 refine W5 4 @Zja ?_;intro a w F M
 rw[hval] at F
 refine W5 12 @ZnA ?_;intro a w F M
 rw[hnow] at F
 refine W1 9 ?_;intro a F
 (refine sD F (Zay M ?_);clear F M;intro b8 w M a F)
 refine W5 1 trivial ?_;intro a w F M
 replace M:Mem [] W w [(b8,opO Zdb),(b6, .cells [Value.int .u64 0, .int .i64 0, .int .i64 0].toArray 310 (0,0)),(b4, .cells (chC old).toArray 310 (0,0))]:=M
 with_reducible refine ZdS (Zc6 (Zea ?_))
 replace F:=F.only [0,2,4,6,7,8] rfl
 refine ZwY [⟨2,4, .cells opZ.toArray 96 (0,0),opO Zdb⟩,⟨3,99999, .cells opZ.toArray 96 (0,0), .cells opZ.toArray 96 (0,0)⟩] 5 F Q7 Q7 ?_
 intro w1 hE hsz hok
 have M1:=M.later hE
 refine W2 2 hok ?_
 refine mAlP hok rfl rfl (by intro q hq hj;rcases List.mem_cons.1 hq with rfl|hq;{first|rfl|exact absurd hj (Nat.ne_of_beq_eq_false rfl)};rcases List.mem_cons.1 hq with rfl|hq;{first|rfl|exact absurd hj (Nat.ne_of_beq_eq_false rfl)};cases hq) (λw=>Ext.alloc w _) (λa' w' F' E'=>Zh0) (mAlP hok rfl rfl (by intro q hq hj;rcases List.mem_cons.1 hq with rfl|hq;{first|rfl|exact absurd hj (Nat.ne_of_beq_eq_false rfl)};rcases List.mem_cons.1 hq with rfl|hq;{first|rfl|exact absurd hj (Nat.ne_of_beq_eq_false rfl)};cases hq) (λw=>Ext.alloc w _) (λa' w' F' E'=>Zh0) ?_)
 refine mStP ⟨2,4, .cells opZ.toArray 96 (0,0),opO Zdb⟩ hok rfl (.head _) rfl (by intro q hq hj;rcases List.mem_cons.1 hq with rfl|hq;{first|rfl|exact absurd hj (Nat.ne_of_beq_eq_false rfl)};rcases List.mem_cons.1 hq with rfl|hq;{first|rfl|exact absurd hj (Nat.ne_of_beq_eq_false rfl)};cases hq) (λ_ _ b' hb' h=>⟨h.os,h.tape,h.output,h.size,h.dr,λk hk hks=>h.block k hks (by simp only[List.mem_singleton];(try dsimp only at hb');omega)⟩) (λa' w' b' F' E' hp hh=>ZjS hp (F'.e rfl) n2 (Ze6 Zdb) hh (Zat (by rw[n2];rfl))) ?_
 (refine ZiG rfl rfl ?_;clear F M;intro a w F hE2 hX hTT hDD hPP;have M:=M1.laterOld hE2 (Nat.le_of_eq hsz);(try dsimp only at F);obtain⟨b9,e_b9,g_b9,q_b9⟩:=hPP ⟨2,4, .cells opZ.toArray 96 (0,0),opO Zdb⟩ (.head _);replace F:=F.know (d:=9) e_b9;replace q_b9:=q_b9.trans (congrArg some (if_pos (Nat.le_of_ble_eq_true rfl)));replace M:=Mem.al (pre:=[]) M M1 q_b9 g_b9 (by intro p hp;cases hp);obtain⟨b10,e_b10,g_b10,q_b10⟩:=hPP ⟨3,99999, .cells opZ.toArray 96 (0,0), .cells opZ.toArray 96 (0,0)⟩ (.tail _ (.head _));replace F:=F.know (d:=10) e_b10;replace q_b10:=q_b10.trans (congrArg some (if_neg (Nat.not_lt_of_le (Nat.le_of_ble_eq_true rfl))));replace M:=Mem.al (pre:=[(b9,_)]) M M1 q_b10 g_b10 (by intro p hp;rcases List.mem_cons.1 hp with rfl|hp;{exact λh=>hDD 2 3 _ _ (Nat.le_of_ble_eq_true rfl) (Nat.le_of_ble_eq_true rfl) (by decide) rfl rfl rfl rfl (e_b9.trans (h.trans e_b10.symm))};cases hp);clear M1;clear hX;clear hE2;clear hok;clear hE;clear hTT;clear hDD;clear hPP;clear hsz;clear e_b9;clear g_b9;clear q_b9;clear e_b10;clear g_b10;clear q_b10;(try dsimp only[Zcz] at F);(try simp only[List.cons_append,List.nil_append] at M))
 (refine ZaW rfl F (Zap M (F.e rfl) (F.e rfl) (n2) (Ze6 Zdb)  Q1  (Zat (by rw[n2];rfl)) Q1 ?_);clear F M;intro w M a F)
 refine W1 11 ?_;intro a F
 replace F:=F.only [32,31,30,0,4,6,7,8,9,10] rfl
 refine ZbK (λm a w=>∃i:Nat,m=l.length-i/\i<=l.length/\Frm a 114 [] [(32, .int .i64 i),(31, .int .i64 l.length),(30, .slice q l.length cap),(0, .int .i64 now),(4, .pointer (some ⟨b4,0,none⟩)),(6, .pointer (some ⟨b6,0,none⟩)),(7, .int .i64 0),(8, .pointer (some ⟨b8,0,none⟩)),(9, .pointer (some ⟨b9,0,none⟩)),(10, .pointer (some ⟨b10,0,none⟩))]/\Mem [] W w [(b10,opO (prvO old.nb (l.take i))),(b9,opO (bstO (l.take i))),(b8,opO Zdb),(b6, .cells [Value.int .u64 0, .int .i64 0, .int .i64 0].toArray 310 (0,0)),(b4, .cells (chC old).toArray 310 (0,0))]) l.length ⟨0,rfl,Q0,F,M.perm Qe⟩ ?_
 clear F M
 rintro m a w ⟨i,hm',hi,F,M⟩
 by_cases hlt:i<l.length
 ·obtain⟨b,o,cs,t',fz,rfl,hb,hs⟩:=hm Q0
  have hxv:=hx _ (List.getElem_mem hlt)
  have f1:seg cs (o+(i:Int).toNat*2) 2=some (opC l[i]):=Zal (Zfh hx) hs hlt Q0
  have hb1:=Zlw hlt
  have hp1:=ZkV (nb:=old.nb) hlt
  obtain⟨x,hx0⟩:∃x,x=l[i]:=⟨_,rfl⟩
  rw[<-hx0] at hxv f1 hb1 hp1
  obtain⟨bb,hbb⟩:∃bb,bb=bstO (l.take i):=⟨_,rfl⟩
  obtain⟨pp,hpp⟩:∃pp,pp=prvO old.nb (l.take i):=⟨_,rfl⟩
  rw[<-hbb] at hb1 M
  rw[<-hpp] at hp1 M
  have f2:(opC x).length=2:=Zfi hxv
  have f3:=ZkZ hxv
  have f4:=ZeR hxv
  have f5:=Znt hxv
  have f6:=ZeR (o:=bb) trivial
  have hP:∀(x:OptV),(opC x).length=2:=λx=>Zfi (o:=x) trivial
  unfold inf at hp1
  refine W1 15 ?_;intro a F
  (refine sD F (Zay M ?_);clear F M;intro b12 w M a F)
  (refine ZaW rfl F (Zap M (F.e rfl) (F.e rfl) (f2) (Ze6 x)  Q1  (Zat (by rw[f2];rfl)) Q1 ?_);clear F M;intro w M a F)
  by_cases c1:x.cost<bb.cost
  ·rw[if_pos c1] at hb1
   refine W1 15 ?_;intro a F
   (refine ZaW rfl F (Zap M (F.e rfl) (F.e rfl) (f2) (Ze6 x)  Q1  (Zat (by simp only[hP])) Q1 ?_);clear F M;intro w M a F)
   by_cases c2:x.cost<65535
   ·by_cases c3:x.nb=old.nb
    ·rw[if_pos ⟨c2,c3⟩] at hp1
     refine W1 19 ?_;intro a F
     (refine ZaW rfl F (Zap M (F.e rfl) (F.e rfl) (f2) (Ze6 x)  Q1  (Zat (by simp only[hP])) Q1 ?_);clear F M;intro w M a F)
     refine W1 8 ?_;intro a F
     exact vAq
    ·rw[if_neg (λh=>c3 h.2)] at hp1
     refine W1 25 ?_;intro a F
     exact vAq
   ·rw[if_neg (λh=>c2 h.1)] at hp1
    refine W1 25 ?_;intro a F
    exact vAq
  ·rw[if_neg c1] at hb1
   by_cases c2:x.cost<65535
   ·by_cases c3:x.nb=old.nb
    ·rw[if_pos ⟨c2,c3⟩] at hp1
     refine W1 32 ?_;intro a F
     (refine ZaW rfl F (Zap M (F.e rfl) (F.e rfl) (f2) (Ze6 x)  Q1  (Zat (by simp only[hP])) Q1 ?_);clear F M;intro w M a F)
     refine W1 8 ?_;intro a F
     exact vAq
    ·rw[if_neg (λh=>c3 h.2)] at hp1
     refine W1 38 ?_;intro a F
     exact vAq
   ·rw[if_neg (λh=>c2 h.1)] at hp1
    refine W1 38 ?_;intro a F
    exact vAq
 ·obtain rfl:i=l.length:=by omega
  rw[List.take_length] at M
  obtain⟨bb,hbb⟩:∃bb,bb=bstO l:=⟨_,rfl⟩
  obtain⟨pp,hpp⟩:∃pp,pp=prvO old.nb l:=⟨_,rfl⟩
  have hbp:ZaA bb.cost=true/\ZaA pp.cost=true:=by
   rw[hbb,hpp]
   exact⟨Zjx λo ho=>by have:=hopt o ho;simp only[opt1,Bool.and_eq_true] at this;exact this.2,Zi0 λo ho=>by have:=hopt o ho;simp only[opt1,Bool.and_eq_true] at this;exact this.2⟩
  simp only[ZaA,Bool.and_eq_true,decide_eq_true_eq] at hbp
  rw[<-hbb,<-hpp] at M⊢
  have e1:=Znt (o:=bb) trivial
  have e2:=Znt (o:=pp) trivial
  have e3:=ZeR (o:=bb) trivial
  have e4:=ZeR (o:=pp) trivial
  have e5:=Zqe (o:=pp) trivial
  have e6:=Zqe (o:=Zdb) trivial
  have e7:=ZzX (a:=pp) (b:=Zdb) trivial trivial
  have hbt:=hold
  simp only[Zdk,Zag,Bool.and_eq_true,Bool.or_eq_true,decide_eq_true_eq] at hbt
  have hnw:=hnow
  simp only[Zag,Bool.and_eq_true,decide_eq_true_eq] at hnw
  refine W1 27 ?_;intro a F
  by_cases c1:pp=Zdb
  ·rw[e7,dqT c1] at F
   have hch:choB now old bb pp=⟨bb.nb,bb.cost,(-1)⟩:=by unfold choB;rw[if_pos c1]
   rw[hch]
   refine W5 8 @ZeH ?_;intro a w F M
   exact vAh
  rw[e7,dqF c1] at F
  by_cases c2:bb.cost=pp.cost
  ·have hch:choB now old bb pp=⟨pp.nb,pp.cost,(-1)⟩:=by unfold choB;rw[if_neg c1,if_pos c2]
   rw[hch]
   refine W5 19 @ZeH ?_;intro a w F M
   (refine ZaW rfl F (Zap M (F.e rfl) (F.e rfl) (Zfr (o:=⟨pp.nb,pp.cost,(-1)⟩) trivial) (Zjv ⟨pp.nb,pp.cost,(-1)⟩)  Q1  (Zat (by rw[Zfr (o:=⟨pp.nb,pp.cost,(-1)⟩) trivial];rfl)) Q1 ?_);clear F M;intro w M a F)
   refine W1 6 ?_;intro a F
   exact ZdP F rfl (.cons (.cell (F.e rfl) (Zam TAgg.h (M.heap Q1) (ZfM (o:=⟨pp.nb,pp.cost,(-1)⟩) trivial))) (.cons (.tmp (F.e rfl)) .nil)) ⟨rfl,M.ext⟩
  by_cases c3:256<=pp.cost-bb.cost
  ·have hch:choB now old bb pp=⟨bb.nb,bb.cost,(-1)⟩:=by unfold choB;rw[if_neg c1,if_neg c2,if_pos c3]
   rw[hch]
   refine W5 31 @ZeH ?_;intro a w F M
   exact vAh
  by_cases c4:old.btn= -1
  ·have hch:choB now old bb pp=⟨pp.nb,pp.cost,now⟩:=by unfold choB;rw[if_neg c1,if_neg c2,if_neg c3,if_pos c4]
   rw[hch]
   refine W5 41 @ZeH ?_;intro a w F M
   (refine ZaW rfl F (Zap M (F.e rfl) (F.e rfl) (Zfr (o:=⟨pp.nb,pp.cost,now⟩) trivial) (Zjv ⟨pp.nb,pp.cost,now⟩)  Q1  (Zat (by rw[Zfr (o:=⟨pp.nb,pp.cost,now⟩) trivial];rfl)) Q1 ?_);clear F M;intro w M a F)
   refine W1 6 ?_;intro a F
   exact ZdP F rfl (.cons (.cell (F.e rfl) (Zam TAgg.h (M.heap Q1) (ZfM (o:=⟨pp.nb,pp.cost,now⟩) trivial))) (.cons (.tmp (F.e rfl)) .nil)) ⟨rfl,M.ext⟩
  by_cases c5:old.btn+6<=now
  ·have hch:choB now old bb pp=⟨bb.nb,bb.cost,(-1)⟩:=by unfold choB;rw[if_neg c1,if_neg c2,if_neg c3,if_neg c4,if_pos c5]
   rw[hch]
   refine W5 51 @ZeH ?_;intro a w F M
   exact vAh
  have hch:choB now old bb pp=⟨pp.nb,pp.cost,old.btn⟩:=by unfold choB;rw[if_neg c1,if_neg c2,if_neg c3,if_neg c4,if_neg c5]
  rw[hch]
  refine W5 56 @ZeH ?_;intro a w F M
  (refine ZaW rfl F (Zap M (F.e rfl) (F.e rfl) (Zfr (o:=⟨pp.nb,pp.cost,old.btn⟩) trivial) (Zjv ⟨pp.nb,pp.cost,old.btn⟩)  Q1  (Zat (by rw[Zfr (o:=⟨pp.nb,pp.cost,old.btn⟩) trivial];rfl)) Q1 ?_);clear F M;intro w M a F)
  refine W1 4 ?_;intro a F
  exact ZdP F rfl (.cons (.cell (F.e rfl) (Zam TAgg.h (M.heap Q1) (ZfM (o:=⟨pp.nb,pp.cost,old.btn⟩) trivial))) (.cons (.tmp (F.e rfl)) .nil)) ⟨rfl,M.ext⟩
theorem Zen(xs:List Value)(k:Nat)(h:k<=xs.length):∃A B,xs=A++B/\A.length=k:=⟨xs.take k,xs.drop k,(List.take_append_drop k xs).symm,by simp[h]⟩
theorem Has.app{l:EN}{b:Nat}{o:Obj}(h:Has l b o):∀q:EN,Has (q++l) b o
 |[]=>h
 | _::q=> .there (h.app q)
theorem vB6(h:p:=by
  have hxs:l=[]:=List.length_eq_zero_iff.1 hn
  subst hxs
  (refine sD F (Zqs (F.e rfl) (F.e rfl) Q0 (hSw.src (by simp[encL])) ?_);clear F a;intro a F)
  refine W1 4 ?_;intro a F
  refine Qq F ?_
  exact (⟨[(b5,_)], .inr ⟨b5,0,[],rfl,rfl,by simp[encL],by simp,by simp⟩,λb o s c h _=>(by cases h;(try rfl)),M⟩)):p:=h
theorem vBD(h:p:=by
  intro a w F M hwW
  refine W1 9 ?_;intro a F
  (refine sD F (Zda (F.e rfl) (F.e rfl) ?_);clear F a;intro a F)
  refine W1 10 ?_;intro a F
  refine Qq F ?_
  exact (⟨[],OwnS.nil _ _,λb o s c h=>(by cases h),M⟩)):p:=h
theorem vBX(h:p:=by
  obtain⟨q',cap',h2,_,_,_,h3⟩:=hS
  rw[hq] at h2
  cases h2
  rcases Nat.eq_zero_or_pos l.length with h|h
  ·exact h
  ·obtain⟨_,_,_,_,_,h4,_⟩:=h3 h
   cases h4):p:=h
theorem vCy(h:p:=by
  rw[Nat.zero_add,List.nil_append] at hO
  refine W1 4 ?_;intro a F
  exact Qq F (⟨ent,hO,λb o s c _ h=>absurd h hn,M⟩)):p:=h
theorem Zty(l:List RouV)(hlen:l.length<=100000)(v:Value)(W:World)(hS:SlAt W 39 v l.length (rosC l)):
  Cal prog 149 [v].toArray W λr w'=>∃ent,OwnS 76 39 r l.length (rosC l) ent/\(∀b o s c,r= .slice (some ⟨b,o,s⟩) l.length c->l.length=0->c=0)/\Mem [] W w' ent:=by
 obtain⟨q,cap,hq,_⟩:=id hS
 cases q with
 |none=>
  have hn:l.length=0:=by
   exact vBX
  have hxs:l=[]:=List.length_eq_zero_iff.1 hn
  subst hxs
  rw[hq]
  refine Zar (n:=8) [] Tryz.func149 rfl rfl rfl ?_
  exact vBD
 |some a0=>
  rw[hq] at hS⊢
  refine Zar (n:=8) [] Tryz.func149 rfl rfl rfl ?_
  intro a w F M hwW
  refine W1 9 ?_;intro a F
  (refine sD F (Zda (F.e rfl) (F.e rfl) ?_);clear F a;intro a F)
  refine W1 7 ?_;intro a F
  (refine sD F (ZaC F M rfl rfl rfl rfl ?_);clear F M;intro b5 w M a F)
  refine W1 1 ?_;intro a F
  have hSw:=hS.later M.ext
  by_cases hn:l.length=0
  ·exact vB6
  ·have hO5:OwnS 76 39 (.slice (some ⟨b5,0,none⟩) 0 0) 0 [] [(b5, .cells ([]:List Value).toArray 76 (0,0))]:= .inr ⟨b5,0,[],rfl,rfl,by simp,by simp,by simp⟩
   (refine sD F (Zck hO5 M .here (F.e rfl) (F.e rfl) (hSw.src ZlX) Q0 Q0 ?_);clear F M;intro u ent w hO M a F)
   exact vCy
end
section
open Go.Shelf
def ZiS:Go.Shelf.Ren:=⟨fun|6=>300|15=>181|14=>338|28=>277|29=>278|20=>356|21=>357|22=>358|23=>359|24=>360|25=>361|26=>362|27=>363|46=>369|47=>322|48=>323|49=>370|50=>371|57=>374|n=>n,fun|22=>216|24=>67|25=>159|3=>3|39=>185|0=>0|53=>297|55=>40|4=>4|46=>291|45=>290|50=>268|5=>5|9=>9|66=>326|70=>329|76=>345|77=>346|n=>n,fun|n=>n⟩
theorem ZxB:Go.Proofs.SlLaysF0.n6 prog ZiS:= {
 mixed:=by kernel_rfl
 f6:=⟨Tryz.f300.name,by decide,Tryz.func300.trans (congrArg some Q7)⟩
 f14:=⟨Tryz.f338.name,by decide,Tryz.func338.trans (congrArg some Q7)⟩
 f15:=Tryz.func181.trans (congrArg some Q7)
 f20:=⟨Tryz.f356.name,by decide,Tryz.func356.trans (congrArg some Q7)⟩
 f21:=⟨Tryz.f357.name,by decide,Tryz.func357.trans (congrArg some Q7)⟩
 f22:=⟨Tryz.f358.name,by decide,Tryz.func358.trans (congrArg some Q7)⟩
 f23:=⟨Tryz.f359.name,by decide,Tryz.func359.trans (congrArg some Q7)⟩
 f24:=⟨Tryz.f360.name,by decide,Tryz.func360.trans (congrArg some Q7)⟩
 f25:=⟨Tryz.f361.name,by decide,Tryz.func361.trans (congrArg some Q7)⟩
 f26:=⟨Tryz.f362.name,by decide,Tryz.func362.trans (congrArg some Q7)⟩
 f27:=⟨Tryz.f363.name,by decide,Tryz.func363.trans (congrArg some Q7)⟩
 f28:=Tryz.func277.trans (congrArg some Q7)
 f29:=Tryz.func278.trans (congrArg some Q7)
 f46:=⟨Tryz.f369.name,by decide,Tryz.func369.trans (congrArg some Q7)⟩
 f47:=Tryz.func322.trans (congrArg some Q7)
 f48:=Tryz.func323.trans (congrArg some Q7)
 f49:=⟨Tryz.f370.name,by decide,Tryz.func370.trans (congrArg some Q7)⟩
 f50:=⟨Tryz.f371.name,by decide,Tryz.func371.trans (congrArg some Q7)⟩
 f57:=⟨Tryz.f374.name,by decide,Tryz.func374.trans (congrArg some Q7)⟩
 t0:=Tryz.underlying0
 a0:=Tryz.isAgg0
 z0:=Tryz.sizeOf0
 v0:=Tryz.zeroValue0
 t3:=Tryz.underlying3
 a3:=Tryz.isAgg3
 z3:=Tryz.sizeOf3
 v3:=Tryz.zeroValue3
 t4:=Tryz.underlying4
 a4:=Tryz.isAgg4
 z4:=Tryz.sizeOf4
 v4:=Tryz.zeroValue4
 t5:=Tryz.underlying5
 a5:=Tryz.isAgg5
 z5:=Tryz.sizeOf5
 v5:=Tryz.zeroValue5
 t9:=Tryz.underlying9
 a9:=Tryz.isAgg9
 z9:=Tryz.sizeOf9
 v9:=Tryz.zeroValue9
 t22:=Tryz.underlying216
 a22:=Tryz.isAgg216
 z22:=Tryz.sizeOf216
 v22:=Tryz.zeroValue216
 t25:=Tryz.underlying159
 a25:=Tryz.isAgg159
 z25:=Tryz.sizeOf159
 v25:=Tryz.zeroValue159
 t39:=Tryz.underlying185
 a39:=Tryz.isAgg185
 z39:=Tryz.sizeOf185
 v39:=Tryz.zeroValue185
 t45:=Tryz.underlying290
 a45:=Tryz.isAgg290
 z45:=Tryz.sizeOf290
 v45:=Tryz.zeroValue290
 t46:=Tryz.underlying291
 a46:=Tryz.isAgg291
 z46:=Tryz.sizeOf291
 v46:=Tryz.zeroValue291
 t50:=Tryz.underlying268
 a50:=Tryz.isAgg268
 z50:=Tryz.sizeOf268
 v50:=Tryz.zeroValue268
 t53:=Tryz.underlying297
 a53:=Tryz.isAgg297
 z53:=Tryz.sizeOf297
 v53:=Tryz.zeroValue297
 t55:=Tryz.underlying40
 a55:=Tryz.isAgg40
 z55:=Tryz.sizeOf40
 v55:=Tryz.zeroValue40
 t66:=Tryz.underlying326
 a66:=Tryz.isAgg326
 z66:=Tryz.sizeOf326
 v66:=Tryz.zeroValue326
 t70:=Tryz.underlying329
 a70:=Tryz.isAgg329
 z70:=Tryz.sizeOf329
 v70:=Tryz.zeroValue329
 t76:=Tryz.underlying345
 a76:=Tryz.isAgg345
 z76:=Tryz.sizeOf345
 v76:=Tryz.zeroValue345
 t77:=Tryz.underlying346
 a77:=Tryz.isAgg346
 z77:=Tryz.sizeOf346
 v77:=Tryz.zeroValue346}
def ZgN:Go.Shelf.Ren:=⟨fun|6=>204|15=>181|14=>284|28=>277|29=>278|20=>326|21=>327|22=>328|23=>329|24=>330|25=>331|26=>332|27=>333|46=>352|47=>322|48=>323|49=>353|50=>354|57=>368|n=>n,fun|22=>49|24=>100|25=>243|3=>3|39=>185|0=>0|53=>297|55=>40|4=>4|46=>291|45=>290|50=>268|5=>5|9=>9|66=>326|70=>329|76=>345|77=>346|n=>n,fun|n=>n⟩
theorem ZtR:Go.Proofs.SlLaysF0.n6 prog ZgN:= {
 mixed:=by kernel_rfl
 f6:=⟨Tryz.f204.name,by decide,Tryz.func204.trans (congrArg some Q7)⟩
 f14:=⟨Tryz.f284.name,by decide,Tryz.func284.trans (congrArg some Q7)⟩
 f15:=Tryz.func181.trans (congrArg some Q7)
 f20:=⟨Tryz.f326.name,by decide,Tryz.func326.trans (congrArg some Q7)⟩
 f21:=⟨Tryz.f327.name,by decide,Tryz.func327.trans (congrArg some Q7)⟩
 f22:=⟨Tryz.f328.name,by decide,Tryz.func328.trans (congrArg some Q7)⟩
 f23:=⟨Tryz.f329.name,by decide,Tryz.func329.trans (congrArg some Q7)⟩
 f24:=⟨Tryz.f330.name,by decide,Tryz.func330.trans (congrArg some Q7)⟩
 f25:=⟨Tryz.f331.name,by decide,Tryz.func331.trans (congrArg some Q7)⟩
 f26:=⟨Tryz.f332.name,by decide,Tryz.func332.trans (congrArg some Q7)⟩
 f27:=⟨Tryz.f333.name,by decide,Tryz.func333.trans (congrArg some Q7)⟩
 f28:=Tryz.func277.trans (congrArg some Q7)
 f29:=Tryz.func278.trans (congrArg some Q7)
 f46:=⟨Tryz.f352.name,by decide,Tryz.func352.trans (congrArg some Q7)⟩
 f47:=Tryz.func322.trans (congrArg some Q7)
 f48:=Tryz.func323.trans (congrArg some Q7)
 f49:=⟨Tryz.f353.name,by decide,Tryz.func353.trans (congrArg some Q7)⟩
 f50:=⟨Tryz.f354.name,by decide,Tryz.func354.trans (congrArg some Q7)⟩
 f57:=⟨Tryz.f368.name,by decide,Tryz.func368.trans (congrArg some Q7)⟩
 t0:=Tryz.underlying0
 a0:=Tryz.isAgg0
 z0:=Tryz.sizeOf0
 v0:=Tryz.zeroValue0
 t3:=Tryz.underlying3
 a3:=Tryz.isAgg3
 z3:=Tryz.sizeOf3
 v3:=Tryz.zeroValue3
 t4:=Tryz.underlying4
 a4:=Tryz.isAgg4
 z4:=Tryz.sizeOf4
 v4:=Tryz.zeroValue4
 t5:=Tryz.underlying5
 a5:=Tryz.isAgg5
 z5:=Tryz.sizeOf5
 v5:=Tryz.zeroValue5
 t9:=Tryz.underlying9
 a9:=Tryz.isAgg9
 z9:=Tryz.sizeOf9
 v9:=Tryz.zeroValue9
 t22:=Tryz.underlying49
 a22:=Tryz.isAgg49
 z22:=Tryz.sizeOf49
 v22:=Tryz.zeroValue49
 t25:=Tryz.underlying243
 a25:=Tryz.isAgg243
 z25:=Tryz.sizeOf243
 v25:=Tryz.zeroValue243
 t39:=Tryz.underlying185
 a39:=Tryz.isAgg185
 z39:=Tryz.sizeOf185
 v39:=Tryz.zeroValue185
 t45:=Tryz.underlying290
 a45:=Tryz.isAgg290
 z45:=Tryz.sizeOf290
 v45:=Tryz.zeroValue290
 t46:=Tryz.underlying291
 a46:=Tryz.isAgg291
 z46:=Tryz.sizeOf291
 v46:=Tryz.zeroValue291
 t50:=Tryz.underlying268
 a50:=Tryz.isAgg268
 z50:=Tryz.sizeOf268
 v50:=Tryz.zeroValue268
 t53:=Tryz.underlying297
 a53:=Tryz.isAgg297
 z53:=Tryz.sizeOf297
 v53:=Tryz.zeroValue297
 t55:=Tryz.underlying40
 a55:=Tryz.isAgg40
 z55:=Tryz.sizeOf40
 v55:=Tryz.zeroValue40
 t66:=Tryz.underlying326
 a66:=Tryz.isAgg326
 z66:=Tryz.sizeOf326
 v66:=Tryz.zeroValue326
 t70:=Tryz.underlying329
 a70:=Tryz.isAgg329
 z70:=Tryz.sizeOf329
 v70:=Tryz.zeroValue329
 t76:=Tryz.underlying345
 a76:=Tryz.isAgg345
 z76:=Tryz.sizeOf345
 v76:=Tryz.zeroValue345
 t77:=Tryz.underlying346
 a77:=Tryz.isAgg346
 z77:=Tryz.sizeOf346
 v77:=Tryz.zeroValue346}
end
section
open Go.RowKit Go.Sort
attribute [local irreducible] OpTo wpListIn Code.wpIn MW Cal
theorem Ztz(l:List AdvV)(hlen:l.length<=100000)(v:Value)(W:World)(hS:SlAt W 37 v l.length (avsC l)):
  Cal prog 152 [v].toArray W λr w'=>∃ent,OwnS 100 37 r l.length (avsC l) ent/\(∀b o s c,r= .slice (some ⟨b,o,s⟩) l.length c->l.length=0->c=0)/\Mem [] W w' ent:=by
 obtain⟨q,cap,hq,_⟩:=id hS
 cases q with
 |none=>
  have hn:l.length=0:=by
   exact vBX
  have hxs:l=[]:=List.length_eq_zero_iff.1 hn
  subst hxs
  rw[hq]
  refine Zar (n:=8) [] Tryz.func152 rfl rfl rfl ?_
  exact vBD
 |some a0=>
  rw[hq] at hS⊢
  refine Zar (n:=8) [] Tryz.func152 rfl rfl rfl ?_
  intro a w F M hwW
  refine W1 9 ?_;intro a F
  (refine sD F (Zda (F.e rfl) (F.e rfl) ?_);clear F a;intro a F)
  refine W1 7 ?_;intro a F
  (refine sD F (ZaC F M rfl rfl rfl rfl ?_);clear F M;intro b5 w M a F)
  refine W1 1 ?_;intro a F
  have hSw:=hS.later M.ext
  by_cases hn:l.length=0
  ·exact vB6
  ·have hO5:OwnS 100 37 (.slice (some ⟨b5,0,none⟩) 0 0) 0 [] [(b5, .cells ([]:List Value).toArray 100 (0,0))]:= .inr ⟨b5,0,[],rfl,rfl,by simp,by simp,by simp⟩
   (refine sD F (Zck hO5 M .here (F.e rfl) (F.e rfl) (hSw.src Zkw) Q0 Q0 ?_);clear F M;intro u ent w hO M a F)
   exact vCy
theorem Zze(x:AdvV)(hx:IsAv x)(W:World):Cal prog 255 [.agg (avC x).toArray].toArray W λr w'=>r= .bool (decide (x.own.met=inf))/\Ext [] W w':=by
 have e1:=ZdY hx
 have e2:(x.own.met==65535)=decide (x.own.met=inf):=by unfold inf;by_cases h:x.own.met=65535<;>simp[h]
 refine Zar (n:=7) [] Tryz.func255 rfl rfl rfl ?_
 intro a w F M hwW
 refine W1 2 ?_;intro a F
 refine Qs F M ?_;clear F M;intro b1 w M a F
 refine W1 13 ?_;intro a F
 refine Qq F ?_
 exact⟨by rw[<-e2];(try rfl),M.ext⟩
theorem Zs4(l:List AdvV)(hx:∀x∈l,IsAv x)(hlen:l.length<=100000)(v:Value)(W:World)(hS:SlAt W 37 v l.length (avsC l)):
  Cal prog 309 [v, .func (.func 255) #[] #[]].toArray W λr w'=>∃k:Int,r= .int .i64 k/\decide (0<=k)=(l.any λa=>decide (a.own.met=inf))/\Ext [] W w':=by
 obtain⟨q,cap,rfl,hcap,hsp,hl,hm⟩:=hS
 refine Zar (n:=19) [] Tryz.func309 rfl rfl rfl ?_
 intro a w F M hwW
 refine W1 14 ?_;intro a F
 refine ZbK (λm a w=>∃i:Nat,m=l.length-i/\i<=l.length/\(∀j(hj:j<l.length),j<i->decide (l[j].own.met=inf)=false)/\Frm a 19 [] [(8, .int .i64 i),(7, .int .i64 l.length),(0, .slice q l.length cap),(1, .func (.func 255) #[] #[])]/\Mem [] W w []) l.length ⟨0,rfl,Q0,Q0,F.only [8,7,0,1] rfl,M⟩ ?_
 clear F M
 rintro m a w ⟨i,hm',hi,hv,F,M⟩
 by_cases hlt:i<l.length
 ·obtain⟨b,o,cs,t,fz,rfl,hb,hs⟩:=hm Q0
  have hxv:=hx _ (List.getElem_mem hlt)
  have hmem:=List.getElem_mem hlt
  have f1:seg cs (o+(i:Int).toNat*37) 37=some (avC l[i]):=Zal (ZbV hx) hs hlt Q0
  have hne:decide (l[i].own.met=inf)=false->∀j(hj:j<l.length),j<i+1->decide (l[j].own.met=inf)=false:=λh j hj hj2=>by
   exact vBT
  obtain⟨x,hx0⟩:∃x,x=l[i]:=⟨_,rfl⟩
  rw[<-hx0] at hxv f1 hne hmem
  refine W5 25 @Zze ?_;intro a w F M
  cases hc:decide (x.own.met=inf)
  ·rw[hc] at F
   refine W1 11 ?_;intro a F
   exact⟨_,Q0,i+1,rfl,Q0,hne hc,F.only [8,7,0,1] rfl,M⟩
  ·rw[hc] at F
   refine W1 15 ?_;intro a F
   refine Qq F ?_
   exact⟨i,rfl,by rw[dqT Q0];exact(List.any_eq_true.2 ⟨x,hmem,hc⟩).symm,M.ext⟩
 ·obtain rfl:i=l.length:=by omega
  refine W1 18 ?_;intro a F
  refine Qq F ?_
  exact⟨-1,rfl,by
   rw[dqF Q0]
   refine(List.any_eq_false.2 ?_).symm
   intro x hx
   obtain⟨j,hj,rfl⟩:=List.mem_iff_getElem.1 hx
   simpa using hv j hj hj,M.ext⟩
theorem ZmB(l:List AdvV)(hx:∀x∈l,IsAv x)(hlen:l.length<=100000)(v:Value)(W:World)(hS:SlAt W 37 v l.length (avsC l)):
  Cal prog 254 [v, .func (.func 255) #[] #[]].toArray W λr w'=>r= .bool (l.any λa=>decide (a.own.met=inf))/\Ext [] W w':=by
 refine Zar (n:=9) [] Tryz.func254 rfl rfl rfl ?_
 intro a w F M hwW
 refine W1 9 ?_;intro a F
 (refine sD F (Zav (F.e rfl) (F.evs rfl) (Cal.mono (Zs4 l hx hlen v _ (hS.later M.ext)) ?_));clear F;clear a;rintro _ w ⟨k,rfl,hk,hE⟩ a F;replace M:=M.later hE;clear hE)
 refine W1 5 ?_;intro a F
 refine Qq F ?_
 exact⟨by rw[<-hk];(try rfl),M.ext⟩
theorem Zzf(x y:AdvV)(hx:IsAv x)(hy:IsAv y)(W:World):Cal prog 253 [.agg (avC x).toArray, .agg (avC y).toArray].toArray W λr w'=>r= .int .i64 (cmpD x.to y.to)/\Ext [] W w':=by
 have e1:=Zft hx
 have e2:=Zft hy
 refine Zar (n:=10) [] Tryz.func253 rfl rfl rfl ?_
 intro a w F M hwW
 refine W1 2 ?_;intro a F
 refine Qs F M ?_;clear F M;intro b2 w M a F
 refine Qs F M ?_;clear F M;intro b3 w M a F
 refine W5 14 @Zb0 ?_;intro a w F M
 exact Qq F (⟨rfl,M.ext⟩)
abbrev ADst:= {d:DstV//IsDv d}
def z16:List Int:=[0,0,0,0,0,0,0,0,0,0,0,0,0,0,0,0]
theorem ZtI:IsIP z16:=⟨rfl,by intro x hx;simp[z16] at hx;omega⟩
instance :Inhabited ADst:=⟨⟨⟨z16,0,z16,0,0⟩,ZtI,ZtI⟩⟩
def cfD(x y:ADst):Int:=cmpD x.1 y.1
theorem ltD(x y:ADst):ltOf cfD x y=true↔cmpD x.1 y.1<0:=decide_eq_true_iff
theorem ZqH(x y:ADst):ltOf cfD x y=false↔¬cmpD x.1 y.1<0:=decide_eq_false_iff_not
theorem swoD:SWO (ltOf cfD) where
 irrefl x:=by rw[ZqH,Za0];omega
 trans x y z h1 h2:=by rw[ltD] at*;exact Za6 h1 h2
 ntrans x y z h1 h2:=by
  rw[ZqH] at*
  intro h
  have h3:=ZbJ x.1 y.1
  rcases Int.lt_trichotomy (cmpD y.1 x.1) 0 with h4|h4|h4
  ·exact h2 (Za6 h4 h)
  ·rw[Zcg y.2 x.2 h4] at h2
   exact h2 h
  ·omega
theorem totD(x y:ADst)(h1:ltOf cfD x y=false)(h2:ltOf cfD y x=false):x=y:=by
 rw[ZqH] at*
 have h3:=ZbJ x.1 y.1
 exact Subtype.ext (Zcg x.2 y.2 Q0)
theorem Zmq:∀{l:List AdvV},(l.map (·.to)).Nodup->∀{a:AdvV},a∈l->getO l a.to=some a.own
 |[],_,_,h=>by cases h
 |x::l,hn,a,h=>by
  rw[ZdA]
  simp only[List.map_cons,List.nodup_cons,List.mem_map,not_exists,not_and] at hn
  rcases List.mem_cons.1 h with rfl|h
  ·simp
  ·rw[if_neg λe=>hn.1 a h e.symm]
   exact Zmq hn.2 h
theorem vA7(h:p:=by
  refine Cal.mono h ?_
  rintro _ w' ⟨ent',hO',M'⟩
  have hp:=List.mergeSort_perm az λx y=> !(ltOf cfD) y x
  have hs:(az.mergeSort λx y=> !(ltOf cfD) y x).Pairwise λx y=>(!(ltOf cfD) y x)=true:=by
   refine List.pairwise_mergeSort ?_ ?_ _
   ·intro a b c h1 h2
    simp only[Bool.not_eq_true'] at h1 h2⊢
    exact swoD.ntrans c b a h2 h1
   ·intro a b
    cases h:ltOf cfD b a with
    |false=>simp
    |true=>simp[swoD.asymmA h]
  generalize az.mergeSort (λx y=> !(ltOf cfD) y x)=ds at*
  have hnd2:(ds.map λd=>d.1).Nodup:=by
   have e1:(ls.map (·.to))=az.map λd=>d.1:=by rw[<-haz,List.map_map];rfl
   rw[e1] at hnd
   exact(hp.map _).nodup_iff.2 hnd
  have hdm:ds.map dec=m:=by
   refine Ze3 AdvV.to _ _ ?_ hm λx=>?_
   ·unfold AscK
    rw[List.pairwise_map]
    have h2:ds.Pairwise λa b=>a.1≠b.1:=by
     have:=hnd2
     rw[List.Nodup,List.pairwise_map] at this
     exact this
    refine(List.Pairwise.and hs h2).imp ?_
    rintro a b ⟨h3,h4⟩
    simp only[Bool.not_eq_true'] at h3
    rw[ZqH] at h3
    show cmpD a.1 b.1<0
    have h5:=ZbJ a.1 b.1
    have h6:cmpD a.1 b.1≠0:=λh=>h4 (Zcg a.2 b.2 h)
    omega
   ·rw[hmem,<-haz]
    exact(hp.map dec).mem_iff
  rw[henc,hdm,hlz] at hO'
  exact⟨ent',hO',M'⟩):p:=h
theorem vAE(h:p:=by
  rw[List.map_pmap]
  have:∀(l:List AdvV)(h:∀a∈l,IsDv a.to)(h2:∀a∈l,f0 a.to=a.own),l.pmap (λa h=>dec ⟨a.to,h⟩) h=l:=by
   intro l
   induction l with
   |nil=>intro _ _;rfl
   |cons a l ih=>
    intro h h2
    rw[List.pmap_cons,ih _ λb hb=>h2 b (List.mem_cons_of_mem _ hb)]
    congr 1
    show(⟨a.to,f0 a.to⟩:AdvV)=a
    rw[h2 a List.mem_cons_self]
  exact this ls _ hf0):p:=h
theorem vCa(h:p:=by
  intro bz
  induction bz with
  |nil=>rfl
  |cons x xs ih=>rw[Zcf,ih];rfl):p:=h
theorem Zu2(ls m:List AdvV)(hx:∀x∈ls,IsAv x)(hnd:(ls.map (·.to)).Nodup)(hm:AscA m)(hmem:∀x,x∈m↔x∈ls)(hlen:ls.length<=100000)
  {S:List Nat} {W0 w:World} {l:EN} {f:EN->EN}  {ent:EN} (M:Mem S W0 w l) (hO:OwnS 100 37 v ls.length (avsC ls) ent) (hl:ZcQ ent l f):
  Cal prog 204 [v, .func (.func 253) #[] #[]].toArray w λ_ w'=>∃ent',OwnS 100 37 v ls.length (avsC m) ent'/\Mem S W0 w' (f ent'):=by
 obtain⟨f0,hf0⟩:∃f0:DstV->DisV,∀a∈ls,f0 a.to=a.own:=⟨λd=>(getO ls d).getD di0,λa ha=>by simp[Zmq hnd ha]⟩
 let dec:ADst->AdvV:=λd=>⟨d.1,f0 d.1⟩
 let enc:ADst->List Value:=λd=>avC (dec d)
 have hdec:∀d,IsAv (dec d):=λd=>⟨d.2,trivial⟩
 obtain⟨az,haz⟩:∃az:List ADst,az.map dec=ls:=⟨ls.pmap (λa h=>(⟨a.to,h⟩:ADst)) (λa ha=>(hx a ha).1),by
  exact vAE⟩
 have henc:∀bz:List ADst,encL enc bz=avsC (bz.map dec):=by
  exact vCa
 have hlz:az.length=ls.length:=by rw[<-haz,List.length_map]
 rw[<-hlz] at hO
 rw[<-haz,<-henc] at hO
 have h:=ZjH (P:=prog) (ρ:=ZgN) (enc:=enc) (k:=37) (e:=100) ZtR (λx=>Zcy (hdec x)) Q0 (λx=>Zco _) Q7 cfD swoD totD (g:=253) (Zad.h (P:=prog)) (λW x y=>Zzf (dec x) (dec y) (hdec x) (hdec y) W) az M hO hl Q0
 exact vA7
end
end Go.Proofs.YtfhkmgcalcfibaaGreat

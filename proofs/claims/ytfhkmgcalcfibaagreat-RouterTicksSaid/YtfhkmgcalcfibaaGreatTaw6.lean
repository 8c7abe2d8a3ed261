/-
  Texts joined.
-/
import Derived.Test.YtfhkmgcalcfibaaGreatTaw5
set_option linter.unusedVariables false
set_option linter.unusedSimpArgs false
set_option maxHeartbeats 64000000
namespace Go.Proofs.YtfhkmgcalcfibaaGreat
open Go.RowKit
open Go.Proofs.Tryz (prog)
variable {R:Value->World->Prop}{S:List Nat}{T l:List AdvV}{W w:World}{b bt i k n off sz:Nat}{bg full:Bool}{cs vs xs:List Value}{ent:EN}{fn:FuncId}{fz:Nat × Nat}{ol:List Oper}{p:Prop}{rst:Row}{s:RtV}{t t':TypeId}{ts:Array TypeId}{v:Value}{x:AdvV}{y:Operand}{ys:List Operand}
section
attribute [local irreducible] OpTo wpListIn Code.wpIn MW Cal
def ZiU(l:List SrcV)(now:Int)(t:DstV)(d:DisV):Bool:=ZaK l&&Za8 t&&Zag now&&Zg4 l now t d
theorem vBu(h:p:=by
  refine Qq F ?_;(try dsimp only[Zce])
  exact⟨by unfold ZiU;simp[*],M.ext⟩):p:=h
theorem ZpW(l:List SrcV)(hx:∀x∈l,IsSr x)(v:Value)(now:Int)(t:DstV)(ht:IsDv t)(d:DisV)(W:World)(hS:SlAt W 38 v l.length (srsC l)):
  Cal prog 23 [v, .int .i64 now, .agg (dvC t).toArray, .agg (diC d).toArray].toArray W λr w'=>r= .bool (ZiU l now t d)/\Ext [] W w':=by
 obtain⟨z,hz⟩:∃z,z=(Zcd l now t).getD di0:=⟨_,rfl⟩
 obtain⟨k,hk⟩:∃k,k=(Zcd l now t).isSome:=⟨_,rfl⟩
 have hf:ZaK l=true->Zag now=true->Zg4 l now t d=(finD d&&(!k||(ZaA z.met&&decide (Zko d z= -1)))):=λh1 h2=>by
  have hV:Zcd l now t=Zds l now t:=by unfold Zcd;rw[h1,h2];rfl
  rw[hz,hk,hV]
  unfold Zg4
  cases hb:Zds l now t with
  |none=>simp
  |some b=>simp[Zjy h1 hb,Ztw,Zry]
 refine Zar (n:=35) [] Tryz.func23 rfl rfl rfl ?_
 intro a w F M hwW
 refine Zea (ZdV ?_)
 refine sD F (ZjX M (F.e rfl) rfl ?_);clear F M;intro b6 w M a F
 refine sD F (ZjX M (F.e rfl) rfl ?_);clear F M;intro b7 w M a F
 refine W1 7 ?_;intro a F
 refine sD F (Zav (F.e rfl) (F.evs rfl) (Cal.mono (ZaO _ (by first|assumption|omega|exact And.left Qd|exact(by assumption:SlAt _ _ _ _ _).later M.ext|exact Zbz.later Qd M.ext|exact M.heap Q1|decide) _ _ (by first|assumption|omega|exact And.left Qd|exact(by assumption:SlAt _ _ _ _ _).later M.ext|exact Zbz.later Qd M.ext|exact M.heap Q1|decide)) ?_));clear F;clear a;rintro _ w ⟨rfl,hE⟩ a F;replace M:=M.later hE;clear hE
 refine W1 2 ?_;intro a F
 refine Zd8 F 14 rfl (λh1=>?_) (λh1=>?_)
 ·rw[h1] at F;replace h1:=Zaa h1;(try rw[h1] at F)
  refine W1 19 ?_;intro a F
  exact vBu
 ·rw[h1] at F;replace h1:=Zab h1;(try rw[h1] at F)
  refine sG F (Zbs M (F.e rfl) Q1 (Zcx Q8) ?_);clear F a;intro a F
  refine sG F (Zav (F.e rfl) (F.evs rfl) (Cal.mono (ZaM _ (by first|assumption|omega|exact And.left Qd|exact(by assumption:SlAt _ _ _ _ _).later M.ext|exact Zbz.later Qd M.ext|exact M.heap Q1|decide) _) ?_));clear F;clear a;rintro _ w ⟨rfl,hE⟩ a F;replace M:=M.later hE;clear hE
  refine W1 3 ?_;intro a F
  refine Zd8 F 19 rfl (λh2=>?_) (λh2=>?_)
  ·rw[h2] at F;replace h2:=Zaa h2;(try rw[h2] at F)
   refine W1 14 ?_;intro a F
   exact vBu
  ·rw[h2] at F;replace h2:=Zab h2;(try rw[h2] at F)
   refine W5 6 @Zas ?_;intro a w F M
   refine c_if F rfl (λh3=>?_) (λh3=>?_)
   ·rw[h3] at F;replace h3:=Zaa h3;(try rw[h3] at F)
    refine W1 7 ?_;intro a F
    exact vBu
   ·rw[h3] at F;replace h3:=Zab h3;(try rw[h3] at F)
    refine W1 6 ?_;intro a F
    refine sD F (Zbs M (F.e rfl) Q1 (Zcx Q8) ?_);clear F a;intro a F
    refine sD F (Zav (F.e rfl) (F.evs rfl) (Cal.mono (Zl0 _ (by first|assumption|omega|exact And.left Qd|exact(by assumption:SlAt _ _ _ _ _).later M.ext|exact Zbz.later Qd M.ext|exact M.heap Q1|decide) _ _ _ (by first|assumption|omega|exact And.left Qd|exact(by assumption:SlAt _ _ _ _ _).later M.ext|exact Zbz.later Qd M.ext|exact M.heap Q1|decide) _ (by first|assumption|omega|exact And.left Qd|exact(by assumption:SlAt _ _ _ _ _).later M.ext|exact Zbz.later Qd M.ext|exact M.heap Q1|decide)) ?_));clear F;clear a;rintro _ w ⟨rfl,hE⟩ a F;replace M:=M.later hE;clear hE
    refine W1 3 ?_;intro a F
    refine sD F (Zay M ?_);clear F M;intro b9 w M a F
    refine ZaW rfl F (Zap M (F.e rfl) (F.e rfl) (ZbE Q8) (Ze8 _) Q1 (Zat (by rw[(ZbE Q8)];first|rfl|rw[(ZbE Q8)])) Q1 ?_);clear F M;intro w M a F
    refine W1 5 ?_;intro a F
    refine sD F (Zbs M (F.e rfl) Q1 (ZbR Q8) ?_);clear F a;intro a F
    refine sD F (Zbs M (F.e rfl) Q1 (ZbR Q8) ?_);clear F a;intro a F
    refine W5 6 @ZpH ?_;intro a w F M
    exact vBu
def lowQ(x y:DisV):DisV:=if Zko x y= -1 then x else y
def newS(l:List SrcV)(now:Int)(t:DstV)(d:DisV):SrcV:=⟨t,(match Zds l now t with|none=>d|some b=>lowQ d b),Zaz now 20⟩
def putS(l:List SrcV)(x:SrcV):List SrcV:=l.filter (λy=>decide (cmpD y.to x.to<0))++([x]++l.filter (λy=>decide (0<cmpD y.to x.to)))
def ZaQ(l:List SrcV)(now:Int)(t:DstV)(d:DisV):List SrcV×Int:=
 if !ZaK l|| !Za8 t|| !ZaA d.met||decide (d.met=65535) then([],1) else if !Zag now then([],2)
 else if 256<(putS l (newS l now t d)).length then([],10) else(putS l (newS l now t d),0)
theorem ZiZ{l:List SrcV}{x:SrcV}(h:AscC cmpS l):Zbv (λy=>cmpD y.to x.to) x false l=putS l x:=by
 rw[Zid]
 ·rfl
 ·exact h.imp λ{a b}h k=>ZmD h k
theorem vAf(h:p:=by
  refine c_if F rfl (λh3=>?_) (λh3=>?_)
  ·rw[h3] at F;replace h3:=Zbx h3
   refine W1 2 ?_;intro a F
   refine sD F (Zbs M (F.e rfl) Q1 (ZiR Q8) ?_);clear F a;intro a F
   refine sD F (ZaC F M rfl rfl rfl (ZcJ Q8) ?_);clear F M;intro bs79 w M a F
   refine sD F (Zd5 (enc:=srC) Qd M (by repeat (first|exact .here|apply ZcQ.cons)) (F.e rfl) (F.e rfl) (Zcc.cells' (M.heap .here) (ZbH (Zcj Q8)) (ZcX _)) (by first|omega|(simp;omega)) ?_);clear F M;intro v80 es80 w hO80 M a F;(try dsimp only at M)
   refine W1 9 ?_;intro a F
   exact⟨_,Q0,i+1,_,_,_,_,rfl,Q0,by assumption,by rw[<-hout];clear hout hR hL c1 c2;simp[*],F.only [57,56,55,6,13,14,12] rfl,M.sub Qc⟩
  ·rw[h3] at F;replace h3:=ZaJ h3
   refine W1 8 ?_;intro a F
   exact⟨_,Q0,i+1,_,_,_,_,rfl,Q0,by assumption,by rw[<-hout];clear hout hR hL c1 c2;simp[*],F.only [57,56,55,6,13,14,12] rfl,M.sub Qc⟩):p:=h
theorem vAP(h:p:=by
  refine c_if F rfl (λh1=>?_) (λh1=>?_)
  ·rw[h1] at F;replace h1:=dqU h1
   refine W1 8 ?_;intro a F
   refine Qr F ?_;(try dsimp only[Zce])
   exact c1 10 _ (by rw[hL,if_pos Q0]) rfl _ M.ext
  ·rw[h1] at F;replace h1:=dqV h1
   refine W1 10 ?_;intro a F
   refine Qr F ?_;(try dsimp only[Zce])
   exact c2 _ _ _ Q0 Qd (M.sub Qc)):p:=h
theorem vAY(h:p:=by
  refine Qr F ?_;(try dsimp only[Zce])
  exact c1 _ _ (by unfold ZaQ;simp[*]) rfl _ M.ext):p:=h
theorem ZpK(l:List SrcV)(hx:∀x∈l,IsSr x)(v:Value)(now:Int)(t:DstV)(ht:IsDv t)(d:DisV)(W:World)(hS:SlAt W 38 v l.length (srsC l)):
  Cal prog 142 [v, .int .i64 now, .agg (dvC t).toArray, .agg (diC d).toArray].toArray W λr w'=>∃u ent,r= .tuple [u, .int .i64 (ZaQ l now t d).2].toArray/\OwnS 166 38 u (ZaQ l now t d).1.length (srsC (ZaQ l now t d).1) ent/\Mem [] W w' ent:=by
 obtain⟨q,cap,rfl,hcap,hsp,hll,hm⟩:=id hS
 have c1:∀n u,ZaQ l now t d=([],n)->u= .slice none 0 0->∀w,Ext [] W w->∃u' ent,Value.tuple [u, .int .i64 n].toArray= .tuple [u', .int .i64 (ZaQ l now t d).2].toArray/\OwnS 166 38 u' (ZaQ l now t d).1.length (srsC (ZaQ l now t d).1) ent/\Mem [] W w ent:=by
  rintro n _ h rfl w E
  rw[h]
  exact⟨_,[],rfl,OwnS.nil _ _,Mem.nil E⟩
 obtain⟨z,hz⟩:∃z,z=(Zcd l now t).getD di0:=⟨_,rfl⟩
 obtain⟨k,hk⟩:∃k,k=(Zcd l now t).isSome:=⟨_,rfl⟩
 refine Zar (n:=92) [] Tryz.func142 rfl rfl rfl ?_
 intro a w F M hwW
 refine Zea (ZdV ?_)
 refine sD F (ZjX M (F.e rfl) rfl ?_);clear F M;intro b6 w M a F
 refine sD F (ZjX M (F.e rfl) rfl ?_);clear F M;intro b7 w M a F
 refine W1 8 ?_;intro a F
 refine sD F (Zav (F.e rfl) (F.evs rfl) (Cal.mono (ZaO _ (by first|assumption|omega|exact And.left Qd|exact(by assumption:SlAt _ _ _ _ _).later M.ext|exact Zbz.later Qd M.ext|exact M.heap Q1|decide) _ _ (by first|assumption|omega|exact And.left Qd|exact(by assumption:SlAt _ _ _ _ _).later M.ext|exact Zbz.later Qd M.ext|exact M.heap Q1|decide)) ?_));clear F;clear a;rintro _ w ⟨rfl,hE⟩ a F;replace M:=M.later hE;clear hE
 refine W1 2 ?_;intro a F
 refine Zd8 F 21 rfl (λh1=>?_) (λh1=>?_)
 ·rw[h1] at F;replace h1:=Zaa h1;(try rw[h1] at F)
  refine W1 25 ?_;intro a F
  exact vAY
 rw[h1] at F;replace h1:=Zab h1;(try rw[h1] at F)
 refine sG F (Zbs M (F.e rfl) Q1 (Zcx Q8) ?_);clear F a;intro a F
 refine sG F (Zav (F.e rfl) (F.evs rfl) (Cal.mono (ZaM _ (by first|assumption|omega|exact And.left Qd|exact(by assumption:SlAt _ _ _ _ _).later M.ext|exact Zbz.later Qd M.ext|exact M.heap Q1|decide) _) ?_));clear F;clear a;rintro _ w ⟨rfl,hE⟩ a F;replace M:=M.later hE;clear hE
 refine W1 3 ?_;intro a F
 refine Zd8 F 26 rfl (λh2=>?_) (λh2=>?_)
 ·rw[h2] at F;replace h2:=Zaa h2;(try rw[h2] at F)
  refine W1 20 ?_;intro a F
  exact vAY
 rw[h2] at F;replace h2:=Zab h2;(try rw[h2] at F)
 refine sG F (Zbs M (F.e rfl) Q1 (ZbR Q8) ?_);clear F a;intro a F
 refine W5 4 @ZbI ?_;intro a w F M
 refine Zd8 F 31 rfl (λh3=>?_) (λh3=>?_)
 ·rw[h3] at F;replace h3:=Zaa h3;(try rw[h3] at F)
  refine W1 15 ?_;intro a F
  exact vAY
 rw[h3] at F;replace h3:=Zab h3;(try rw[h3] at F)
 refine W1 1 ?_;intro a F
 refine sG F (ZgY M (F.e rfl) Q1 (ZgE Q8) ?_);clear F a;intro a F
 refine W1 4 ?_;intro a F
 refine c_if F rfl (λh4=>?_) (λh4=>?_)
 ·rw[h4] at F;replace h4:=dqU h4
  refine W1 8 ?_;intro a F
  exact vAY
 rw[h4] at F;replace h4:=dqV h4
 refine W5 10 @Zas ?_;intro a w F M
 refine c_if F rfl (λh5=>?_) (λh5=>?_)
 ·rw[h5] at F;replace h5:=Zaa h5;(try rw[h5] at F)
  refine W1 8 ?_;intro a F
  exact vAY
 rw[h5] at F;replace h5:=Zab h5;(try rw[h5] at F)
 refine W1 6 ?_;intro a F
 refine sD F (Zbs M (F.e rfl) Q1 (Zcx Q8) ?_);clear F a;intro a F
 refine sD F (Zav (F.e rfl) (F.evs rfl) (Cal.mono (Zl0 _ (by first|assumption|omega|exact And.left Qd|exact(by assumption:SlAt _ _ _ _ _).later M.ext|exact Zbz.later Qd M.ext|exact M.heap Q1|decide) _ _ _ (by first|assumption|omega|exact And.left Qd|exact(by assumption:SlAt _ _ _ _ _).later M.ext|exact Zbz.later Qd M.ext|exact M.heap Q1|decide) _ (by first|assumption|omega|exact And.left Qd|exact(by assumption:SlAt _ _ _ _ _).later M.ext|exact Zbz.later Qd M.ext|exact M.heap Q1|decide)) ?_));clear F;clear a;rintro _ w ⟨rfl,hE⟩ a F;replace M:=M.later hE;clear hE
 refine W1 3 ?_;intro a F
 refine sD F (Zay M ?_);clear F M;intro b10 w M a F
 refine ZaW rfl F (Zap M (F.e rfl) (F.e rfl) (ZbE Q8) (Ze8 _) Q1 (Zat (by rw[(ZbE Q8)];first|rfl|rw[(ZbE Q8)])) Q1 ?_);clear F M;intro w M a F
 refine W1 4 ?_;intro a F
 refine ZgG (λa w=>∃e:DisV,Mem [] W w [(b7, .cells (diC e).toArray 72 (0,0)),(b6, .cells (dvC t).toArray 67 (0,0))]/\Frm a 92 [] [(0, .slice q l.length cap),(1, .int .i64 now),(6, .pointer (some ⟨b6,0,none⟩)),(7, .pointer (some ⟨b7,0,none⟩))]/\e=(if k then lowQ d z else d)) ?_ ?_
 ·rw[<-hz,<-hk] at F
  rw[<-hz] at M
  clear hz hk
  refine W1 5 ?_;intro a F
  refine c_if F rfl (λh1=>?_) (λh1=>?_)
  ·rw[h1] at F
   refine ZdV ?_
   refine sD F (Zbs M (F.e rfl) Q1 (ZbR Q8) ?_);clear F a;intro a F
   refine sD F (Zbs M (F.e rfl) Q1 (ZbR Q8) ?_);clear F a;intro a F
   refine W5 1 @Znc ?_;intro a w F M
   refine ZaW rfl F (Zap M (F.e rfl) (F.e rfl) (ZbE Q8) (Ze8 _) Q1 (Zat (by rw[(ZbE Q8)];first|rfl|rw[(ZbE Q8)])) Q1 ?_);clear F M;intro w M a F
   with_reducible refine ZdS ?_
   exact⟨_,M.sub Qc,F.only [0,1,6,7] rfl,by simp[*,lowQ]⟩
  ·rw[h1] at F
   with_reducible refine ZrD ?_
   exact⟨_,M.sub Qc,F.only [0,1,6,7] rfl,by simp[*,lowQ]⟩
 clear F M a w
 rintro a w ⟨e,M,F,he⟩
 obtain⟨hl256,_,hasc⟩:=Zbc.1 h1
 have hnw:=h5
 simp only[Zag,Bool.and_eq_true,decide_eq_true_eq] at hnw
 have hV:Zcd l now t=Zds l now t:=by unfold Zcd;rw[h1,h5];rfl
 have hen:e=(newS l now t d).bst:=by
  rw[he,hz,hk,hV]
  unfold newS
  cases Zds l now t<;>rfl
 obtain⟨x,hx0⟩:∃x,x=newS l now t d:=⟨_,rfl⟩
 have hxt:x.to=t:=by rw[hx0];rfl
 have hL:ZaQ l now t d=if 256<(putS l x).length then([],10) else(putS l x,0):=by
  unfold ZaQ
  rw[h1,h2,h3,dqF h4,h5,<-hx0]
  rfl
 have hxx:IsSr x:=by rw[hx0];exact⟨ht,trivial⟩
 have hb:ZaD [(0,35),(35,2),(37,1)] srZ [(0,dvC t),(1,diC e),(2,[.int .i64 (Zaz now 20)])]=some (srC x):=by
  rw[hx0,hen]
  exact ZmX (o:=newS l now t d) ⟨ht,trivial⟩
 clear hx0 hen he hV hz hk
 with_reducible refine Zc6 (Zea ?_)
 refine Za4 6 F Q7 ?_;intro w1 hE hok;have M1:=M.later hE
 refine mK hok rfl rfl (λa' w' F' E'=>Zbs (M1.later E') (F'.e rfl) Q1 (Zcx Q8) ⟨Ext.refl _ _,rfl⟩) ?_
 refine mK hok rfl rfl (λa' w' F' E'=>Zbs (M1.later E') (F'.e rfl) Q1 (ZbR Q8) ⟨Ext.refl _ _,rfl⟩) ?_
 refine W2 1 hok ?_
 refine mK hok rfl rfl (λa' w' F' E'=>Zav (F'.e rfl) (F'.evs rfl) (Cal.mono (ZcS _ _ (by first|assumption|omega|exact And.left Qd|exact(by assumption:SlAt _ _ _ _ _).later (M1.later E').ext|exact Zbz.later Qd (M1.later E').ext|exact M.heap Q1|decide) (by first|assumption|omega|exact And.left Qd|exact(by assumption:SlAt _ _ _ _ _).later (M1.later E').ext|exact Zbz.later Qd (M1.later E').ext|exact M.heap Q1|decide) (by first|assumption|omega|exact And.left Qd|exact(by assumption:SlAt _ _ _ _ _).later (M1.later E').ext|exact Zbz.later Qd (M1.later E').ext|exact M.heap Q1|decide) (by first|assumption|omega|exact And.left Qd|exact(by assumption:SlAt _ _ _ _ _).later (M1.later E').ext|exact Zbz.later Qd (M1.later E').ext|exact M.heap Q1|decide) _) λ_ _ hh=>⟨hh.2,hh.1⟩)) ?_
 refine W2 1 hok ?_
 refine mAl hok rfl rfl (Al.stays _ _) (λw=>Ext.alloc w _) (λa' w' F' E'=>Zh0) ?_
 refine ZiG rfl rfl ?_;clear F M;intro a w F hE2 hX hTT hDD hPP;have M:=M1.later hE2;(try dsimp only at F);obtain⟨b12,e_b12,g_b12,q_b12⟩:=hX 5 _ rfl;replace F:=F.know (d:=12) e_b12;replace M:=Mem.al (pre:=[]) M M1 q_b12 g_b12 (by intro p hp;cases hp);clear M1;clear hX;clear hE2;clear hok;clear hE;clear hTT;clear hDD;clear hPP;clear e_b12;clear g_b12;clear q_b12;(try dsimp only[Zcz] at F);(try simp only[List.cons_append,List.nil_append] at M)
 refine ZaW rfl F (Zap M (F.e rfl) (F.e rfl) (Zcj Q8) (ZcX _) Q1 (Zat (by rw[(Zcj Q8)];first|rfl|rw[(Zcj Q8)])) Q1 ?_);clear F M;intro w M a F
 refine W1 21 ?_;intro a F
 have hpl:=Zg0 (λy=>cmpD y.to t) x (done:=false) (l:=l)
 have hpl2:(Zbv (λy=>cmpD y.to t) x false l).length<=257:=by simp at hpl;omega
 rw[show putS l x=Zbv (λy=>cmpD y.to t) x false l by rw[<-hxt];exact(ZiZ hasc).symm] at hL
 clear hpl hb
 generalize hR:Zbv (λy=>cmpD y.to t) x false l=R at*
 have c2:∀u ent w,R.length<=256->OwnS 166 38 u R.length (srsC R) ent->Mem [] W w ent->∃u' ent,Value.tuple [u, .int .i64 0].toArray= .tuple [u', .int .i64 (ZaQ l now t d).2].toArray/\OwnS 166 38 u' (ZaQ l now t d).1.length (srsC (ZaQ l now t d).1) ent/\Mem [] W w ent:=by
  intro u ent w h h2 h3
  rw[if_neg Q0] at hL
  rw[hL]
  exact⟨_,_,rfl,h2,h3⟩
 refine ZbK (λm a w=>∃(i:Nat)(u:Value)(dn:Bool)(out:List SrcV)(es:EN),m=l.length-i/\i<=l.length/\(OwnS 166 38 u out.length (srsC out) es)/\(out++Zbv (λy=>cmpD y.to t) x dn (l.drop i)=R)/\Frm a 92 [] [(57, .int .i64 i),(56, .int .i64 l.length),(55, .slice q l.length cap),(6, .pointer (some ⟨b6,0,none⟩)),(13,u),(14, .bool dn),(12, .pointer (some ⟨b12,0,none⟩))]/\Mem [] W w ((b12, .cells (srC x).toArray 166 (0,0))::(b6, .cells (dvC t).toArray 67 (0,0))::es)) l.length ⟨0,_,false,[],[],rfl,Q0,OwnS.nil _ _,hR,F.only [57,56,55,6,13,14,12] rfl,M.sub Qa⟩ ?_
 clear F M a w
 rintro m a w ⟨i,u,dn,out,es,hm',hi,hOs,hout,F,M⟩
 have hol:out.length<=257:=by
  have:=congrArg List.length hout
  rw[List.length_append] at this
  omega
 by_cases hlt:i<l.length
 ·obtain⟨b,o,cs,t',fz,rfl,hb,hs⟩:=hm Q0
  obtain⟨y,hy0⟩:∃y,y=l[i]:=⟨_,rfl⟩
  have hyi:IsSr y:=by rw[hy0];exact hx _ (List.getElem_mem hlt)
  have f1:seg cs (o+(i:Int).toNat*38) 38=some (srC y):=by rw[hy0];exact Zal (ZbN hx) hs hlt Q0
  rw[<-List.getElem_cons_drop hlt,<-hy0] at hout
  clear hy0
  rw[Zcv] at hout
  have hyd:IsDv y.to:=hyi.1
  refine W1 14 ?_;intro a F
  refine sD F (ZjU M (F.e rfl) Qd Qd ?_);clear F a;intro a F
  refine sD F (Zay M ?_);clear F M;intro b16 w M a F
  refine ZaW rfl F (Zap M (F.e rfl) (F.e rfl) (Zcj Q8) (ZcX _) Q1 (Zat (by rw[(Zcj Q8)];first|rfl|rw[(Zcj Q8)])) Q1 ?_);clear F M;intro w M a F
  refine W1 5 ?_;intro a F
  refine sD F (Zbs M (F.e rfl) Q1 (ZlG Q8) ?_);clear F a;intro a F
  refine sD F (Zbs M (F.e rfl) Q1 (Zcx Q8) ?_);clear F a;intro a F
  refine sD F (Zav (F.e rfl) (F.evs rfl) (Cal.mono (ZaR _ _ (by first|assumption|omega|exact And.left Qd|exact(by assumption:SlAt _ _ _ _ _).later M.ext|exact Zbz.later Qd M.ext|exact M.heap Q1|decide) (by first|assumption|omega|exact And.left Qd|exact(by assumption:SlAt _ _ _ _ _).later M.ext|exact Zbz.later Qd M.ext|exact M.heap Q1|decide) _) ?_));clear F;clear a;rintro _ w ⟨rfl,hE⟩ a F;replace M:=M.later hE;clear hE
  refine W1 9 ?_;intro a F
  refine Zd8 F 67 rfl (λh1=>?_) (λh1=>?_)
  ·rw[h1] at F;replace h1:=dqU h1
   refine W1 5 ?_;intro a F
   refine c_if F rfl (λh2=>?_) (λh2=>?_)
   ·rw[h2] at F;replace h2:=Zaa h2;(try rw[h2] at F)
    refine W1 3 ?_;intro a F
    refine sD F (Zbs M (F.e rfl) Q1 (ZiR Q8) ?_);clear F a;intro a F
    refine sD F (ZaC F M rfl rfl rfl (ZcJ Q8) ?_);clear F M;intro bs73 w M a F
    refine sD F (Zd5 (enc:=srC) Qd M (by repeat (first|exact .here|apply ZcQ.cons)) (F.e rfl) (F.e rfl) (Zcc.cells' (M.heap .here) (ZbH (Zcj Q8)) (ZcX _)) (by first|omega|(simp;omega)) ?_);clear F M;intro v74 es74 w hO74 M a F;(try dsimp only at M)
    refine W1 13 ?_;intro a F
    exact vAf
   ·rw[h2] at F;replace h2:=Zab h2;(try rw[h2] at F)
    refine W1 8 ?_;intro a F
    exact vAf
  ·rw[h1] at F;replace h1:=dqV h1
   refine W1 17 ?_;intro a F
   refine sD F (Zbs M (F.e rfl) Q1 (ZiR Q8) ?_);clear F a;intro a F
   refine sD F (ZaC F M rfl rfl rfl (ZcJ Q8) ?_);clear F M;intro bs79 w M a F
   refine sD F (Zd5 (enc:=srC) Qd M (by repeat (first|exact .here|apply ZcQ.cons)) (F.e rfl) (F.e rfl) (Zcc.cells' (M.heap .here) (ZbH (Zcj Q8)) (ZcX _)) (by first|omega|(simp;omega)) ?_);clear F M;intro v80 es80 w hO80 M a F;(try dsimp only at M)
   refine W1 9 ?_;intro a F
   exact⟨_,Q0,i+1,_,_,_,_,rfl,Q0,by assumption,by rw[<-hout];clear hout hR hL c1 c2;have hc:cmpD y.to t≠0:=Q0;simp[*],F.only [57,56,55,6,13,14,12] rfl,M.sub Qc⟩
 ·obtain rfl:i=l.length:=by omega
  rw[List.drop_length,ZdX] at hout
  cases dn
  ·have hout:out++[x]=R:=hout
   subst hout
   refine W1 22 ?_;intro a F
   refine sD F (Zbs M (F.e rfl) Q1 (ZiR Q8) ?_);clear F a;intro a F
   refine sD F (ZaC F M rfl rfl rfl (ZcJ Q8) ?_);clear F M;intro bs86 w M a F
   refine sD F (Zd5 (enc:=srC) Qd M (by repeat (first|exact .here|apply ZcQ.cons)) (F.e rfl) (F.e rfl) (Zcc.cells' (M.heap .here) (ZbH (Zcj Q8)) (ZcX _)) (by first|omega|(simp;omega)) ?_);clear F M;intro v87 es87 w hO87 M a F;(try dsimp only at M)
   refine W1 11 ?_;intro a F
   exact vAP
  ·have hout:out++[]=R:=hout
   rw[List.append_nil] at hout
   subst hout
   refine W1 30 ?_;intro a F
   exact vAP
theorem ZuR{xs:List Int}{now:Int}(h0:0<=now)(h1:now<=1099511627776):Zag (wtV xs k now)=true:=by
 unfold wtV Zag
 simp only[Bool.and_eq_true,decide_eq_true_eq]
 repeat' split
 all_goals omega
theorem Zc5{p:Option Addr}{len cap k:Nat}{xs:List Int}(base:Int)(h0:0<=base)(h1:base<=1099511627776)(W:World)(hT:Zbz W bt p len xs)(hb:W.heap[bt]? =some (tobj p len cap k)):
  Cal prog 44 [.pointer (some ⟨bt,0,none⟩), .int .i64 base].toArray W λv w'=>∃x k',v= .int .i64 x/\Zag x=true/\Mem [bt] W w' [(bt,tobj p len cap k')]:=
 Cal.mono (ZuQ base h0 h1 W hT hb) λ_ _ h=>⟨_,_,h.1,ZuR h0 h1,h.2⟩
end
section
theorem Zzg(a b:Int):ZaD [(0,1),(1,1)] diZ [(0,[.int .u16 a]),(1,[.int .i64 b])]=some (diC ⟨a,b⟩):=rfl
theorem ZzW(a b:Int):ZaD [(0,1),(1,1)] opZ [(0,[.int .u64 a]),(1,[.int .i64 b])]=some (opC ⟨a,b⟩):=rfl
theorem ZoT(a b c:Int):ZaD [(0,1),(1,1),(2,1)] chZ [(0,[.int .u64 a]),(1,[.int .i64 b]),(2,[.int .i64 c])]=some (chC ⟨a,b,c⟩):=rfl
theorem ZuD(a c:Int):ZaD [(0,1),(1,1),(2,1)] chZ [(1,[.int .i64 a]),(2,[.int .i64 c])]=some (chC ⟨0,a,c⟩):=rfl
theorem Zog(t:DstV)(h:IsDv t)(d:DisV)(u:Int):ZaD [(0,35),(35,2),(37,1)] srZ [(0,dvC t),(1,diC d),(2,[.int .i64 u])]=some (srC ⟨t,d,u⟩):=ZmX (o:=⟨t,d,u⟩) ⟨h,trivial⟩
theorem ZzQ(t:DstV)(h:IsDv t)(n:Int)(d:DisV)(u:Int):ZaD [(0,35),(35,1),(36,2),(38,1)] roZ [(0,dvC t),(1,[.int .u64 n]),(2,diC d),(3,[.int .i64 u])]=some (roC ⟨t,n,d,u⟩):=Zsn (o:=⟨t,n,d,u⟩) ⟨h,trivial⟩
theorem Zz9(t:DstV)(h:IsDv t)(n:Int)(d:DisV)(b u:Int):ZaD [(0,35),(35,1),(36,2),(38,1),(39,1)] inZ [(0,dvC t),(1,[.int .u64 n]),(2,diC d),(3,[.int .i64 b]),(4,[.int .i64 u])]=some (inC ⟨t,n,d,b,u⟩):=Zs7 (o:=⟨t,n,d,b,u⟩) ⟨h,trivial⟩
theorem vAg(h:p:=by
  obtain⟨p1,n1,p2,n2,rt⟩:=t
  obtain⟨x0,x1,x2,x3,x4,x5,x6,x7,x8,x9,x10,x11,x12,x13,x14,x15,e0⟩:=ZdR (show p1.length=16 from h.1.len)
  obtain⟨y0,y1,y2,y3,y4,y5,y6,y7,y8,y9,y10,y11,y12,y13,y14,y15,e1⟩:=ZdR (show p2.length=16 from h.2.len)
  subst e0
  subst e1
  rfl):p:=h
theorem ZyR(t:DstV)(h:IsDv t)(n:Int)(d:DisV)(b:Int):ZaD [(0,35),(35,1),(36,2),(38,1),(39,1)] inZ [(0,dvC t),(1,[.int .u64 n]),(2,diC d),(3,[.int .i64 b])]=some (inC ⟨t,n,d,b,0⟩):=vAg
theorem Zul(t:DstV)(h:IsDv t)(n b:Int):ZaD [(0,35),(35,1),(36,2),(38,1),(39,1)] inZ [(0,dvC t),(1,[.int .u64 n]),(3,[.int .i64 b])]=some (inC ⟨t,n,di0,b,0⟩):=vAg
theorem ZyQ(t:DstV)(h:IsDv t)(d:DisV)(b u:Int):ZaD [(0,35),(35,1),(36,2),(38,1),(39,1)] inZ [(0,dvC t),(2,diC d),(3,[.int .i64 b]),(4,[.int .i64 u])]=some (inC ⟨t,0,d,b,u⟩):=vAg
end
section
attribute [local irreducible] OpTo wpListIn Code.wpIn MW Cal
theorem Ztm(l:List InsV)(hx:∀x∈l,IsIn x)(hlen:l.length<=100000)(u v:Value)(W:World)(hu:SlAt W 40 u l.length (insC l))(hv:SlAt W 40 v l.length (insC l)):
  Cal prog 98 [u,v].toArray W λr w'=>r= .bool true/\Ext [] W w':=by
 obtain⟨q1,cap1,rfl,hc1,hn1,hl1,hm1⟩:=hu
 obtain⟨q2,cap2,rfl,hc2,hn2,hl2,hm2⟩:=hv
 refine Zar (n:=26) [] Tryz.func98 rfl rfl rfl ?_
 intro a w F M hwW
 refine W1 27 ?_;intro a F
 refine ZbK (λm a w=>∃i:Nat,m=l.length-i/\i<=l.length/\Frm a 26 [] [(13, .int .i64 i),(12, .int .i64 l.length),(0, .slice q1 l.length cap1),(1, .slice q2 l.length cap2)]/\Mem [] W w []) l.length ⟨0,rfl,Q0,F.only [13,12,0,1] rfl,M⟩ ?_
 clear F M
 rintro m a w ⟨i,hm',hi,F,M⟩
 by_cases hlt:i<l.length
 ·obtain⟨b,o,cs,t,fz,rfl,hb,hs⟩:=hm1 Q0
  obtain⟨b',o',cs',t',fz',rfl,hb',hs'⟩:=hm2 Q0
  obtain⟨p,hp0⟩:∃p,p=l[i]:=⟨_,rfl⟩
  have hpi:IsIn p:=by rw[hp0];exact hx _ (List.getElem_mem hlt)
  have f1:seg cs (o+(i:Int).toNat*40) 40=some (inC p):=by rw[hp0];exact Zal (ZbU hx) hs hlt Q0
  have f2:seg cs' (o'+(i:Int).toNat*40) 40=some (inC p):=by rw[hp0];exact Zal (ZbU hx) hs' hlt Q0
  have f3:=Zwh hpi
  have f4:eqVs (inC p) (inC p)=true:=by rw[ZAa hpi hpi];simp
  exact vAr
 ·obtain rfl:i=l.length:=by omega
  exact vBR
theorem Znq{α:Type}{enc:α->List Value}{e:TypeId}{l:List α}{q:Option Addr}{c:Nat}{j:List Value}(h:OwnS e sz (.slice q l.length c) l.length (encL enc l) ent)(hb:q=some ⟨b,0,none⟩)(he:ent=[(b, .cells (encL enc l++j).toArray e (0,0))]){l':List α}(hl:l'.length=l.length)(hc:(encL enc l').length=(encL enc l).length):OwnS e sz (.slice q l'.length c) l'.length (encL enc l') [(b, .cells (encL enc l'++j).toArray e (0,0))]:=by
 rcases h with⟨h1,_⟩|⟨b2,c2,j2,h1,h2,h3,h4,h5⟩
 ·rw[hb] at h1;cases h1
 ·rw[hb] at h1
  cases h1
  rw[he] at h2
  have h6:encL enc l++j=encL enc l++j2:=by simpa using h2
  have h7:j=j2:=List.append_cancel_left h6
  subst h7
  exact .inr ⟨b,c,j,by rw[hb],rfl,by rw[hc,h3,hl],by rw[hl];exact h4,by rw[hl];exact h5⟩
theorem Zya{b r:List Value}{n:Nat}{v:Value}(h:put b n [v]=some r):∀a:List Value,put (a++b) (a.length+n) [v]=some (a++r)
 |[]=>by simpa using h
 |x::a=>by
  have:=Zya h a
  rw[List.length_cons,show a.length+1+n=(a.length+n)+1 by omega]
  simp only[List.cons_append,put,this]
theorem putL{b:List Value}{v:Value}:∀{a r:List Value}{n:Nat},put a n [v]=some r->put (a++b) n [v]=some (r++b)
 |[],r,0,h=>by simp[put] at h
 |[],r,n+1,h=>by simp[put] at h
 |x::a,r,0,h=>by
  simp only[put] at h
  cases h
  simp[put]
 |x::a,r,n+1,h=>by
  simp only[put] at h
  cases h1:put a n [v] with
  |none=>rw[h1] at h;cases h
  |some z=>
   rw[h1] at h
   cases h
   simp only[List.cons_append,put,putL h1]
theorem Zp2{α:Type}{enc:α->List Value}{sz:Nat}{x':α}{off:Nat}{v:Value}(j:List Value):∀{l:List α}{i:Nat}(_:∀x∈l,(enc x).length=sz)(hi:i<l.length)(_:put (enc l[i]) off [v]=some (enc x')),put (encL enc l++j) (i*sz+off) [v]=some (encL enc (l.set i x')++j)
 |[],_,_,hi,_=>by simp at hi
 |x::l,0,hx,hi,h=>by
  rw[Zcf,List.set_cons_zero,Zcf,Nat.zero_mul,Nat.zero_add,List.append_assoc,List.append_assoc]
  exact putL h
 |x::l,i+1,hx,hi,h=>by
  have ih:=Zp2 j (l:=l) (i:=i) (λy hy=>hx y (List.mem_cons_of_mem _ hy)) (by simpa using hi) h
  rw[Zcf,List.set_cons_succ,Zcf,List.append_assoc,List.append_assoc,show(i+1)*sz+off=(enc x).length+(i*sz+off) by rw[hx x List.mem_cons_self,Nat.add_mul];omega]
  exact Zya ih _
structure RtE where
 og:EN
 aj:EN
 sr:EN
 ro:EN
 ins:EN
 rq:EN
 av:EN
def RtE.row(e:RtE):Row:=[e.av,e.rq,e.ins,e.ro,e.sr,e.aj,e.og]
structure RtOw(s:RtV)(x:RtX)(e:RtE):Prop where
 og:OwnS 85 34 x.og s.og.length (ogsC s.og) e.og
 aj:OwnS 124 8 x.aj s.aj.length (ajsC s.aj) e.aj
 sr:OwnS 166 38 x.sr s.sr.length (srsC s.sr) e.sr
 ro:OwnS 76 39 x.ro s.ro.length (rosC s.ro) e.ro
 ins:OwnS 74 40 x.ins s.ins.length (insC s.ins) e.ins
 rq:OwnS 171 40 x.rq s.rq.length (rqsC s.rq) e.rq
 av:OwnS 100 37 x.av s.av.length (avsC s.av) e.av
structure RtSm(s:RtV):Prop where
 og:s.og.length<=1000
 aj:s.aj.length<=1000
 sr:s.sr.length<=1000
 ro:s.ro.length<=1000
 ins:s.ins.length<=1000
 rq:s.rq.length<=1000
 av:s.av.length<=1000
theorem RtOw.at_{x:RtX}{e:RtE}(h:RtOw s x e){W0 w:World}{l:EN}(M:Mem S W0 w l)(hs:∀p∈e.row.flatten,p∈l):RtAt w s x:=
 ⟨h.og.slAt M λq hq=>hs q (List.mem_flatten_of_mem (by simp[RtE.row]) hq),h.aj.slAt M λq hq=>hs q (List.mem_flatten_of_mem (by simp[RtE.row]) hq),h.sr.slAt M λq hq=>hs q (List.mem_flatten_of_mem (by simp[RtE.row]) hq),h.ro.slAt M λq hq=>hs q (List.mem_flatten_of_mem (by simp[RtE.row]) hq),h.ins.slAt M λq hq=>hs q (List.mem_flatten_of_mem (by simp[RtE.row]) hq),h.rq.slAt M λq hq=>hs q (List.mem_flatten_of_mem (by simp[RtE.row]) hq),h.av.slAt M λq hq=>hs q (List.mem_flatten_of_mem (by simp[RtE.row]) hq)⟩
theorem ZkN(s:RtV)(x:RtX)(hsm:RtSm s)(W:World)(h:RtAt W s x):Cal prog 112 [.agg (rtC s x).toArray].toArray W λr w'=>∃(x':RtX)(e:RtE),RtOw s x' e/\r= .agg (rtC s x').toArray/\Mem [] W w' e.row.flatten:=by
 obtain⟨v6,v7,v8,v9,v10,v11,v12⟩:=x
 obtain⟨a6,a7,a8,a9,a10,a11,a12⟩:=h
 dsimp only at a6 a7 a8 a9 a10 a11 a12
 obtain⟨q6,c6,rfl,_⟩:=id a6
 obtain⟨q7,c7,rfl,_⟩:=id a7
 obtain⟨q8,c8,rfl,_⟩:=id a8
 obtain⟨q9,c9,rfl,_⟩:=id a9
 obtain⟨q10,c10,rfl,_⟩:=id a10
 obtain⟨q11,c11,rfl,_⟩:=id a11
 obtain⟨q12,c12,rfl,_⟩:=id a12
 obtain⟨l6,l7,l8,l9,l10,l11,l12⟩:=hsm
 refine yS (n:=34) Tryz.func112 rfl rfl (gQ 2 rfl (Zai rfl rfl λb1=>Zac λb2=>?_))
 refine W3 [5,0] ?_
 refine Zba (ZcF 0 rfl rfl (OwnS.nil _ _) rfl (λw M=>(a6.later M.ext).src Zqj) Q0 Q0 (λ_=>rfl) ?_)
 intro v6 e6 h6
 simp only[Nat.zero_add,List.nil_append] at h6
 obtain⟨p6,d6,rfl,-⟩:=Zbr h6
 refine W3 [1,0,5,0] ?_
 refine Zba (ZcF 0 rfl rfl (OwnS.nil _ _) rfl (λw M=>(a7.later M.ext).src ZrM) Q0 Q0 (λ_=>rfl) ?_)
 intro v7 e7 h7
 simp only[Nat.zero_add,List.nil_append] at h7
 obtain⟨p7,d7,rfl,-⟩:=Zbr h7
 refine W3 [1,0,5,0] ?_
 refine Zba (ZcF 0 rfl rfl (OwnS.nil _ _) rfl (λw M=>(a8.later M.ext).src ZlE) Q0 Q0 (λ_=>rfl) ?_)
 intro v8 e8 h8
 simp only[Nat.zero_add,List.nil_append] at h8
 obtain⟨p8,d8,rfl,-⟩:=Zbr h8
 refine W3 [1,0,5,0] ?_
 refine Zba (ZcF 0 rfl rfl (OwnS.nil _ _) rfl (λw M=>(a9.later M.ext).src ZlX) Q0 Q0 (λ_=>rfl) ?_)
 intro v9 e9 h9
 simp only[Nat.zero_add,List.nil_append] at h9
 obtain⟨p9,d9,rfl,-⟩:=Zbr h9
 refine W3 [1,0,5,0] ?_
 refine Zba (ZcF 0 rfl rfl (OwnS.nil _ _) rfl (λw M=>(a10.later M.ext).src ZqQ) Q0 Q0 (λ_=>rfl) ?_)
 intro v10 e10 h10
 simp only[Nat.zero_add,List.nil_append] at h10
 obtain⟨p10,d10,rfl,-⟩:=Zbr h10
 refine W3 [1,0,5,0] ?_
 refine Zba (ZcF 0 rfl rfl (OwnS.nil _ _) rfl (λw M=>(a11.later M.ext).src Zfd) Q0 Q0 (λ_=>rfl) ?_)
 intro v11 e11 h11
 simp only[Nat.zero_add,List.nil_append] at h11
 obtain⟨p11,d11,rfl,-⟩:=Zbr h11
 refine W3 [1,0,6,0] ?_
 refine Zba (ZcF 0 rfl rfl (OwnS.nil _ _) rfl (λw M=>(a12.later M.ext).src Zkw) Q0 Q0 (λ_=>rfl) ?_)
 intro v12 e12 h12
 simp only[Nat.zero_add,List.nil_append] at h12
 obtain⟨p12,d12,rfl,-⟩:=Zbr h12
 refine W3 [2,0,4,0,0,3] ?_
 exact Zbn 7 rfl rfl rfl rfl rfl λw M=>⟨⟨_,_,_,_,_,_,_⟩,⟨e6,e7,e8,e9,e10,e11,e12⟩,⟨h6,h7,h8,h9,h10,h11,h12⟩,rfl,M.sub (subO (by(try dsimp only[RtE.row]);repeat (first|exact sC0 _|apply sC2)))⟩
theorem Zu3(s:RtV)(x:RtX)(W:World)(h:RtAt W s x):Cal prog 27 [.agg (rtC s x).toArray].toArray W λr w'=>(∃b,r= .bool b)/\Ext [] W w':=by
 obtain⟨v6,v7,v8,v9,v10,v11,v12⟩:=x
 obtain⟨a6,a7,a8,a9,a10,a11,a12⟩:=h
 dsimp only at a6 a7 a8 a9 a10 a11 a12
 obtain⟨q6,c6,rfl,_⟩:=id a6
 obtain⟨q7,c7,rfl,_⟩:=id a7
 obtain⟨q8,c8,rfl,_⟩:=id a8
 obtain⟨q9,c9,rfl,_⟩:=id a9
 obtain⟨q10,c10,rfl,_⟩:=id a10
 obtain⟨q11,c11,rfl,_⟩:=id a11
 obtain⟨q12,c12,rfl,_⟩:=id a12
 refine yS (n:=44) Tryz.func27 rfl rfl (gQ 2 rfl (Zai rfl rfl λb1=>?_))
 refine W3 [6,0,3] ?_
 refine Zah 7 rfl (λh1=>?_) (λh1=>?_)
 ·replace h1:=dqU h1
  refine W3 [1,0,4] ?_
  refine Zah 13 rfl (λh2=>?_) (λh2=>?_)
  ·replace h2:=dqU h2
   refine W3 [1,0,4] ?_
   refine Zah 19 rfl (λh3=>?_) (λh3=>?_)
   ·replace h3:=dqU h3
    refine W3 [1,0,4] ?_
    refine Zah 25 rfl (λh4=>?_) (λh4=>?_)
    ·replace h4:=dqU h4
     refine W3 [1,0,4] ?_
     refine Zah 31 rfl (λh5=>?_) (λh5=>?_)
     ·replace h5:=dqU h5
      refine W3 [1,0,4] ?_
      refine Zah 37 rfl (λh6=>?_) (λh6=>?_)
      ·replace h6:=dqU h6
       refine W3 [2,0,7] ?_
       exact Zae rfl rfl rfl λw M=>⟨⟨_,rfl⟩,M.ext⟩
      ·replace h6:=dqV h6
       exact gQ 10 rfl (Zae rfl rfl rfl λw M=>⟨⟨_,rfl⟩,M.ext⟩)
     ·replace h5:=dqV h5
      exact gQ 16 rfl (Zae rfl rfl rfl λw M=>⟨⟨_,rfl⟩,M.ext⟩)
    ·replace h4:=dqV h4
     exact gQ 22 rfl (Zae rfl rfl rfl λw M=>⟨⟨_,rfl⟩,M.ext⟩)
   ·replace h3:=dqV h3
    exact gQ 28 rfl (Zae rfl rfl rfl λw M=>⟨⟨_,rfl⟩,M.ext⟩)
  ·replace h2:=dqV h2
   exact gQ 34 rfl (Zae rfl rfl rfl λw M=>⟨⟨_,rfl⟩,M.ext⟩)
 ·replace h1:=dqV h1
  exact gQ 40 rfl (Zae rfl rfl rfl λw M=>⟨⟨_,rfl⟩,M.ext⟩)
end
section
section
variable {c:Cx} {x:RX} {xs:List (Nat×XP)} {fr:FN} {l:Row} {d:Nat} {ty:TypeId} {pos:String} {af:Array Edge}
theorem Zt7{t e:TypeId}{len sz:Nat}{ys:List (Nat×Operand)}{parts:List (Nat×List Value)}{zs cs:List Value} [ht:TU c.P t (.slice e)] [hs:TSz c.P e sz] [hz:ZcD c.P e zs](hv:evP fr ys=some parts)
  (hle:Nat.ble (len*sz) 16777216=true) (hzl:Nat.beq zs.length sz=true) (hp:ZaD (Zcu len sz) (Zc4 zs (len*sz)) parts=some cs):
  OpF c x xs ⟨some d, .buildSlice t len ys.toArray,ty,pos,af,none⟩ fr l (λu r=>∃j:Nat,u= .slice (some ⟨j,0,none⟩) len len/\True/\r=[(j, .cells cs.toArray e (0,0))]::l):=λa w F M _=>
 ZaC F (Mem.start [] w) hv hle hzl hp λb w'' N=>⟨N.ext.any,_,⟨b,rfl,trivial,rfl⟩,M.joins (new:=[(b, .cells cs.toArray e (0,0))]) N⟩
theorem Zns{α:Type}{enc:α->List Value}{out:List α}{x0:α}{st xt e:TypeId}{y1 y2:Operand}{sz by_ bx:Nat}{ent r:EN}{f:EN->Row} [hst:TU c.P st (.slice e)] [hel:TEl c.P e sz by_] [hxt:TNI c.P xt]
  (hx:Ev fr y1=some v) (hy:Ev fr y2=some (.slice (some ⟨bx,0,none⟩) 1 1)) (hO:OwnS e sz v out.length (encL enc out) ent) (hl:l.flatten.Perm (ent++r)) (hB:∀q∈ent,q.1∈x.B) (hj:(bx, .cells (enc x0).toArray t' fz)∈l.flatten) (hz:(enc x0).length=sz) (hbd:(out.length+1)*by_<=140737488355328) (hln:out.length+1<=9223372036854775807)
  (hf:∀ent',(ent'++r).Perm (f ent').flatten) (h1:(enc x0).all (·.oneCell')=true):
  OpF c x xs ⟨some d, .call ⟨.builtin .append, #[y1,y2], #[st,xt]⟩,ty,pos,af,none⟩ fr l (λu r=>∃j:Value×EN,u=j.1/\OwnS e sz j.1 (out++[x0]).length (encL enc (out++[x0])) j.2/\r=f j.2):=λa w F M _=>by
 have hS:Zcc c.P w (.slice (some ⟨bx,0,none⟩) 1 1) 1 sz (enc x0):=Zcc.cells' (M.at_ _ hj) (by rw[Nat.one_mul,<-hz];simpa using ZfG [] (enc x0) []) h1
 have MM:=M.perm hl
 have M0:Mem (ent.map (·.1)) w w (ent++[]):=by
  exact vBv
 refine Zd5 (f:=λe'=>[]++e') hO (M0.perm List.perm_append_comm) (.app .here) (F.e hx) (F.e hy) hS hbd (λv' ent' w' hO' M'=>?_) hln
 exact vC1
end
end
section
attribute [local irreducible] OpTo wpListIn Code.wpIn MW Cal
theorem Zc7{e:TypeId}(h:OwnS e sz v n xs ent):v.oneCell'=true:=by
 rcases h with⟨rfl,_⟩|⟨_,_,_,rfl,_⟩<;>rfl
def ipA:List Int:=[1,2,0,0,0,0,0,0,0,0,0,0,0,0,0,0]
def ipB:List Int:=[255,0,0,0,0,0,0,0,0,0,0,0,0,0,0,0]
def ipO:List Int:=[0,0,0,0,0,0,0,0,0,0,0,0,0,0,0,0]
theorem ZyO:IsIP ipA:=⟨rfl,by decide⟩
theorem ZyN:IsIP ipB:=⟨rfl,by decide⟩
theorem Zui:IsIP ipO:=⟨rfl,by decide⟩
def ogX:OrgV:=⟨ipA,9,ipO,0⟩
theorem Zt9:IsOg ogX:=⟨ZyO,Zui⟩
def dvX(z:Int):DstV:=⟨ipB,8,ipO,0,z⟩
theorem ZuB(z:Int):IsDv (dvX z):=⟨ZyN,Zui⟩
theorem Zyh:ZaD [(0,17),(17,17)] ogZ [(0,[.int .u8 1, .int .u8 2, .int .u8 0, .int .u8 0, .int .u8 0, .int .u8 0, .int .u8 0, .int .u8 0, .int .u8 0, .int .u8 0, .int .u8 0, .int .u8 0, .int .u8 0, .int .u8 0, .int .u8 0, .int .u8 0, .int .i64 9])]=some (ogC ogX):=rfl
theorem Zuz(z:Int):ZaD [(0,17),(17,17),(34,1)] dvZ [(0,[.int .u8 255, .int .u8 0, .int .u8 0, .int .u8 0, .int .u8 0, .int .u8 0, .int .u8 0, .int .u8 0, .int .u8 0, .int .u8 0, .int .u8 0, .int .u8 0, .int .u8 0, .int .u8 0, .int .u8 0, .int .u8 0, .int .i64 8]),(2,[.int .u64 z])]=some (dvC (dvX z)):=rfl
theorem ZzF:ZaD [(0,1),(1,5),(6,1),(7,1)] ajZ [(0,[.int .u64 9])]=some (ajC ⟨9,qu0,0,0⟩):=rfl
theorem ZzG(n:Int)(q:QuaV):ZaD [(0,1),(1,5),(6,1),(7,1)] ajZ [(0,[.int .u64 n]),(1,quC q)]=some (ajC ⟨n,q,0,0⟩):=rfl
theorem ZxU(t:DstV)(h:IsDv t)(n:Int):ZaD [(0,35),(35,1),(36,2),(38,1)] roZ [(0,dvC t),(1,[.int .u64 n])]=some (roC ⟨t,n,di0,0⟩):=vAg
theorem rowT{e:RtE}{t:Nat×Obj}(M:Mem S W w (e.row++[[t]]).flatten):Mem S W w (t::e.row.flatten):=M.perm (by
 rw[List.flatten_append]
 exact List.perm_append_comm)
theorem OpF.mono{c:Cx}{x:RX}{xs:List (Nat×XP)}{o:Oper}{fr:FN}{l:Row}{A B:Value->Row->Prop}(h:OpF c x xs o fr l A)(hB:∀u r,A u r->B u r):OpF c x xs o fr l B:=λa w F M hX=>(h a w F M hX).mono λu w'⟨q1,r,q2,q3⟩=>⟨q1,r,hB u r q2,q3⟩
theorem vAo(h:p:=by
  simp only[List.flatten_cons,List.flatten_nil,List.append_nil]
  classical
  rw[List.perm_iff_count]
  intro x
  simp only[List.count_append]
  omega):p:=h
theorem Zvr{a b c d e f g h i t:EN}:([a,b,c,d,e,f,g,h,i,t]:Row).flatten.Perm (([t,f]:Row).flatten++([a,b,c,d,e,g,h,i]:Row).flatten):=vAo
theorem ZpQ{z a b c d e f g h i t:EN}:([z,a,b,c,d,e,f,g,h,i,t]:Row).flatten.Perm (f++([z,a,b,c,d,e,g,h,i,t]:Row).flatten):=vAo
def PhSs(r:Value)(W w':World):Prop:=∃(u:Value)(m:List SrcV)(c:Int)(ent:EN),r= .tuple #[u, .int .i64 c]/\OwnS 166 38 u m.length (srsC m) ent/\(∀y∈m,IsSr y)/\m.length<=256/\Mem [] W w' ent
theorem PhSs.zero{c:Int}(E:Ext [] W w):PhSs (.tuple #[.slice none 0 0, .int .i64 c]) W w:=⟨_,[],c,[],rfl,OwnS.nil _ _,λy hy=>(List.not_mem_nil hy).elim,by simp,Mem.nil E⟩
def PhRs(r:Value)(W w':World):Prop:=∃(u:Value)(m:List RouV)(c:Int)(ent:EN),r= .tuple #[u, .int .i64 c]/\OwnS 76 39 u m.length (rosC m) ent/\(∀y∈m,IsRo y)/\m.length<=512/\Mem [] W w' ent
theorem PhRs.zero{c:Int}(E:Ext [] W w):PhRs (.tuple #[.slice none 0 0, .int .i64 c]) W w:=⟨_,[],c,[],rfl,OwnS.nil _ _,λy hy=>(List.not_mem_nil hy).elim,by simp,Mem.nil E⟩
theorem vAj(h:p:=by
  refine W3 [5,0,2] ?_
  exact yN (i+1,d,out++[x],_,_) ⟨by dsimp only;omega,by assumption,ZbW hI hxi,by first|(simp;omega)|(have:=hol0 Qd;simp;omega)⟩):p:=h
theorem vAS(h:p:=by
  replace h3:=ZaJ h3
  refine W3 [4,0,2] ?_
  exact yN (i+1,d,out,_,_) ⟨by dsimp only;omega,by assumption,hI,by first|(simp;omega)|(have:=hol0 Qd;simp;omega)⟩):p:=h
theorem vBY(h:p:=by
  exact gQ 8 rfl (Zbo rfl rfl rfl rfl λw M=>PhSs.zero M.ext)):p:=h
theorem vBZ(h:p:=by
  replace h2:=dqV h2
  exact gQ 10 rfl (Zbo rfl rfl rfl rfl λw M=>⟨_,out,0,_,rfl,by assumption,hI,Q0,M.sub (List.sublist_flatten_of_mem Q5)⟩)):p:=h
theorem Zx0(l:List SrcV)(hx:∀x∈l,IsSr x)(v:Value)(now:Int)(t:DstV)(ht:IsDv t)(d:DisV)(W:World)(hS:SlAt W 38 v l.length (srsC l)):Cal prog 142 [v, .int .i64 now, .agg (dvC t).toArray, .agg (diC d).toArray].toArray W λr w'=>PhSs r W w':=by
 obtain⟨q,cap,rfl,_⟩:=id hS
 have hm:=hS.memB [] Q5
 refine yS (n:=92) Tryz.func142 rfl rfl ?_
 cases hv:ZaK l
 ·refine gQ 2 rfl ?_
  refine Zai rfl rfl λb6=>Zai rfl rfl λb7=>?_
  refine W4 [8,0,2,0,25] @ZaO ?_
  exact Zbo rfl rfl rfl rfl λw M=>PhSs.zero M.ext
 have hl256:l.length<=256:=(Zbc.1 hv).1
 cases htm:Zag now
 ·refine gQ 2 rfl ?_
  refine Zai rfl rfl λb6=>Zai rfl rfl λb7=>?_
  refine W4 [8,0,2,0,0,0,3] (T2 @ZaO @ZaM) ?_
  refine Zah 26 rfl (λh1=>?_) (λh1=>?_)
  ·replace h1:=Zaa h1
   exact gQ 20 rfl (Zbo rfl rfl rfl rfl λw M=>PhSs.zero M.ext)
  ·replace h1:=Zab h1
   refine W4 [0,0,3] @ZbI ?_
   refine Zah 31 rfl (λh2=>?_) (λh2=>?_)
   ·replace h2:=Zaa h2
    exact gQ 15 rfl (Zbo rfl rfl rfl rfl λw M=>PhSs.zero M.ext)
   ·replace h2:=Zab h2
    refine W3 [1,0,4] ?_
    refine g_if rfl (λh3=>?_) (λh3=>?_)
    ·replace h3:=dqU h3
     exact vBY
    ·replace h3:=dqV h3
     refine W4 [6,0,3,0,8] @Zas ?_
     exact Zbo rfl rfl rfl rfl λw M=>PhSs.zero M.ext
 obtain⟨hn0,hn1⟩:=Zbt htm
 refine gQ 2 rfl (Zai rfl rfl λb6=>Zai rfl rfl λb7=>?_)
 refine W4 [8,0,2,0,0,0,3] (T2 @ZaO @ZaM) ?_
 refine Zah 26 rfl (λh1=>?_) (λh1=>?_)
 ·replace h1:=Zaa h1
  exact gQ 20 rfl (Zbo rfl rfl rfl rfl λw M=>PhSs.zero M.ext)
 replace h1:=Zab h1
 refine W4 [0,0,3] @ZbI ?_
 refine Zah 31 rfl (λh2=>?_) (λh2=>?_)
 ·replace h2:=Zaa h2
  exact gQ 15 rfl (Zbo rfl rfl rfl rfl λw M=>PhSs.zero M.ext)
 replace h2:=Zab h2
 refine W3 [1,0,4] ?_
 refine g_if rfl (λh3=>?_) (λh3=>?_)
 ·replace h3:=dqU h3
  exact vBY
 replace h3:=dqV h3
 refine W4 [6,0,3,0,6,0,0,3] (T2 @Zas @Zl0) ?_
 refine Zac λb10=>?_
 refine W3 [0,4] ?_
 refine Zc0 (ι:=DisV) ⟨λ_=>True,λ_=>[(7, .pointer (some ⟨b7,0,none⟩)),(6, .pointer (some ⟨b6,0,none⟩)),(0, .slice q l.length cap),(1, .int .i64 now)],λd2=>[[(b7, .cells (diC d2).toArray 72 (0,0))],[(b6, .cells (dvC t).toArray 67 (0,0))]]⟩ ?_ ?_
 ·refine gQ 5 rfl ?_
  refine g_if rfl (λh1=>?_) (λh1=>?_)
  ·refine W4 [1,0,0,0,0,1] @Znc ?_
   exact yJ (lowQ d ((Zcd l now t).getD di0)) trivial
  ·exact gQ 1 rfl (yJ d trivial)
 rintro d2 _
 have nwI:IsSr ⟨t,d2,Zaz now 20⟩:=⟨ht,trivial⟩
 have hmk:=Zog t ht d2 (Zaz now 20)
 refine W4 [2,1006,0,0,1,0,0] @ZcS ?_
 refine ZwF λb12=>?_
 refine W3 [0,21] ?_
 refine Zba (Zau (ι:=Nat×Bool×(List SrcV)×Value×EN) ⟨λ(i,d,out,u,es)=>l.length-i,λ(i,d,out,u,es)=>i<=l.length/\(OwnS 166 38 u out.length (srsC out) es)/\(∀y∈out,IsSr y)/\(out.length<=i+d.toNat),λ(i,d,out,u,es)=>[(57, .int .i64 i),(56, .int .i64 l.length),(55, .slice q l.length cap),(13,u),(14, .bool d),(0, .slice q l.length cap),(6, .pointer (some ⟨b6,0,none⟩)),(12, .pointer (some ⟨b12,0,none⟩))],λ(i,d,out,u,es)=>[es,[(b12, .cells (srC ⟨t,d2,Zaz now 20⟩).toArray 166 (0,0))],[(b6, .cells (dvC t).toArray 67 (0,0))]]⟩ (0,false,[],_,[]) ⟨Q0,OwnS.nilL _ _ _,λy hy=>(List.not_mem_nil hy).elim,by simp⟩ (λa F=>F.only [57,56,55,13,14,0,6,12] rfl) Qa ?_)
 rintro⟨i,d,out,u,es⟩ ⟨hi_i,hOs,hI,hol⟩
 dsimp only
 by_cases hlt_i:i<l.length
 ·obtain⟨b,o,cs,t',fz,rfl,hb,hs⟩:=hm Q0
  obtain⟨x,hx0⟩:∃x,x=l[i]:=⟨_,rfl⟩
  have hxm:x∈l:=by rw[hx0];exact List.getElem_mem hlt_i
  have hxi:IsSr x:=hx _ hxm
  have f1:seg cs (o+(i:Int).toNat*38) 38=some (srC x):=by rw[hx0];exact Zal (ZbN hx) hs hlt_i Q0
  have xd:IsDv x.to:=hxi.1
  have hol3:out.length<=i+1:=by cases d<;>simp at hol<;>omega
  have hol4:(out++[(⟨t,d2,Zaz now 20⟩:SrcV)]).length=out.length+1:=by simp
  have hol0:d=false->out.length<=i:=λh=>by rw[h] at hol;simpa using hol
  refine W3 [6,0,6,0,0] ?_
  refine Zac λb16=>?_
  refine W4 [0,5,0,0,0,9] @ZaR ?_
  refine Zah 67 rfl (λh1=>?_) (λh1=>?_)
  ·replace h1:=dqU h1
   refine gQ 5 rfl (g_if rfl (λh2=>?_) (λh2=>?_))
   ·replace h2:=Zaa h2
    refine W3 [3,0] ?_
    refine g_bs rfl rfl rfl (ZcJ Qd) (λb73=>?_)
    refine ZaY 2 0 (enc:=srC) rfl rfl Qd rfl rfl (Zcj Qd) Q4 (λ_=>rfl) (λv74 es74 hO74=>?_) (ZcX _)
    refine gQ 13 rfl (g_if rfl (λh3=>?_) (λh3=>?_))
    ·replace h3:=Zbx h3
     refine W3 [2,0] ?_
     refine g_bs rfl rfl rfl (ZcJ Qd) (λb79=>?_)
     refine ZaY 3 0 (enc:=srC) rfl rfl Qd rfl rfl (Zcj Qd) Q4 (λ_=>rfl) (λv80 es80 hO80=>?_) (ZcX _)
     refine W3 [5,0,2] ?_
     exact yN (i+1,true,(out++[⟨t,d2,Zaz now 20⟩])++[x],_,_) ⟨by dsimp only;omega,by assumption,ZbW (ZbW hI nwI) hxi,by first|(simp;omega)|(have:=hol0 Qd;simp;omega)⟩
    ·replace h3:=ZaJ h3
     refine W3 [4,0,2] ?_
     exact yN (i+1,true,out++[⟨t,d2,Zaz now 20⟩],_,_) ⟨by dsimp only;omega,by assumption,ZbW hI nwI,by first|(simp;omega)|(have:=hol0 Qd;simp;omega)⟩
   ·replace h2:=Zab h2
    refine gQ 8 rfl (g_if rfl (λh3=>?_) (λh3=>?_))
    ·replace h3:=Zbx h3
     refine W3 [2,0] ?_
     refine g_bs rfl rfl rfl (ZcJ Qd) (λb79=>?_)
     refine ZaY 2 0 (enc:=srC) rfl rfl Qd rfl rfl (Zcj Qd) Q4 (λ_=>rfl) (λv80 es80 hO80=>?_) (ZcX _)
     exact vAj
    ·exact vAS
  ·replace h1:=dqV h1
   refine W3 [14,0,2,0] ?_
   refine g_bs rfl rfl rfl (ZcJ Qd) (λb79=>?_)
   refine ZaY 2 0 (enc:=srC) rfl rfl Qd rfl rfl (Zcj Qd) Q4 (λ_=>rfl) (λv80 es80 hO80=>?_) (ZcX _)
   exact vAj
 ·have hli:i=l.length:=by omega
  have hol3:out.length<=i+1:=by cases d<;>simp at hol<;>omega
  obtain⟨q4,c4,rfl,hq4⟩:=Zbr hOs
  have hol0:d=false->out.length<=i:=λh=>by rw[h] at hol;simpa using hol
  refine W3 [6,0,2,0,9] ?_
  refine g_if rfl (λh1=>?_) (λh1=>?_)
  ·replace h1:=Zaa h1
   refine W3 [2,0] ?_
   refine g_bs rfl rfl rfl (ZcJ Qd) (λb86=>?_)
   refine ZaY 1 0 (enc:=srC) rfl rfl Qd rfl rfl (Zcj Qd) Q4 (λ_=>rfl) (λv87 es87 hO87=>?_) (ZcX _)
   refine W3 [7,0,3] ?_
   refine g_if rfl (λh2=>?_) (λh2=>?_)
   ·replace h2:=dqU h2
    exact vBY
   ·replace h2:=dqV h2
    exact gQ 10 rfl (Zbo rfl rfl rfl rfl λw M=>⟨_,out++[⟨t,d2,Zaz now 20⟩],0,_,rfl,by assumption,ZbW hI nwI,Q0,M.sub (List.sublist_flatten_of_mem Q5)⟩)
  ·replace h1:=Zab h1
   refine gQ 10 rfl (g_if rfl (λh2=>?_) (λh2=>?_))
   ·replace h2:=dqU h2
    exact vBY
   ·exact vBZ
theorem vC0(h:p:=by
  exact gQ 8 rfl (Zbo rfl rfl rfl rfl λw M=>PhRs.zero M.ext)):p:=h
theorem ZsY(l:List RouV)(hx:∀x∈l,IsRo x)(v:Value)(now:Int)(t:DstV)(ht:IsDv t)(nb:Int)(dd:DisV)(W:World)(hS:SlAt W 39 v l.length (rosC l)):Cal prog 144 [v, .int .i64 now, .agg (dvC t).toArray, .int .u64 nb, .agg (diC dd).toArray].toArray W λr w'=>PhRs r W w':=by
 obtain⟨q,cap,rfl,_⟩:=id hS
 have hm:=hS.memB [] Q5
 have nwI:IsRo ⟨t,nb,dd,Zaz now 10⟩:=⟨ht,trivial⟩
 refine yS (n:=83) Tryz.func144 rfl rfl ?_
 cases hv:Za7 l
 ·refine gQ 2 rfl ?_
  refine Zai rfl rfl λb7=>Zai rfl rfl λb9=>?_
  refine W4 [8,0,2,0,24] @ZaN ?_
  exact Zbo rfl rfl rfl rfl λw M=>PhRs.zero M.ext
 have hl512:l.length<=512:=(Zbd.1 hv).1
 cases htm:Zag now
 ·refine gQ 2 rfl ?_
  refine Zai rfl rfl λb7=>Zai rfl rfl λb9=>?_
  refine W4 [8,0,2,0,0,0,3] (T2 @ZaN @ZaM) ?_
  refine Zah 26 rfl (λh1=>?_) (λh1=>?_)
  ·replace h1:=Zaa h1
   exact gQ 19 rfl (Zbo rfl rfl rfl rfl λw M=>PhRs.zero M.ext)
  ·replace h1:=Zab h1
   refine W4 [0,0,3] @ZbI ?_
   refine Zah 31 rfl (λh2=>?_) (λh2=>?_)
   ·replace h2:=Zaa h2
    exact gQ 14 rfl (Zbo rfl rfl rfl rfl λw M=>PhRs.zero M.ext)
   ·replace h2:=Zab h2
    refine gQ 5 rfl (g_if rfl (λh3=>?_) (λh3=>?_))
    ·replace h3:=dqU h3
     exact vC0
    ·replace h3:=dqV h3
     refine W4 [6,0,3,0,8] @Zas ?_
     exact Zbo rfl rfl rfl rfl λw M=>PhRs.zero M.ext
 obtain⟨hn0,hn1⟩:=Zbt htm
 have hmk:=ZzQ t ht nb dd (Zaz now 10)
 refine gQ 2 rfl (Zai rfl rfl λb7=>Zai rfl rfl λb9=>?_)
 refine W4 [8,0,2,0,0,0,3] (T2 @ZaN @ZaM) ?_
 refine Zah 26 rfl (λh1=>?_) (λh1=>?_)
 ·replace h1:=Zaa h1
  exact gQ 19 rfl (Zbo rfl rfl rfl rfl λw M=>PhRs.zero M.ext)
 replace h1:=Zab h1
 refine W4 [0,0,3] @ZbI ?_
 refine Zah 31 rfl (λh2=>?_) (λh2=>?_)
 ·replace h2:=Zaa h2
  exact gQ 14 rfl (Zbo rfl rfl rfl rfl λw M=>PhRs.zero M.ext)
 replace h2:=Zab h2
 refine gQ 5 rfl (g_if rfl (λh3=>?_) (λh3=>?_))
 ·replace h3:=dqU h3
  exact vC0
 replace h3:=dqV h3
 refine W4 [6,0,3,0,3,1007,0,1,0,1,0,0] (T2 @Zas @ZcS) ?_
 refine ZwF λb12=>?_
 refine W3 [0,10,0,13] ?_
 refine Zba (Zau (ι:=Nat×Bool×(List RouV)×Value×EN) ⟨λ(i,d,out,u,es)=>l.length-i,λ(i,d,out,u,es)=>i<=l.length/\(OwnS 76 39 u out.length (rosC out) es)/\(∀y∈out,IsRo y)/\(out.length<=i+d.toNat),λ(i,d,out,u,es)=>[(49, .int .i64 i),(48, .int .i64 l.length),(47, .slice q l.length cap),(13,u),(14, .bool d),(0, .slice q l.length cap),(12, .pointer (some ⟨b12,0,none⟩))],λ(i,d,out,u,es)=>[es,[(b12, .cells (roC ⟨t,nb,dd,Zaz now 10⟩).toArray 76 (0,0))]]⟩ (0,(decide (dd.met=65535)),[],_,[]) ⟨Q0,OwnS.nilL _ _ _,λy hy=>(List.not_mem_nil hy).elim,by simp⟩ (λa F=>F.only [49,48,47,13,14,0,12] rfl) Qa ?_)
 rintro⟨i,d,out,u,es⟩ ⟨hi_i,hOs,hI,hol⟩
 dsimp only
 by_cases hlt_i:i<l.length
 ·obtain⟨b,o,cs,t',fz,rfl,hb,hs⟩:=hm Q0
  obtain⟨x,hx0⟩:∃x,x=l[i]:=⟨_,rfl⟩
  have hxm:x∈l:=by rw[hx0];exact List.getElem_mem hlt_i
  have hxi:IsRo x:=hx _ hxm
  have f1:seg cs (o+(i:Int).toNat*39) 39=some (roC x):=by rw[hx0];exact Zal (Zbw hx) hs hlt_i Q0
  have xd:IsDv x.to:=hxi.1
  have hol3:out.length<=i+1:=by cases d<;>simp at hol<;>omega
  have hol4:(out++[(⟨t,nb,dd,Zaz now 10⟩:RouV)]).length=out.length+1:=by simp
  have hol0:d=false->out.length<=i:=λh=>by rw[h] at hol;simpa using hol
  refine W3 [6,0,6,0,0] ?_
  refine Zac λb16=>?_
  refine W4 [0,4,0,0,0,9] @ZiX ?_
  refine Zah 58 rfl (λh1=>?_) (λh1=>?_)
  ·replace h1:=dqU h1
   refine gQ 5 rfl (g_if rfl (λh2=>?_) (λh2=>?_))
   ·replace h2:=Zaa h2
    refine W3 [3,0] ?_
    refine g_bs rfl rfl rfl (ZcK Qd) (λb64=>?_)
    refine ZaY 2 0 (enc:=roC) rfl rfl Qd rfl rfl (Zdy Qd) Q4 (λ_=>rfl) (λv65 es65 hO65=>?_) (Zd1 _)
    refine gQ 13 rfl (g_if rfl (λh3=>?_) (λh3=>?_))
    ·replace h3:=Zbx h3
     refine W3 [2,0] ?_
     refine g_bs rfl rfl rfl (ZcK Qd) (λb70=>?_)
     refine ZaY 3 0 (enc:=roC) rfl rfl Qd rfl rfl (Zdy Qd) Q4 (λ_=>rfl) (λv71 es71 hO71=>?_) (Zd1 _)
     refine W3 [5,0,2] ?_
     exact yN (i+1,true,(out++[⟨t,nb,dd,Zaz now 10⟩])++[x],_,_) ⟨by dsimp only;omega,by assumption,ZbW (ZbW hI nwI) hxi,by first|(simp;omega)|(have:=hol0 Qd;simp;omega)⟩
    ·replace h3:=ZaJ h3
     refine W3 [4,0,2] ?_
     exact yN (i+1,true,out++[⟨t,nb,dd,Zaz now 10⟩],_,_) ⟨by dsimp only;omega,by assumption,ZbW hI nwI,by first|(simp;omega)|(have:=hol0 Qd;simp;omega)⟩
   ·replace h2:=Zab h2
    refine gQ 8 rfl (g_if rfl (λh3=>?_) (λh3=>?_))
    ·replace h3:=Zbx h3
     refine W3 [2,0] ?_
     refine g_bs rfl rfl rfl (ZcK Qd) (λb70=>?_)
     refine ZaY 2 0 (enc:=roC) rfl rfl Qd rfl rfl (Zdy Qd) Q4 (λ_=>rfl) (λv71 es71 hO71=>?_) (Zd1 _)
     exact vAj
    ·exact vAS
  ·replace h1:=dqV h1
   refine W3 [14,0,2,0] ?_
   refine g_bs rfl rfl rfl (ZcK Qd) (λb70=>?_)
   refine ZaY 2 0 (enc:=roC) rfl rfl Qd rfl rfl (Zdy Qd) Q4 (λ_=>rfl) (λv71 es71 hO71=>?_) (Zd1 _)
   exact vAj
 ·have hli:i=l.length:=by omega
  have hol3:out.length<=i+1:=by cases d<;>simp at hol<;>omega
  obtain⟨q4,c4,rfl,hq4⟩:=Zbr hOs
  have hol0:d=false->out.length<=i:=λh=>by rw[h] at hol;simpa using hol
  refine W3 [6,0,2,0,9] ?_
  refine g_if rfl (λh1=>?_) (λh1=>?_)
  ·replace h1:=Zaa h1
   refine W3 [2,0] ?_
   refine g_bs rfl rfl rfl (ZcK Qd) (λb77=>?_)
   refine ZaY 1 0 (enc:=roC) rfl rfl Qd rfl rfl (Zdy Qd) Q4 (λ_=>rfl) (λv78 es78 hO78=>?_) (Zd1 _)
   refine W3 [7,0,3] ?_
   refine g_if rfl (λh2=>?_) (λh2=>?_)
   ·replace h2:=dqU h2
    exact vC0
   ·replace h2:=dqV h2
    exact gQ 10 rfl (Zbo rfl rfl rfl rfl λw M=>⟨_,out++[⟨t,nb,dd,Zaz now 10⟩],0,_,rfl,by assumption,ZbW hI nwI,Q0,M.sub (List.sublist_flatten_of_mem Q5)⟩)
  ·replace h1:=Zab h1
   refine gQ 10 rfl (g_if rfl (λh2=>?_) (λh2=>?_))
   ·replace h2:=dqU h2
    exact vC0
   ·exact vBZ
theorem Zx9(l:List InsV)(hx:∀x∈l,IsIn x)(hl:l.length<=1000)(v:Value)(y:InsV)(nwI:IsIn y)(W:World)(hS:SlAt W 40 v l.length (insC l)):Cal prog 145 [v, .agg (inC y).toArray].toArray W λr w'=>∃(m:List InsV)(ent:EN),OwnS 74 40 r m.length (insC m) ent/\(∀y∈m,IsIn y)/\m.length<=l.length+1/\Mem [] W w' ent:=by
 obtain⟨q,cap,rfl,_⟩:=id hS
 have hm:=hS.memB [] Q5
 have yd:IsDv y.to:=nwI.1
 refine yS (n:=45) Tryz.func145 rfl rfl (gQ 2 rfl (Zai rfl rfl λb3=>gQ 22 rfl (Zba (Zau (ι:=Nat×Bool×(List InsV)×Value×EN) ⟨λ(i,d,out,u,es)=>l.length-i,λ(i,d,out,u,es)=>i<=l.length/\(OwnS 74 40 u out.length (insC out) es)/\(∀y∈out,IsIn y)/\(out.length<=i+d.toNat),λ(i,d,out,u,es)=>[(12, .int .i64 i),(11, .int .i64 l.length),(10, .slice q l.length cap),(5,u),(6, .bool d),(0, .slice q l.length cap),(3, .pointer (some ⟨b3,0,none⟩))],λ(i,d,out,u,es)=>[es,[(b3, .cells (inC y).toArray 74 (0,0))]]⟩ (0,false,[],_,[]) ⟨Q0,OwnS.nilL _ _ _,λy hy=>(List.not_mem_nil hy).elim,by simp⟩ (λa F=>F.only [12,11,10,5,6,0,3] rfl) Qa ?_))))
 rintro⟨i,d,out,u,es⟩ ⟨hi_i,hOs,hI,hol⟩
 dsimp only
 by_cases hlt_i:i<l.length
 ·obtain⟨b,o,cs,t',fz,rfl,hb,hs⟩:=hm Q0
  obtain⟨x,hx0⟩:∃x,x=l[i]:=⟨_,rfl⟩
  have hxm:x∈l:=by rw[hx0];exact List.getElem_mem hlt_i
  have hxi:IsIn x:=hx _ hxm
  have f1:seg cs (o+(i:Int).toNat*40) 40=some (inC x):=by rw[hx0];exact Zal (ZbU hx) hs hlt_i Q0
  have xd:IsDv x.to:=hxi.1
  have hol3:out.length<=i+1:=by cases d<;>simp at hol<;>omega
  have hol4:(out++[(y:InsV)]).length=out.length+1:=by simp
  have hol0:d=false->out.length<=i:=λh=>by rw[h] at hol;simpa using hol
  refine W3 [6,0,6,0,0] ?_
  refine Zac λb8=>?_
  refine W4 [0,5,0,1,0,0,9] @ZaR ?_
  refine Zah 23 rfl (λh1=>?_) (λh1=>?_)
  ·replace h1:=dqU h1
   refine gQ 5 rfl (g_if rfl (λh2=>?_) (λh2=>?_))
   ·replace h2:=Zaa h2
    refine W3 [3,0] ?_
    refine g_bs rfl rfl rfl (Zcw Qd) (λb29=>?_)
    refine ZaY 2 0 (enc:=inC) rfl rfl Qd rfl rfl (Zbu Qd) Q4 (λ_=>rfl) (λv30 es30 hO30=>?_) (ZcE _)
    refine gQ 13 rfl (g_if rfl (λh3=>?_) (λh3=>?_))
    ·replace h3:=Zbx h3
     refine W3 [2,0] ?_
     refine g_bs rfl rfl rfl (Zcw Qd) (λb35=>?_)
     refine ZaY 3 0 (enc:=inC) rfl rfl Qd rfl rfl (Zbu Qd) Q4 (λ_=>rfl) (λv36 es36 hO36=>?_) (ZcE _)
     refine W3 [5,0,2] ?_
     exact yN (i+1,true,(out++[y])++[x],_,_) ⟨by dsimp only;omega,by assumption,ZbW (ZbW hI nwI) hxi,by first|(simp;omega)|(have:=hol0 Qd;simp;omega)⟩
    ·replace h3:=ZaJ h3
     refine W3 [4,0,2] ?_
     exact yN (i+1,true,out++[y],_,_) ⟨by dsimp only;omega,by assumption,ZbW hI nwI,by first|(simp;omega)|(have:=hol0 Qd;simp;omega)⟩
   ·replace h2:=Zab h2
    refine gQ 8 rfl (g_if rfl (λh3=>?_) (λh3=>?_))
    ·replace h3:=Zbx h3
     refine W3 [2,0] ?_
     refine g_bs rfl rfl rfl (Zcw Qd) (λb35=>?_)
     refine ZaY 2 0 (enc:=inC) rfl rfl Qd rfl rfl (Zbu Qd) Q4 (λ_=>rfl) (λv36 es36 hO36=>?_) (ZcE _)
     exact vAj
    ·exact vAS
  ·replace h1:=dqV h1
   refine W3 [14,0,2,0] ?_
   refine g_bs rfl rfl rfl (Zcw Qd) (λb35=>?_)
   refine ZaY 2 0 (enc:=inC) rfl rfl Qd rfl rfl (Zbu Qd) Q4 (λ_=>rfl) (λv36 es36 hO36=>?_) (ZcE _)
   exact vAj
 ·have hli:i=l.length:=by omega
  have hol3:out.length<=i+1:=by cases d<;>simp at hol<;>omega
  obtain⟨q4,c4,rfl,hq4⟩:=Zbr hOs
  have hol0:d=false->out.length<=i:=λh=>by rw[h] at hol;simpa using hol
  refine W3 [6,0,2,0,9] ?_
  refine g_if rfl (λh1=>?_) (λh1=>?_)
  ·replace h1:=Zaa h1
   refine W3 [2,0] ?_
   refine g_bs rfl rfl rfl (Zcw Qd) (λb42=>?_)
   refine ZaY 1 0 (enc:=inC) rfl rfl Qd rfl rfl (Zbu Qd) Q4 (λ_=>rfl) (λv43 es43 hO43=>?_) (ZcE _)
   refine gQ 10 rfl (Zae rfl rfl rfl λw M=>?_)
   exact⟨out++[y],_,by assumption,ZbW hI nwI,by first|omega|(have:=hol0 Qd;simp;omega),M.sub (List.sublist_flatten_of_mem Q5)⟩
  ·replace h1:=Zab h1
   refine gQ 9 rfl (Zae rfl rfl rfl λw M=>?_)
   exact⟨out,_,by assumption,hI,by first|omega|(have:=hol0 Qd;simp;omega),M.sub (List.sublist_flatten_of_mem Q5)⟩
theorem vAA(h:p:=by
  rintro⟨u1,m1,c1,e1⟩ ⟨hO1,hI1,hl1⟩
  dsimp only[List.cons_append,List.nil_append] at hO1 hI1 hl1⊢
  refine gQ 13 rfl (g_if rfl (λh1=>?_) (λh1=>?_))
  ·replace h1:=dqU h1
   refine W3 [8,0,2] ?_
   exact yN (d-1,m1,_,_,_) ⟨by dsimp only;omega,by assumption,hI1,hl1⟩
  ·replace h1:=dqV h1
   refine W3 [5,0,2] ?_
   exact yN (d-1,out,_,_,_) ⟨by dsimp only;omega,by assumption,hI,hol⟩):p:=h
theorem vCC(h:p:=by
  refine W3 [7,0,2,0,9] ?_
  exact Zae rfl rfl rfl λw M=>⟨out,_,es,hOs,hI,hol,M.perm List.perm_append_comm⟩):p:=h
theorem Zoi{p:Option Addr}{len cap k:Nat}{xs:List Int}(now:Int)(hnow:0<=now/\now<=1099511627776)(W:World)(hT:Zbz W bt p len xs)(hb:W.heap[bt]? =some (tobj p len cap k)):Cal prog 60 [.pointer (some ⟨bt,0,none⟩), .int .i64 now].toArray W λr w'=>∃(l:List SrcV)(k':Nat)(ent:EN),OwnS 166 38 r l.length (srsC l) ent/\(∀x∈l,IsSr x)/\l.length<=256/\Mem [bt] W w' ((bt,tobj p len cap k')::ent):=by
 have n5:=Zbb xs k (n:=7) Q0
 refine Zcm (n:=31) [bt] hb Q5 Zbj Zbi Tryz.func60 rfl rfl rfl ?_
 refine W4 [14,0,4] @Za1 ?_
 refine Zba ?_
 refine Zau (ι:=Int×(List SrcV)×Value×EN×Nat) ⟨λ(d,out,u,es,k)=>d.toNat,λ(d,out,u,es,k)=>d<=7/\OwnS 166 38 u out.length (srsC out) es/\(∀y∈out,IsSr y)/\out.length<=256,λ(d,out,u,es,k)=>[(6, .int .i64 d),(5,u),(0, .pointer (some ⟨bt,0,none⟩)),(1, .int .i64 now)],λ(d,out,u,es,k)=>[es,[(bt,tobj p len cap k)]]⟩ (_,[],_,[],_) ⟨by first|omega|(dsimp only;omega),OwnS.nilL _ _ _,λy hy=>(List.not_mem_nil hy).elim,by simp⟩ (λa F=>F.only [6,5,0,1] rfl) Qa ?_
 clear n5
 rintro⟨d,out,u,es,k⟩ ⟨hd,hOs,hI,hol⟩
 dsimp only at hd hOs hI hol⊢
 by_cases hlt:0<d
 ·refine W3 [7,0,9] ?_
  refine ZaX (ι:=Int×Nat) 1 (λj=> .int .i64 j.1) (λj=>True) (λj=>tobj p len cap j.2) (λ_=>[]) rfl rfl rfl (λw M=>Cal.mono (Zc5 now hnow.1 hnow.2 w (hT.later M.ext) (M.at_ _ (Zak (i:=1) rfl))) λr w' h=>by
    obtain⟨x,k',q,_,N⟩:=h
    exact⟨(x,k'),q,trivial,by simpa using N⟩) (λ_=>rfl) ?_
  rintro⟨tm,k1⟩-
  dsimp only[List.nil_append]
  refine gQ 1 rfl ?_
  refine ZaX (ι:=DstV×Nat) 1 (λj=>dvV j.1) (λj=>IsDv j.1) (λj=>tobj p len cap j.2) (λ_=>[]) rfl rfl rfl (λw M=>Cal.mono (Zpi w (hT.later M.ext) (M.at_ _ (Zak (i:=1) rfl))) λr w' h=>by
    obtain⟨x,k',q,h1,_,N⟩:=h
    exact⟨(x,k'),q,h1,by simpa using N⟩) (λ_=>rfl) ?_
  rintro⟨x,k2⟩ xd
  dsimp only[List.nil_append] at xd⊢
  unfold dvV
  refine gQ 1 rfl ?_
  refine ZaX (ι:=DisV×Nat) 1 (λj=>diV j.1) (λj=>True) (λj=>tobj p len cap j.2) (λ_=>[]) rfl rfl rfl (λw M=>Cal.mono (Zkh w (hT.later M.ext) (M.at_ _ (Zak (i:=1) rfl))) λr w' h=>by
    obtain⟨x,k',q,_,N⟩:=h
    exact⟨(x,k'),q,trivial,by simpa using N⟩) (λ_=>rfl) ?_
  rintro⟨di,k3⟩-
  dsimp only[List.nil_append]
  unfold diV
  skip
  refine ZaU (ι:=Value×(List SrcV)×Int×EN) (λj=> .tuple #[j.1, .int .i64 j.2.2.1]) (λj=>OwnS 166 38 j.1 j.2.1.length (srsC j.2.1) j.2.2.2/\(∀y∈j.2.1,IsSr y)/\j.2.1.length<=256) (λj=>[j.2.2.2]) rfl rfl (λw M=>Cal.mono (Zx0 out hI u tm x xd di w (hOs.slAt M (λq hq=>List.mem_append_left _ hq))) λr w' h=>by
   obtain⟨u,m,c,ent,q,h1,h2,h3,N⟩:=h
   exact⟨(u,m,c,ent),q,⟨h1,h2,h3⟩,by simpa using N⟩) ?_
  exact vAA
 ·exact vCC
theorem ZpR{p:Option Addr}{len cap k:Nat}{xs:List Int}(now:Int)(hnow:0<=now/\now<=1099511627776)(W:World)(hT:Zbz W bt p len xs)(hb:W.heap[bt]? =some (tobj p len cap k)):Cal prog 61 [.pointer (some ⟨bt,0,none⟩), .int .i64 now].toArray W λr w'=>∃(l:List RouV)(k':Nat)(ent:EN),OwnS 76 39 r l.length (rosC l) ent/\(∀x∈l,IsRo x)/\l.length<=512/\Mem [bt] W w' ((bt,tobj p len cap k')::ent):=by
 have n5:=Zbb xs k (n:=10) Q0
 refine Zcm (n:=33) [bt] hb Q5 Zbj Zbi Tryz.func61 rfl rfl rfl ?_
 refine W4 [14,0,4] @Za1 ?_
 refine Zba ?_
 refine Zau (ι:=Int×(List RouV)×Value×EN×Nat) ⟨λ(d,out,u,es,k)=>d.toNat,λ(d,out,u,es,k)=>d<=10/\OwnS 76 39 u out.length (rosC out) es/\(∀y∈out,IsRo y)/\out.length<=512,λ(d,out,u,es,k)=>[(6, .int .i64 d),(5,u),(0, .pointer (some ⟨bt,0,none⟩)),(1, .int .i64 now)],λ(d,out,u,es,k)=>[es,[(bt,tobj p len cap k)]]⟩ (_,[],_,[],_) ⟨by first|omega|(dsimp only;omega),OwnS.nilL _ _ _,λy hy=>(List.not_mem_nil hy).elim,by simp⟩ (λa F=>F.only [6,5,0,1] rfl) Qa ?_
 clear n5
 rintro⟨d,out,u,es,k⟩ ⟨hd,hOs,hI,hol⟩
 dsimp only at hd hOs hI hol⊢
 by_cases hlt:0<d
 ·refine W3 [7,0,9] ?_
  refine ZaX (ι:=Int×Nat) 1 (λj=> .int .i64 j.1) (λj=>True) (λj=>tobj p len cap j.2) (λ_=>[]) rfl rfl rfl (λw M=>Cal.mono (Zc5 now hnow.1 hnow.2 w (hT.later M.ext) (M.at_ _ (Zak (i:=1) rfl))) λr w' h=>by
    obtain⟨x,k',q,_,N⟩:=h
    exact⟨(x,k'),q,trivial,by simpa using N⟩) (λ_=>rfl) ?_
  rintro⟨tm,k1⟩-
  dsimp only[List.nil_append]
  refine gQ 1 rfl ?_
  refine ZaX (ι:=DstV×Nat) 1 (λj=>dvV j.1) (λj=>IsDv j.1) (λj=>tobj p len cap j.2) (λ_=>[]) rfl rfl rfl (λw M=>Cal.mono (Zpi w (hT.later M.ext) (M.at_ _ (Zak (i:=1) rfl))) λr w' h=>by
    obtain⟨x,k',q,h1,_,N⟩:=h
    exact⟨(x,k'),q,h1,by simpa using N⟩) (λ_=>rfl) ?_
  rintro⟨x,k2⟩ xd
  dsimp only[List.nil_append] at xd⊢
  unfold dvV
  refine gQ 1 rfl ?_
  refine ZaX (ι:=Int×Nat) 1 (λj=> .int .u64 j.1) (λj=>True) (λj=>tobj p len cap j.2) (λ_=>[]) rfl rfl rfl (λw M=>Cal.mono (Zrj w (hT.later M.ext) (M.at_ _ (Zak (i:=1) rfl))) λr w' h=>by
    obtain⟨x,k',q,N⟩:=h
    exact⟨(x,k'),q,trivial,by simpa using N⟩) (λ_=>rfl) ?_
  rintro⟨nb,k3⟩-
  dsimp only[List.nil_append]
  refine gQ 1 rfl ?_
  refine ZaX (ι:=DisV×Nat) 1 (λj=>diV j.1) (λj=>True) (λj=>tobj p len cap j.2) (λ_=>[]) rfl rfl rfl (λw M=>Cal.mono (Zkh w (hT.later M.ext) (M.at_ _ (Zak (i:=1) rfl))) λr w' h=>by
    obtain⟨x,k',q,_,N⟩:=h
    exact⟨(x,k'),q,trivial,by simpa using N⟩) (λ_=>rfl) ?_
  rintro⟨di,k4⟩-
  dsimp only[List.nil_append]
  unfold diV
  skip
  refine ZaU (ι:=Value×(List RouV)×Int×EN) (λj=> .tuple #[j.1, .int .i64 j.2.2.1]) (λj=>OwnS 76 39 j.1 j.2.1.length (rosC j.2.1) j.2.2.2/\(∀y∈j.2.1,IsRo y)/\j.2.1.length<=512) (λj=>[j.2.2.2]) rfl rfl (λw M=>Cal.mono (ZsY out hI u tm x xd nb di w (hOs.slAt M (λq hq=>List.mem_append_left _ hq))) λr w' h=>by
   obtain⟨u,m,c,ent,q,h1,h2,h3,N⟩:=h
   exact⟨(u,m,c,ent),q,⟨h1,h2,h3⟩,by simpa using N⟩) ?_
  exact vAA
 ·exact vCC
section
variable {c:Cx} {fr:FN} {l:Row} {x:RX} {xs:List (Nat×XP)} {ty:TypeId} {pos:String} {af:Array Edge}
theorem ZvO(i:Nat){y z:Operand}{cs cs' vs:List Value}{l':Row} [hs:TAgg c.P t n](hx:Ev fr y=some (.pointer (some ⟨b,off,none⟩)))(hy:Ev fr z=some (.agg vs.toArray))(hn:vs.length=n)(h1:vs.all (·.oneCell')=true)(hl:nthO l i=some [(b, .cells cs.toArray t' (0,0))])(hp:put cs off vs=some cs')(hl':setO l i [(b, .cells cs'.toArray t' (0,0))]=some l')(hB:b∈x.B):
  OpF c x xs ⟨none, .store t y z,ty,pos,af,none⟩ fr l (λ_ r=>r=l'):=λa w F M _=>by
 have Mb:Mem [b] w w [(b, .cells cs.toArray t' (0,0))]:=⟨Ext.refl _ _,λp hp=>by simp at hp;subst hp;exact M.at_ _ (Zak hl),by simp,λp hp=> .inl (by simp at hp;subst hp;simp)⟩
 refine Zap Mb (F.e hx) (F.e hy) hn h1 .here hp .here λw' M'=>?_
 exact⟨M'.ext.mono λk hk=>by simp at hk;subst hk;exact hB,l',rfl,M.turned (ZeK hl hl') M'.ext (M'.heap .here)⟩
end
theorem ZxS{a b c d:EN}:([a,b,c,d]:Row).flatten.Perm (([b]:Row).flatten++([a,c,d]:Row).flatten):=vAo
theorem Zk6{p:Option Addr}{len cap k:Nat}{xs:List Int}(now:Int)(hnow:0<=now/\now<=1099511627776)(rl:List RouV)(hrx:∀x∈rl,IsRo x)(hrl:rl.length<=1000)(v:Value)(W:World)(hS:SlAt W 39 v rl.length (rosC rl))(hv:NewV (bt+1) v)(hT:Zbz W bt p len xs)(hb:W.heap[bt]? =some (tobj p len cap k)):Cal prog 62 [.pointer (some ⟨bt,0,none⟩), .int .i64 now,v].toArray W λr w'=>∃(l:List InsV)(k':Nat)(ent:EN),OwnS 74 40 r l.length (insC l) ent/\(∀x∈l,IsIn x)/\l.length<=7/\Mem [bt] W w' ((bt,tobj p len cap k')::ent):=by
 obtain⟨qr,cr,rfl,_⟩:=id hS
 have hm:=hS.memB [bt] (λb o s e hb=>by have:=hv b o s _ _ (by rw[e]);simp at hb;omega)
 have n5:=Zbb xs k (n:=8) Q0
 refine Zcm (n:=65) [bt] hb Q5 Zbj Zbi Tryz.func62 rfl rfl rfl ?_
 refine W4 [14,0,4] @Za1 ?_
 refine Zba ?_
 refine Zau (ι:=Int×(List InsV)×Value×EN×Nat) ⟨λ(d,out,u,es,k)=>d.toNat,λ(d,out,u,es,k)=>0<=d/\d<=7/\OwnS 74 40 u out.length (insC out) es/\(∀y∈out,IsIn y)/\(out.length:Int)+d<=7,λ(d,out,u,es,k)=>[(8, .int .i64 d),(7,u),(0, .pointer (some ⟨bt,0,none⟩)),(1, .int .i64 now),(2, .slice qr rl.length cr)],λ(d,out,u,es,k)=>[es,[(bt,tobj p len cap k)]]⟩ (_,[],_,[],_) ⟨by first|omega|(dsimp only;omega),by first|omega|(dsimp only;omega),OwnS.nilL _ _ _,λy hy=>(List.not_mem_nil hy).elim,by first|(simp;omega)|(dsimp only;simp;omega)⟩ (λa F=>F.only [8,7,0,1,2] rfl) Qa ?_
 clear n5
 rintro⟨d,out,u,es,k⟩ ⟨hd0,hd,hOs,hI,hol⟩
 dsimp only at hd0 hd hOs hI hol⊢
 by_cases hlt:0<d
 ·refine W3 [7,0,7] ?_
  refine ZaX (ι:=DstV×Nat) 1 (λj=>dvV j.1) (λj=>IsDv j.1) (λj=>tobj p len cap j.2) (λ_=>[]) rfl rfl rfl (λw M=>Cal.mono (Zpi w (hT.later M.ext) (M.at_ _ (Zak (i:=1) rfl))) λr w' h=>by
    obtain⟨x,k',q,h1,_,N⟩:=h
    exact⟨(x,k'),q,h1,by simpa using N⟩) (λ_=>rfl) ?_
  rintro⟨x,k2⟩ xd
  dsimp only[List.nil_append] at xd⊢
  unfold dvV
  refine gQ 1 rfl ?_
  refine ZaX (ι:=Int×Nat) 1 (λj=> .int .u64 j.1) (λj=>True) (λj=>tobj p len cap j.2) (λ_=>[]) rfl rfl rfl (λw M=>Cal.mono (Zrj w (hT.later M.ext) (M.at_ _ (Zak (i:=1) rfl))) λr w' h=>by
    obtain⟨x,k',q,N⟩:=h
    exact⟨(x,k'),q,trivial,by simpa using N⟩) (λ_=>rfl) ?_
  rintro⟨nb,k3⟩-
  dsimp only[List.nil_append]
  refine gQ 1 rfl ?_
  refine ZaX (ι:=DisV×Nat) 1 (λj=>diV j.1) (λj=>True) (λj=>tobj p len cap j.2) (λ_=>[]) rfl rfl rfl (λw M=>Cal.mono (Zkh w (hT.later M.ext) (M.at_ _ (Zak (i:=1) rfl))) λr w' h=>by
    obtain⟨x,k',q,_,N⟩:=h
    exact⟨(x,k'),q,trivial,by simpa using N⟩) (λ_=>rfl) ?_
  rintro⟨di,k4⟩-
  dsimp only[List.nil_append]
  unfold diV
  have hmk:=Zz9 x xd nb di (-1) 0
  have y0:IsIn ⟨x,nb,di,-1,0⟩:=⟨xd,trivial⟩
  refine g_v (λa w F M R r=>Zaq F rfl (ZyR _ Qd _ _ _) r) ?_
  refine Zac λb9=>?_
  refine W3 [0,3] ?_
  refine Zc0 (ι:=InsV×Nat) ⟨λ(y,k)=>IsIn y,λ(y,k)=>[(9, .pointer (some ⟨b9,0,none⟩)),(8, .int .i64 d),(7,u),(0, .pointer (some ⟨bt,0,none⟩)),(1, .int .i64 now),(2, .slice qr rl.length cr)],λ(y,k)=>[[(b9, .cells (inC y).toArray 74 (0,0))],es,[(bt,tobj p len cap k)]]⟩ ?_ ?_
  ·by_cases hr:0<rl.length
   ·obtain⟨br,orr,csr,tr,fzr,rfl,hbr,hsr⟩:=hm hr
    refine W4 [6,0,1,0,3] @Zhl ?_
    refine g_if rfl (λh1=>?_) (λh1=>?_)
    focus
     replace h1:=dqU h1
     refine gQ 6 rfl ?_
    rotate_left 1
    focus
     replace h1:=dqV h1
     exact gQ 1 rfl (yJ (⟨x,nb,di,-1,0⟩,_) y0)
    refine ZaX (ι:=Int×Nat) 2 (λj=> .int .i64 j.1) (λj=>0<=j.1/\j.1<rl.length) (λj=>tobj p len cap j.2) (λ_=>[]) rfl rfl rfl (λw M=>Cal.mono (Za1 (rl.length:Int) Q0 Q0 w (hT.later M.ext) (M.at_ _ (Zak (i:=2) rfl))) λr w2 h=>⟨(_,_),h.1,Zbb xs _ Q0,by simpa using h.2⟩) (λ_=>rfl) ?_
    rintro⟨j,k5⟩ ⟨j0,j1⟩
    dsimp only[List.nil_append] at j0 j1⊢
    obtain⟨z,hz⟩:∃z,z=rl[j.toNat]'Q0:=⟨_,rfl⟩
    have zI:IsRo z:=by rw[hz];exact hrx _ (List.getElem_mem _)
    have fz1:seg csr (orr+j.toNat*39) 39=some (roC z):=by rw[hz];exact Zal (Zbw hrx) hsr Q0 Q0
    have zd:IsDv z.to:=zI.1
    have y1:IsIn ⟨z.to,nb,di,-1,0⟩:=⟨zd,trivial⟩
    refine W3 [0,0] ?_
    refine Zac λb10=>?_
    refine W3 [0,3] ?_
    refine ZfX 6 65 [b9] [5] [] [[(b9, .cells (inC ⟨x,nb,di,-1,0⟩).toArray 74 (0,0))]] [[(b10, .cells (roC z).toArray 76 (0,0))],es,[(bt,tobj p len cap k5)]] rfl Q7 ZxS Q5 (Ze1 ?_)
    refine Zaw 60 rfl (fe_v (λa2 w F M R r=>ZbM (F.e rfl) (M.at_ _ (Zak (i:=0) rfl)) (ZfR zI) r) (Zaw 60 rfl (fe_v (λa2 w F M R r=>ZcB (F.e rfl) (M.at_ _ (Zak (i:=0) rfl)) (ZkK zI) r) (Zaw 60 rfl (Zy1 (λ_=>[[(b10, .cells (roC z).toArray 76 (0,0))],[(b9, .cells (inC ⟨z.to,nb,di,-1,0⟩).toArray 74 (0,0))],es,[(bt,tobj p len cap k5)]]) [] (λi hi=>?_) ?_)))))
    ·exact ZvO 1 rfl rfl (Zbl zd) (Zek _) rfl (ZqT y0 zd) rfl (.head _)
    refine Zis rfl (by rintro i _ q hq;simp at hq) ?_
    rintro _ _
    refine⟨_,rfl,?_⟩
    refine gQ 1 rfl (Zgy 1 rfl rfl rfl rfl (Zk7 Qd _) rfl ?_)
    exact gQ 1 rfl (yJ (⟨z.to,z.nb,di,-1,0⟩,_) ⟨zd,trivial⟩)
   ·refine W3 [6,0,7] ?_
    exact yJ (⟨x,nb,di,-1,0⟩,_) y0
  rintro⟨y,k5⟩ yI
  dsimp only at yI⊢
  have n3:=Zbb xs k5 (n:=3) Q0
  refine W4 [5,0,3] @Za1 ?_
  refine Zc0 (ι:=InsV×Nat) ⟨λ(y,k)=>IsIn y,λ(y,k)=>[(9, .pointer (some ⟨b9,0,none⟩)),(8, .int .i64 d),(7,u),(0, .pointer (some ⟨bt,0,none⟩)),(1, .int .i64 now),(2, .slice qr rl.length cr)],λ(y,k)=>[[(b9, .cells (inC y).toArray 74 (0,0))],es,[(bt,tobj p len cap k)]]⟩ ?_ ?_
  ·refine gQ 6 rfl ?_
   refine g_if rfl (λh1=>?_) (λh1=>?_)
   focus
    replace h1:=dqU h1
    refine gQ 3 rfl ?_
   rotate_left 1
   focus
    replace h1:=dqV h1
    refine gQ 6 rfl (g_if rfl (λh2=>?_) (λh2=>?_))
    focus
     replace h2:=dqU h2
     refine gQ 3 rfl ?_
    rotate_left 1
    focus
     replace h2:=dqV h2
     exact gQ 1 rfl (yJ (y,_) yI)
   rotate_right 1
   ·refine ZaX (ι:=Int×Nat) 2 (λj=> .int .i64 j.1) (λj=>True) (λj=>tobj p len cap j.2) (λ_=>[]) rfl rfl rfl (λw M=>Cal.mono (Zc5 now hnow.1 hnow.2 w (hT.later M.ext) (M.at_ _ (Zak (i:=2) rfl))) λr w' h=>by
      obtain⟨x,k',q,_,N⟩:=h
      exact⟨(x,k'),q,trivial,by simpa using N⟩) (λ_=>rfl) ?_
    rintro⟨tm,k6⟩-
    dsimp only[List.nil_append]
    refine gQ 1 rfl (Zgy 0 rfl rfl rfl rfl (ZoK Qd _) rfl ?_)
    exact gQ 1 rfl (yJ ({y with btn:=tm},_) yI)
   ·refine ZaX (ι:=Int×Nat) 2 (λj=> .int .i64 j.1) (λj=>True) (λj=>tobj p len cap j.2) (λ_=>[]) rfl rfl rfl (λw M=>Cal.mono (Zc5 now hnow.1 hnow.2 w (hT.later M.ext) (M.at_ _ (Zak (i:=2) rfl))) λr w' h=>by
      obtain⟨x,k',q,_,N⟩:=h
      exact⟨(x,k'),q,trivial,by simpa using N⟩) (λ_=>rfl) ?_
    rintro⟨tm,k6⟩-
    dsimp only[List.nil_append]
    refine gQ 1 rfl (Zgy 0 rfl rfl rfl rfl (Zk7 Qd _) rfl ?_)
    refine gQ 2 rfl (Zgy 0 rfl rfl rfl rfl (ZiH Qd _) rfl ?_)
    refine gQ 1 rfl (Zgy 0 rfl rfl rfl rfl (ZoI Qd _) rfl ?_)
    exact gQ 1 rfl (yJ ({y with nb:=0,own:= {y.own with met:=65535},til:=tm},_) ⟨yI.1,trivial⟩)
  rintro⟨y,k6⟩ yI
  dsimp only at yI⊢
  refine W3 [4,0] ?_
  refine ZaU (ι:=Value×(List InsV)×EN) (λj=>j.1) (λj=>OwnS 74 40 j.1 j.2.1.length (insC j.2.1) j.2.2/\(∀y∈j.2.1,IsIn y)/\j.2.1.length<=out.length+1) (λj=>[j.2.2]) rfl rfl (λw M=>Cal.mono (Zx9 out hI Q0 u y yI w (hOs.slAt M (λq hq=>by simp[hq]))) λr w' h=>by
   obtain⟨m,ent,h1,h2,h3,N⟩:=h
   exact⟨(r,m,ent),rfl,⟨h1,h2,h3⟩,by simpa using N⟩) ?_
  rintro⟨u1,m1,e1⟩ ⟨hO1,hI1,hl1⟩
  dsimp only[List.cons_append,List.nil_append] at hO1 hI1 hl1⊢
  refine W3 [6,0,2] ?_
  exact yN (d-1,m1,_,_,_) ⟨by dsimp only;omega,by dsimp only;omega,by assumption,hI1,by dsimp only;omega⟩
 ·refine W3 [7,0,2,0,9] ?_
  exact Zae rfl rfl rfl λw M=>⟨out,_,es,hOs,hI,Q0,M.perm List.perm_append_comm⟩
theorem ZuT{p:Option Addr}{len cap k:Nat}{xs:List Int}(l:List AdvV)(hx:∀x∈l,IsAv x)(hlen:l.length<=100000)(v:Value)(W:World)(hS:SlAt W 37 v l.length (avsC l))(hnb:∀b o s k c,v= .slice (some ⟨b,o,s⟩) k c->b∉[bt])(hT:Zbz W bt p len xs)(hb:W.heap[bt]? =some (tobj p len cap k)):Cal prog 64 [.pointer (some ⟨bt,0,none⟩),v].toArray W λr w'=>∃(m:List AdvV)(k':Nat)(ent:EN),OwnS 100 37 r m.length (avsC m) ent/\(∀x∈m,IsAv x)/\m.length<=l.length/\Mem [bt] W w' ((bt,tobj p len cap k')::ent):=by
 obtain⟨q,qc,rfl,_⟩:=id hS
 have hm:=hS.memB [bt] (λb o s e=>hnb b o s _ _ (by rw[e]))
 refine Zcm (n:=33) [bt] hb Q5 Zbj Zbi Tryz.func64 rfl rfl rfl (gQ 19 rfl (Zba ?_))
 refine Zau (ι:=Nat×(List AdvV)×Value×EN×Nat) ⟨λ(i,out,u,es,k)=>l.length-i,λ(i,out,u,es,k)=>i<=l.length/\OwnS 100 37 u out.length (avsC out) es/\(∀y∈out,IsAv y)/\out.length<=i,λ(i,out,u,es,k)=>[(10, .int .i64 i),(9, .int .i64 l.length),(8, .slice q l.length qc),(5,u),(0, .pointer (some ⟨bt,0,none⟩))],λ(i,out,u,es,k)=>[es,[(bt,tobj p len cap k)]]⟩ (0,[],_,[],_) ⟨by first|omega|(dsimp only;omega),OwnS.nilL _ _ _,λy hy=>(List.not_mem_nil hy).elim,by simp⟩ (λa F=>F.only [10,9,8,5,0] rfl) Qa ?_
 rintro⟨i,out,u,es,k⟩ ⟨hi,hOs,hI,hol⟩
 dsimp only at hi hOs hI hol⊢
 by_cases hlt:i<l.length
 ·obtain⟨b,o,cs,t',fz,rfl,hbw,hs⟩:=hm Q0
  obtain⟨y,hy0⟩:∃y,y=l[i]:=⟨_,rfl⟩
  have hyi:IsAv y:=by rw[hy0];exact hx _ (List.getElem_mem hlt)
  have f1:seg cs (o+(i:Int).toNat*37) 37=some (avC y):=by rw[hy0];exact Zal (ZbV hx) hs hlt Q0
  clear hy0
  have n5:=Zbb xs k (n:=5) Q0
  refine W3 [6,0,6,0,0] ?_
  refine Zac λb7=>?_
  refine W4 [0,6,0,3] @Za1 ?_
  refine Zc0 (ι:=AdvV×Nat) ⟨λ(x,k)=>IsAv x,λ(x,k)=>[(7, .pointer (some ⟨b7,0,none⟩)),(10, .int .i64 i),(9, .int .i64 l.length),(8, .slice (some ⟨b,o,none⟩) l.length qc),(5,u),(0, .pointer (some ⟨bt,0,none⟩))],λ(x,k)=>[[(b7, .cells (avC x).toArray 100 (0,0))],es,[(bt,tobj p len cap k)]]⟩ ?_ ?_
  ·refine gQ 6 rfl ?_
   refine g_if rfl (λh1=>?_) (λh1=>?_)
   ·replace h1:=dqU h1
    refine W3 [1,0,5,0,2] ?_
    exact yN (i+1,out,_,_,_) ⟨by dsimp only;omega,hOs,hI,by dsimp only;omega⟩
   replace h1:=dqV h1
   refine gQ 6 rfl (g_if rfl (λh2=>?_) (λh2=>?_))
   focus
    replace h2:=dqU h2
    refine gQ 2 rfl ?_
   rotate_left 1
   focus
    replace h2:=dqV h2
    refine gQ 6 rfl (g_if rfl (λh3=>?_) (λh3=>?_))
    ·replace h3:=dqU h3
     refine gQ 3 rfl (Zgy 0 rfl rfl rfl rfl (ZfO Qd _) rfl ?_)
     exact gQ 1 rfl (yJ ({y with own:= {y.own with met:=65535}},_) ⟨hyi.1,trivial⟩)
    ·replace h3:=dqV h3
     exact gQ 1 rfl (yJ (y,_) hyi)
   refine ZaX (ι:=DisV×Nat) 2 (λj=>diV j.1) (λj=>True) (λj=>tobj p len cap j.2) (λ_=>[]) rfl rfl rfl (λw M=>Cal.mono (Zkh w (hT.later M.ext) (M.at_ _ (Zak (i:=2) rfl))) λr w' h=>by
     obtain⟨x,k',q,_,N⟩:=h
     exact⟨(x,k'),q,trivial,by simpa using N⟩) (λ_=>rfl) ?_
   rintro⟨di,k2⟩-
   dsimp only[List.nil_append]
   unfold diV
   refine gQ 1 rfl (Zdf 0 rfl rfl (ZbE trivial) (Ze8 _) rfl (ZoV Qd trivial) rfl ?_)
   exact gQ 1 rfl (yJ ({y with own:=di},_) ⟨hyi.1,trivial⟩)
  rintro⟨x,k2⟩ xI
  dsimp only at xI⊢
  refine W3 [4,0] ?_
  refine g_bs rfl rfl rfl (ZbS Qd) (λb29=>?_)
  refine ZaY 2 0 (enc:=avC) rfl rfl Qd rfl rfl (Zcy Qd) Q4 (λ_=>rfl) (λv30 es30 hO30=>?_) (Zco _)
  refine W3 [5,0,2] ?_
  exact yN (i+1,out++[x],_,_,_) ⟨by dsimp only;omega,by assumption,ZbW hI xI,by simp;omega⟩
 ·refine W3 [6,0,2,0,9] ?_
  exact Zae rfl rfl rfl λw M=>⟨out,_,es,hOs,hI,Q0,M.perm List.perm_append_comm⟩
end
section
def AtE(sz:Nat)(v:Value)(n:Nat)(xs:List Value)(ent:EN):Prop:=
 ∃p cap,v= .slice p n cap/\n<=cap/\xs.length=n*sz/\(0<n->∃b o cs t fz,p=some ⟨b,o,none⟩/\ent=[(b, .cells (List.toArray cs) t fz)]/\seg cs o (n*sz)=some xs)
theorem AtE.slAt(h:AtE sz v n xs ent)(hat:∀p∈ent,w.heap[p.1]? =some p.2):SlAt w sz v n xs:=by
 obtain⟨p,cap,h1,h2,h3,h4⟩:=h
 refine⟨p,cap,h1,h2,λ_ _=>trivial,h3,λhn=>?_⟩
 obtain⟨b,o,cs,t,fz,h5,rfl,h6⟩:=h4 hn
 exact⟨b,o,cs,t,fz,h5,hat _ List.mem_cons_self,h6⟩
theorem OwnS.atE{e:TypeId}(h:OwnS e sz v n xs ent):AtE sz v n xs ent:=by
 rcases h with⟨rfl,rfl,rfl,rfl⟩|⟨b,cap,junk,rfl,rfl,hxl,hjl,hnc⟩
 ·exact⟨none,0,rfl,Nat.le_refl _,by simp,λh=>absurd h Q0⟩
 ·exact⟨_,cap,rfl,hnc,hxl,λ_=>⟨b,0,_,e,_,rfl,rfl,by rw[<-hxl];simpa using ZfG [] xs junk⟩⟩
attribute [local irreducible] OpTo wpListIn Code.wpIn MW Cal
structure RtA(s:RtV)(x:RtX)(e:RtE):Prop where
 og:AtE 34 x.og s.og.length (ogsC s.og) e.og
 aj:AtE 8 x.aj s.aj.length (ajsC s.aj) e.aj
 sr:AtE 38 x.sr s.sr.length (srsC s.sr) e.sr
 ro:AtE 39 x.ro s.ro.length (rosC s.ro) e.ro
 ins:AtE 40 x.ins s.ins.length (insC s.ins) e.ins
 rq:AtE 40 x.rq s.rq.length (rqsC s.rq) e.rq
 av:AtE 37 x.av s.av.length (avsC s.av) e.av
theorem RtA.at_{x:RtX}{e:RtE}(h:RtA s x e)(hs:∀p∈e.row.flatten,w.heap[p.1]? =some p.2):RtAt w s x:=
 ⟨h.og.slAt λq hq=>hs q (List.mem_flatten_of_mem (by simp[RtE.row]) hq),h.aj.slAt λq hq=>hs q (List.mem_flatten_of_mem (by simp[RtE.row]) hq),h.sr.slAt λq hq=>hs q (List.mem_flatten_of_mem (by simp[RtE.row]) hq),h.ro.slAt λq hq=>hs q (List.mem_flatten_of_mem (by simp[RtE.row]) hq),h.ins.slAt λq hq=>hs q (List.mem_flatten_of_mem (by simp[RtE.row]) hq),h.rq.slAt λq hq=>hs q (List.mem_flatten_of_mem (by simp[RtE.row]) hq),h.av.slAt λq hq=>hs q (List.mem_flatten_of_mem (by simp[RtE.row]) hq)⟩
end
section
attribute [local irreducible] OpTo wpListIn Code.wpIn MW Cal
theorem Zv4{x y:AdvV}{l t:List AdvV}(e:x.to=y.to):mrg full (x::l) (y::t)=(if full|| !decide (y.own=x.own) then [x] else [])++mrg full l t:=by
 rw[mrg,if_pos e]
theorem ZyE{x y:AdvV}{l t:List AdvV}(e:x.to≠y.to)(h:cmpD x.to y.to<0):mrg full (x::l) (y::t)=(if full|| !decide (x.own.met=inf) then [x] else [])++mrg full l (y::t):=by
 rw[mrg,if_neg e,if_pos h]
theorem ZyF{x y:AdvV}{l t:List AdvV}(e:x.to≠y.to)(h:¬cmpD x.to y.to<0):mrg full (x::l) (y::t)=(if decide (y.own.met=inf) then [] else [retr y])++mrg full (x::l) t:=by
 rw[mrg,if_neg e,if_neg h]
theorem Zz1:mrg full (x::l) []=(if full|| !decide (x.own.met=inf) then [x] else [])++mrg full l []:=by
 rw[mrg]
theorem Zz2{y:AdvV}{t:List AdvV}:mrg full [] (y::t)=(if decide (y.own.met=inf) then [] else [retr y])++mrg full [] t:=by
 rw[mrg]
def x0:AdvV:=⟨⟨[],0,[],0,0⟩,⟨0,0⟩⟩
def LoK(T l:List AdvV)(i k:Nat):Prop:=∀j(hj:j<T.length)i'(hi:i'<l.length),j<k->i<=i'->cmpD T[j].to l[i'].to<0
theorem ZrI(h:AscA l){i j:Nat}(hi:i<l.length)(hj:j<l.length)(hij:i<j):cmpD l[i].to l[j].to<0:=List.pairwise_iff_getElem.1 h i j hi hj hij
theorem LoK.next(h:LoK T l i k):LoK T l (i+1) k:=λj hj i' hi h1 h2=>h j hj i' hi h1 Q0
theorem LoK.both(h:LoK T l i k)(hl:AscA l)(hi:i<l.length)(hk:k<T.length)(e:T[k].to=l[i].to):LoK T l (i+1) (k+1):=λj hj i' hi' h1 h2=>by
 rcases Nat.lt_or_ge j k with h3|h3
 ·exact h j hj i' hi' h3 Q0
 ·obtain rfl:j=k:=by omega
  rw[e]
  exact ZrI hl hi hi' Q0
theorem LoK.skip(h:LoK T l i k)(hl:AscA l)(hk:k<T.length)(hlt:∀hi:i<l.length,cmpD T[k].to l[i].to<0):LoK T l i (k+1):=λj hj i' hi' h1 h2=>by
 rcases Nat.lt_or_ge j k with h3|h3
 ·exact h j hj i' hi' h3 h2
 ·obtain rfl:j=k:=by omega
  rcases Nat.lt_or_ge i i' with h4|h4
  ·exact Za6 (hlt Q0) (ZrI hl Q0 hi' h4)
  ·obtain rfl:i=i':=by omega
   exact hlt hi'
theorem Zxy(hT:AscA T)(iT:∀x∈T,IsDv x.to)(il:∀x∈l,IsDv x.to)(hL:LoK T l i k)(hi:i<l.length)(hkT:k<=T.length)(h:k=T.length∨∃hk:k<T.length,cmpD l[i].to T[k].to<=0):
  (∃hk:k<T.length,T[k].to=l[i].to/\getO T l[i].to=some T[k].own/\mrg full (l.drop i) (T.drop k)=(if Zb3 full T l[i] then [l[i]] else [])++mrg full (l.drop (i+1)) (T.drop (k+1)))∨
  (getO T l[i].to=none/\mrg full (l.drop i) (T.drop k)=(if Zb3 full T l[i] then [l[i]] else [])++mrg full (l.drop (i+1)) (T.drop k)):=by
 have hd:=(List.getElem_cons_drop hi).symm
 have hbelow:∀j(hj:j<T.length),j<k->T[j].to≠l[i].to:=λj hj h1 e=>by
  have:=hL j hj i hi h1 Q0
  rw[e,Za0] at this
  omega
 rcases h with h|⟨hk,h⟩
 ·right
  have hg:getO T l[i].to=none:=Zih λj hj=>hbelow j hj Q0
  refine⟨hg,?_⟩
  rw[hd,h,List.drop_length,Zz1,Zb3,hg]
 ·have hdT:=(List.getElem_cons_drop hk).symm
  by_cases e:l[i].to=T[k].to
  ·left
   have hg:getO T l[i].to=some T[k].own:=Zld (λj hj h1=>hbelow j hj h1) hk e.symm
   refine⟨hk,e.symm,hg,?_⟩
   rw[hd,hdT,Zv4 e,Zb3,hg]
  ·right
   have hlt:cmpD l[i].to T[k].to<0:=by
    have:cmpD l[i].to T[k].to≠0:=λh0=>e (Zcg (il _ (List.getElem_mem hi)) (iT _ (List.getElem_mem hk)) h0)
    omega
   have hg:getO T l[i].to=none:=Zih λj hj e2=>by
    rcases Nat.lt_or_ge j k with h1|h1
    ·exact hbelow j hj h1 e2
    ·have h2:cmpD l[i].to T[j].to<0:=by
      rcases Nat.lt_or_ge k j with h3|h3
      ·exact Za6 hlt (ZrI hT hk hj h3)
      ·obtain rfl:j=k:=by omega
       exact hlt
     rw[e2,Za0] at h2
     omega
   refine⟨hg,?_⟩
   rw[hd,hdT,ZyE e hlt,Zb3,hg]
theorem Zxx(hk:k<T.length)(h:i=l.length∨∃hi:i<l.length,0<cmpD l[i].to T[k].to):
  mrg full (l.drop i) (T.drop k)=(if decide (T[k].own.met=inf) then [] else [retr T[k]])++mrg full (l.drop i) (T.drop (k+1))/\∀hi:i<l.length,cmpD T[k].to l[i].to<0:=by
 have hdT:=(List.getElem_cons_drop hk).symm
 rcases h with h|⟨hi,h⟩
 ·refine⟨?_,λhi=>absurd hi Q0⟩
  rw[h,List.drop_length,hdT,Zz2]
 ·have hd:=(List.getElem_cons_drop hi).symm
  refine⟨?_,λ_=>?_⟩
  ·rw[hd,hdT,ZyF (λe=>by rw[e,Za0] at h;omega) Q0]
  ·have:=ZbJ l[i].to T[k].to
   omega
theorem ZrJ{p:AdvV->Bool}{out:List AdvV}:(out++[x]).any p=(out.any p||p x):=by simp
def DueP(D:DueR)(r:Value)(w' W:World):Prop:=∃u s eu es,r= .tuple [.agg (plC u D.full).toArray,s, .bool D.urg, .int .i64 D.err].toArray/\OwnS 100 37 u D.told.length (avsC D.told) eu/\OwnS 100 37 s D.sent.length (avsC D.sent) es/\Mem [] W w' (eu++es)
def PhA(l:List AdvV)(v:Value)(ent:EN):Prop:=OwnS 100 37 v l.length (avsC l) ent
def PhPl(l:List AdvV)(full:Int)(v:Value)(ent:EN):Prop:=∃u,v= .agg (plC u full).toArray/\OwnS 100 37 u l.length (avsC l) ent
theorem OwnS.apart(h:OwnS 100 37 v l.length (avsC l) ent)(hb:∀p∈ent,w.heap[p.1]? =some p.2){cs:Array Value}(ht:t≠100)(hq:w.heap[b]? =some (.cells cs t fz)):∀p∈ent,Zcz p.1≠Zcz b:=by
 intro p hp e
 have e2:=ZkU e
 have h1:=hb p hp
 rw[e2,hq] at h1
 rcases h with⟨_,_,_,rfl⟩|⟨_,_,_,_,rfl,_⟩
 ·cases hp
 ·simp only[List.mem_singleton] at hp
  subst hp
  simp only[Option.some.injEq,Obj.cells.injEq] at h1
  exact ht h1.2.1
theorem Mem.empty(w:World):Mem [] w w []:=⟨Ext.refl _ _,λp hp=>(by cases hp),by simp,λp hp=>(by cases hp)⟩
theorem ZtH:OwnS 100 37 (.slice none 0 0) ([]:List AdvV).length (avsC []) []:=OwnS.nil _ _
theorem vAe(h:p:=by
  exact ZdP F rfl (.cons (.cell (F.e rfl) (Zam TAgg.h (M.heap Q1) rfl)) (.cons (.tmp (F.e rfl)) (.cons (.tmp (F.e rfl)) (.cons (.tmp (F.e rfl)) .nil)))) ⟨_,_,[],[],rfl,ZtH,ZtH,M.sub Q5⟩):p:=h
theorem vBr(h:p:=by
  rw[hu] at F
  refine W1 18 ?_;clear F a;intro a F
  exact⟨_,Q0,i+1,k',v2,out++[x],es2,rfl,Q0,Q0,hL2,hout,hOs2,by rw[e9];exact F.only [14,15,12,13,10,2,3,6,11] rfl,M.sub (.cons _ (.cons _ (.cons _ (.refl _))))⟩):p:=h
theorem vD0(h:p:=by
  exact F.only [119,16,14,15,12,13,10,2,3,6,11] rfl):p:=h
theorem Zx2(T l:List AdvV)(iT:∀x∈T,IsAv x)(il:∀x∈l,IsAv x)(vt vl:Value)(fl now:Int)(W:World)(hST:SlAt W 37 vt T.length (avsC T))(hSl:SlAt W 37 vl l.length (avsC l)):
  Cal prog 210 [.agg (plC vt fl).toArray, .int .i64 now,vl].toArray W λr w'=>DueP (dueV T fl now l) r w' W:=by
 have k0:=Zm7 T iT vt fl
 have k1:=ZgR l il vl
 have h1:=hST.one
 unfold plC at*
 cases c1:Zbh T&&Zag fl
 ·have hD:dueV T fl now l=⟨[],0,[],false,1⟩:=by unfold dueV;rw[c1];rfl
  rw[hD]
  refine Zar (n:=155) [] Tryz.func210 rfl rfl rfl ?_
  intro a w F M hwW
  refine W1 2 ?_;clear F a;intro a F
  refine Qs F M ?_;clear F M;intro b3 w M a F
  (refine sD F (Zay M ?_);clear F M;intro b6 w M a F)
  refine W5 10 k0 ?_;clear F M a;intro a w F M
  rw[c1] at F
  refine W5 20 trivial ?_;clear F M a;intro a w F M
  exact vAe
 cases c2:Zbh l
 ·have hD:dueV T fl now l=⟨[],0,[],false,1⟩:=by unfold dueV;rw[c1,c2];rfl
  rw[hD]
  refine Zar (n:=155) [] Tryz.func210 rfl rfl rfl ?_
  intro a w F M hwW
  refine W1 2 ?_;clear F a;intro a F
  refine Qs F M ?_;clear F M;intro b3 w M a F
  (refine sD F (Zay M ?_);clear F M;intro b6 w M a F)
  refine W5 10 k0 ?_;clear F M a;intro a w F M
  rw[c1] at F
  refine W5 4 k1 ?_;clear F M a;intro a w F M
  rw[c2] at F
  refine W5 16 trivial ?_;clear F M a;intro a w F M
  exact vAe
 cases c3:Zag now
 ·have hD:dueV T fl now l=⟨[],0,[],false,2⟩:=by unfold dueV;rw[c1,c2,c3];rfl
  rw[hD]
  refine Zar (n:=155) [] Tryz.func210 rfl rfl rfl ?_
  intro a w F M hwW
  refine W1 2 ?_;clear F a;intro a F
  refine Qs F M ?_;clear F M;intro b3 w M a F
  (refine sD F (Zay M ?_);clear F M;intro b6 w M a F)
  refine W5 10 k0 ?_;clear F M a;intro a w F M
  rw[c1] at F
  refine W5 4 k1 ?_;clear F M a;intro a w F M
  rw[c2] at F
  refine W5 12 @Zas ?_;clear F M a;intro a w F M
  rw[c3] at F
  refine W5 15 trivial ?_;clear F M a;intro a w F M
  exact vAe
 obtain⟨c4,c5⟩:=Bool.and_eq_true_iff.1 c1
 have hTl:=(ZaV.1 c4).1
 have hll:=(ZaV.1 c2).1
 have aT:=Zdl c4
 have al:=Zdl c2
 have hnow:0<=now/\now<=1099511627776:=by
  unfold Zag at c3
  simpa using c3
 have hD:dueV T fl now l=⟨l,if decide (fl<=now) then Zaz now 3 else fl,mrg (decide (fl<=now)) l T,(mrg (decide (fl<=now)) l T).any λa=>decide (a.own.met=inf),0⟩:=by unfold dueV;rw[c1,c2,c3];rfl
 rw[hD]
 have jT:∀x∈T,IsDv x.to:=λx h=>(iT x h).1
 have jl:∀x∈l,IsDv x.to:=λx h=>(il x h).1
 have hmlen:=Zem (decide (fl<=now)) l T
 refine Zar (n:=155) [] Tryz.func210 rfl rfl rfl ?_
 intro a w F M hwW
 refine W1 2 ?_;clear F a;intro a F
 refine Qs F M ?_;clear F M;intro b3 w M a F
 (refine sD F (Zay M ?_);clear F M;intro b6 w M a F)
 refine W1 9 ?_;clear F a;intro a F
 (refine Qy F M rfl rfl (k0 _ (hST.later M.ext)) ?_;clear F M a;intro w a M F)
 rw[c1] at F
 refine W1 3 ?_;clear F a;intro a F
 (refine Qz F M rfl rfl (k1 _ (hSl.later M.ext)) ?_;clear F M a;intro w a M F)
 rw[c2] at F
 refine W5 12 @Zas ?_;clear F M a;intro a w F M
 rw[c3] at F
 refine W1 16 ?_;clear F a;intro a F
 have k3:=ZxW T iT Q0 vt
 generalize decide (fl<=now)=full at*
 replace F:=F.only [10,2,1,3,6] rfl
 refine Za4 6 F Q7 ?_
 intro w1 hE hok
 have M1:=M.later hE
 refine W2 1 hok ?_
 refine mX (V:=NewP w1.heap.size (PhA l)) hok rfl rfl (NewP.stays _ _) (λa' w' F' E' D'=>Zck (OwnS.nil 100 37) (Mem.empty w') .here (F'.e rfl) (F'.e rfl) ((hSl.later (M1.ext.trans E')).src Zkw) Q0 Q0 (λu ent w'' hO M''=>Zmb E' ⟨ent,by rw[Nat.zero_add,List.nil_append] at hO;exact hO,M''⟩)) ?_
 refine W2 2 hok ?_
 refine mX (V:=NewP w1.heap.size (PhPl l fl)) hok rfl rfl (NewP.stays _ _) (λa' w' F' E' D'=>by
  obtain⟨ent,g1,g2⟩:=D' 1 (Zug rfl) _ rfl
  obtain⟨p,c,g3⟩:=OwnS.slice g1
  have F2:=F'.know (d:=38) g3
  exact Zaq F2 rfl rfl ⟨Ext.refl _ _,ent,⟨_,rfl,g3▸g1⟩,g2⟩) ?_
 refine mAl hok rfl rfl (Al.stays _ _) (λw=>Ext.alloc w _) (λa' w' F' E'=>Zh0) ?_
 (refine ZiG rfl rfl ?_;clear F M;intro a w F hE2 hX hTT hDD hPP;have M:=M1.later hE2;(try dsimp only at F))
 obtain⟨eu,⟨u,hr,hO⟩,hN⟩:=hX 4 _ rfl
 obtain⟨b11,e_1,g_1,q_1⟩:=hX 5 _ rfl
 have hap:=OwnS.apart hO hN.at_ (by decide) q_1
 replace M:=M.joinNew M1 hN
 replace M:=Mem.al (pre:=eu) M M1 q_1 g_1 hap
 replace F:=(F.know (d:=41) hr).know (d:=11) e_1
 clear hr e_1 g_1 q_1 hap hN M1 hX hE2 hok hE hTT hDD hPP
 obtain⟨p,c,rfl⟩:=hO.slice
 dsimp only[Zcz] at F
 refine W5 1 trivial ?_;clear F M a;intro a w F M
 replace F:=F.only [10,2,1,3,6,11] rfl
 refine ZdS ?_
 dsimp only
 refine W1 2 ?_;clear F a;intro a F
 refine ZgG (λa w=>Frm a 155 [] [(10, .bool full),(2,vl),(1, .int .i64 now),(3, .pointer (some ⟨b3,0,none⟩)),(6, .pointer (some ⟨b6,0,none⟩)),(11, .pointer (some ⟨b11,0,none⟩))]/\Mem [] W w ((b11, .cells (plC (.slice p l.length c) (if full=true then Zaz now 3 else fl)).toArray 51 (0,0))::(eu++[(b6, .cells #[.slice none 0 0, .int .i64 0] 51 (0,0)),(b3, .cells #[vt, .int .i64 fl] 51 (0,0))]))) ?_ ?_
 ·cases full
  ·refine W1 7 ?_;clear F a;intro a F
   exact⟨F.only [10,2,1,3,6,11] rfl,M⟩
  ·refine W5 12 @ZcS ?_;clear F M a;intro a w F M
   exact⟨F.only [10,2,1,3,6,11] rfl,M⟩
 clear F M a w
 rintro a w ⟨F,M⟩
 generalize(if full=true then Zaz now 3 else fl)=fl2 at*
 obtain⟨ql,cl,rfl,hcl,hspl,hlenl,hml⟩:=id hSl
 obtain⟨qt,ct,rfl,hct,hspt,hlent,hmt⟩:=id hST
 refine W1 19 ?_;clear F a;intro a F
 replace M:=M.perm (l':=(b11, .cells (plC (.slice p l.length c) fl2).toArray 51 (0,0))::(b6, .cells #[.slice none 0 0, .int .i64 0] 51 (0,0))::(b3, .cells #[.slice qt T.length ct, .int .i64 fl] 51 (0,0))::(eu++[])) Qe
 refine ZbK (λm a w=>∃(i k:Nat)(v:Value)(out:List AdvV)(es:EN),m=(l.length-i)+(T.length-k)/\i<=l.length/\k<=T.length/\LoK T l i k/\out++mrg full (l.drop i) (T.drop k)=mrg full l T/\OwnS 100 37 v out.length (avsC out) es/\Frm a 155 [] [(14, .int .i64 i),(15, .int .i64 k),(12,v),(13, .bool (out.any λa=>decide (a.own.met=inf))),(10, .bool full),(2, .slice ql l.length cl),(3, .pointer (some ⟨b3,0,none⟩)),(6, .pointer (some ⟨b6,0,none⟩)),(11, .pointer (some ⟨b11,0,none⟩))]/\Mem [] W w ((b11, .cells (plC (.slice p l.length c) fl2).toArray 51 (0,0))::(b6, .cells #[.slice none 0 0, .int .i64 0] 51 (0,0))::(b3, .cells #[.slice qt T.length ct, .int .i64 fl] 51 (0,0))::(eu++es))) (l.length+T.length) ⟨0,0,_,[],[],Q0,Q0,Q0,(λ_ _ _ _ h=>by omega),rfl,OwnS.nil _ _,F.only [14,15,12,13,10,2,3,6,11] rfl,M⟩ ?_
 clear F M a w
 rintro m a w ⟨i,k,v,out,es,hm',hi,hk,hL,hout,hOs,F,M⟩
 have hol:out.length<=1040:=by
  have:=congrArg List.length hout
  rw[List.length_append] at this
  omega
 by_cases hlt:i<l.length∨k<T.length
 ·refine Zea ?_
  refine ZgG (λa w=>Frm a 155 [] [(14, .int .i64 i),(15, .int .i64 k),(12,v),(13, .bool (out.any λa=>decide (a.own.met=inf))),(10, .bool full),(2, .slice ql l.length cl),(3, .pointer (some ⟨b3,0,none⟩)),(6, .pointer (some ⟨b6,0,none⟩)),(11, .pointer (some ⟨b11,0,none⟩))]/\Mem [] W w ((b11, .cells (plC (.slice p l.length c) fl2).toArray 51 (0,0))::(b6, .cells #[.slice none 0 0, .int .i64 0] 51 (0,0))::(b3, .cells #[.slice qt T.length ct, .int .i64 fl] 51 (0,0))::(eu++es))) ?_ ?_
  ·by_cases h2:i<l.length
   ·refine W1 17 ?_;clear F a;intro a F
    exact⟨F.only [14,15,12,13,10,2,3,6,11] rfl,M⟩
   ·have h3:k<T.length:=by omega
    refine W1 17 ?_;clear F a;intro a F
    exact⟨F.only [14,15,12,13,10,2,3,6,11] rfl,M⟩
  clear F M a w
  rintro a w ⟨F,M⟩
  refine W1 4 ?_;clear F a;intro a F
  refine ZgG (λa w=>∃tk:Bool,((tk=true->i<l.length/\(k=T.length∨∃hk:k<T.length,cmpD (l.getD i x0).to (T.getD k x0).to<=0))/\(tk=false->k<T.length/\(i=l.length∨∃hi:i<l.length,0<cmpD (l.getD i x0).to (T.getD k x0).to)))/\Frm a 155 [] ((82, .bool tk)::[(14, .int .i64 i),(15, .int .i64 k),(12,v),(13, .bool (out.any λa=>decide (a.own.met=inf))),(10, .bool full),(2, .slice ql l.length cl),(3, .pointer (some ⟨b3,0,none⟩)),(6, .pointer (some ⟨b6,0,none⟩)),(11, .pointer (some ⟨b11,0,none⟩))])/\Mem [] W w ((b11, .cells (plC (.slice p l.length c) fl2).toArray 51 (0,0))::(b6, .cells #[.slice none 0 0, .int .i64 0] 51 (0,0))::(b3, .cells #[.slice qt T.length ct, .int .i64 fl] 51 (0,0))::(eu++es))) ?_ ?_
  ·by_cases hkT:k=T.length
   ·refine Za4 26 F Q7 ?_
    intro w1 hE hok
    have M1:=M.later hE
    refine W2 26 hok ?_
    (refine Qx M1 ?_;clear F M M1 hok hE;intro a w F M;(try dsimp only at F))
    with_reducible refine ZdS ?_
    exact⟨true,⟨λ_=>⟨Q0, .inl hkT⟩,λh=>(by cases h)⟩,F.only [82,14,15,12,13,10,2,3,6,11] rfl,M⟩
   have hk2:k<T.length:=by omega
   by_cases hi2:i<l.length
   ·obtain⟨b,o,cs,t,fz,rfl,hb,hs⟩:=hml Q0
    obtain⟨b',o',cs',t',fz',rfl,hb',hs'⟩:=hmt Q0
    obtain⟨x,hx0⟩:∃x,x=l[i]:=⟨_,rfl⟩
    obtain⟨y,hy0⟩:∃y,y=T[k]:=⟨_,rfl⟩
    have hxi:IsAv x:=by rw[hx0];exact il _ (List.getElem_mem hi2)
    have hyi:IsAv y:=by rw[hy0];exact iT _ (List.getElem_mem hk2)
    have f1:seg cs (o+(i:Int).toNat*37) 37=some (avC x):=by rw[hx0];exact Zal (ZbV il) hs hi2 Q0
    have f2:seg cs' (o'+(k:Int).toNat*37) 37=some (avC y):=by rw[hy0];exact Zal (ZbV iT) hs' hk2 Q0
    have f3:seg cs (o+(i:Int).toNat*37) 35=some (dvC x.to):=Zbe f1 (Zft hxi) Q0
    have f4:seg cs' (o'+(k:Int).toNat*37) 35=some (dvC y.to):=Zbe f2 (Zft hyi) Q0
    have gx:l.getD i x0=x:=by rw[hx0];simp[hi2]
    have gy:T.getD k x0=y:=by rw[hy0];simp[hk2]
    rw[gx,gy]
    by_cases hc:cmpD x.to y.to<=0
    ·refine Za4 26 F Q7 ?_
     intro w1 hE hok
     have M1:=M.later hE
     refine W2 22 hok ?_
     (refine mKG hok rfl rfl rfl rfl (λa' w' F' E'=>Zav (F'.e rfl) (F'.evs rfl) (Cal.mono (ZaR x.to y.to hxi.1 hyi.1 _) λ_ _ hh=>⟨hh.2,hh.1⟩)) ?_)
     refine W2 3 hok ?_
     (refine Qx M1 ?_;clear F M M1 hok hE;intro a w F M;(try dsimp only at F))
     with_reducible refine ZdS ?_
     exact⟨true,⟨λ_=>⟨hi2, .inr ⟨hk2,hc⟩⟩,λh=>(by cases h)⟩,F.only [82,14,15,12,13,10,2,3,6,11] rfl,M⟩
    ·refine Za4 26 F Q7 ?_
     intro w1 hE hok
     have M1:=M.later hE
     refine W2 22 hok ?_
     (refine mKG hok rfl rfl rfl rfl (λa' w' F' E'=>Zav (F'.e rfl) (F'.evs rfl) (Cal.mono (ZaR x.to y.to hxi.1 hyi.1 _) λ_ _ hh=>⟨hh.2,hh.1⟩)) ?_)
     refine W2 3 hok ?_
     (refine Qx M1 ?_;clear F M M1 hok hE;intro a w F M;(try dsimp only at F))
     with_reducible refine ZdS ?_
     exact⟨false,⟨λh=>(by cases h),λ_=>⟨hk2, .inr ⟨hi2,Q0⟩⟩⟩,F.only [82,14,15,12,13,10,2,3,6,11] rfl,M⟩
   ·refine Za4 26 F Q7 ?_
    intro w1 hE hok
    have M1:=M.later hE
    refine W2 26 hok ?_
    (refine Qx M1 ?_;clear F M M1 hok hE;intro a w F M;(try dsimp only at F))
    with_reducible refine ZdS ?_
    exact⟨false,⟨λh=>(by cases h),λ_=>⟨hk2, .inl Q0⟩⟩,F.only [82,14,15,12,13,10,2,3,6,11] rfl,M⟩
  clear F M a w
  rintro a w ⟨tk,htk,F,M⟩
  cases tk
  ·obtain⟨hk2,hik⟩:=htk.2 rfl
   clear htk
   obtain⟨b',o',cs',t',fz',rfl,hb',hs'⟩:=hmt Q0
   obtain⟨y,hy0⟩:∃y,y=T[k]:=⟨_,rfl⟩
   have hyi:IsAv y:=by rw[hy0];exact iT _ (List.getElem_mem hk2)
   have f2:seg cs' (o'+(k:Int).toNat*37) 37=some (avC y):=by rw[hy0];exact Zal (ZbV iT) hs' hk2 Q0
   have gy:T.getD k x0=T[k]:=by simp[hk2]
   obtain⟨hst,hlo⟩:=Zxx (full:=full) (l:=l) (i:=i) hk2 (hik.imp_right λ⟨hi2,h⟩=>⟨hi2,by rw[gy] at h;rw[show l.getD i x0=l[i] by simp[hi2]] at h;exact h⟩)
   rw[hst,<-hy0] at hout
   have hL2:=hL.skip al hk2 hlo
   have f3:(avC y).length=37:=Zcy hyi
   have f4:=ZdY hyi
   have f5:=Zft hyi
   have f6:=Zjz hyi
   refine W1 11 ?_;clear F a;intro a F
   (refine sD F (Zay M ?_);clear F M;intro b19 w M a F)
   skip
   (refine ZaW rfl F (Zap M (F.e rfl) (F.e rfl) (f3) (Zco y)  Q1  (Zat (by rw[f3];rfl)) Q1 ?_);clear F M;intro w M a F)
   refine W1 17 ?_;clear F a;intro a F
   by_cases he:y.own.met=inf
   ·rw[dqT he,if_pos rfl,List.nil_append] at hout
    rw[show(y.own.met !=65535)=false by unfold inf at he;simp[he]] at F
    refine W1 4 ?_;clear F a;intro a F
    exact⟨_,Q0,i,k+1,v,out,es,rfl,Q0,Q0,hL2,hout,hOs,F.only [14,15,12,13,10,2,3,6,11] rfl,M.sub (.cons _ (.refl _))⟩
   ·rw[dqF he,if_neg Q5,<-List.append_assoc] at hout
    have hri:IsAv (retr y):=hyi
    have e9:(out++[retr y]).any (λa=>decide (a.own.met=inf))=true:=by simp[retr]
    have e8:(avC (retr y)).length=37:=Zcy hri
    rw[show(y.own.met !=65535)=true by unfold inf at he;simpa using he] at F
    refine W1 10 ?_;clear F a;intro a F
    (refine sD F (Zaq F rfl (Zn5 (o:=retr y) hri) ?_);clear F a;intro a F)
    (refine sD F (ZaC F M rfl rfl rfl (ZbS hri) ?_);clear F M;intro bs w M a F)
    (refine sD F (Zck hOs M (.cons (.cons (.cons (.cons (.cons (.app .here)))))) (F.e rfl) (F.e rfl) (Zcc.cells' (M.heap .here) (ZbH Q0) (Zco _)) Q0 Q0 ?_);clear F M;intro v2 es2 w hO2 M a F)
    refine W1 8 ?_;clear F a;intro a F
    exact⟨_,Q0,i,k+1,v2,out++[retr y],es2,rfl,Q0,Q0,hL2,hout,by show OwnS _ 37 _ (out++[retr y]).length (encL avC (out++[retr y])) _;rw[show(out++[retr y]).length=out.length+1 by simp,ZbC,Zdd];exact hO2,by rw[e9];exact F.only [14,15,12,13,10,2,3,6,11] rfl,M.sub (.cons _ (.cons _ (.refl _)))⟩
  ·obtain⟨hi2,hkk⟩:=htk.1 rfl
   clear htk
   obtain⟨b,o,cs,t,fz,rfl,hb,hs⟩:=hml Q0
   obtain⟨x,hx0⟩:∃x,x=l[i]:=⟨_,rfl⟩
   have hxi:IsAv x:=by rw[hx0];exact il _ (List.getElem_mem hi2)
   have f1:seg cs (o+(i:Int).toNat*37) 37=some (avC x):=by rw[hx0];exact Zal (ZbV il) hs hi2 Q0
   have gx:l.getD i x0=l[i]:=by simp[hi2]
   have hstep:=Zxy (full:=full) aT jT jl hL hi2 hk (hkk.imp_right λ⟨h1,h2⟩=>⟨h1,by rw[gx] at h2;rw[show T.getD k x0=T[k] by simp[h1]] at h2;exact h2⟩)
   rw[<-hx0] at hstep
   obtain⟨k',hk1,hk2,hL2,hst,hg⟩:∃k',k'<=T.length/\T.length-k'<=T.length-k/\LoK T l (i+1) k'/\mrg full (l.drop i) (T.drop k)=(if Zb3 full T x then [x] else [])++mrg full (l.drop (i+1)) (T.drop k')/\k'=(if(getO T x.to).isSome then k+1 else k):=by
    rcases hstep with⟨h1,h2,h3,h4⟩|⟨h3,h4⟩
    ·exact⟨k+1,Q0,Q0,hL.both al hi2 h1 (by rw[h2,hx0]),h4,by rw[h3];rfl⟩
    ·exact⟨k,hk,Q0,hL.next,h4,by rw[h3];rfl⟩
   clear hstep hkk
   rw[hst] at hout
   have f3:(avC x).length=37:=Zcy hxi
   have f4:=Zft hxi
   have f5:=ZgH hxi
   have f6:=ZdY hxi
   refine W1 8 ?_;clear F a;intro a F
   (refine sD F (Zay M ?_);clear F M;intro b16 w M a F)
   skip
   (refine ZaW rfl F (Zap M (F.e rfl) (F.e rfl) (f3) (Zco x)  Q1  (Zat (by rw[f3];rfl)) Q1 ?_);clear F M;intro w M a F)
   refine W1 15 ?_;clear F a;intro a F
   (refine Qy F M rfl rfl (k3 x.to hxi.1 _ (hST.later M.ext)) ?_;clear F M a;intro w a M F)
   refine sD F (Zgm (F.e rfl) λa F=>sD F (Zey (F.e rfl) rfl λa F=>sD F (Zey (F.e rfl) rfl ?_)));iterate 3 clear F a
   intro a F
   (refine sD F (Zay M ?_);clear F M;intro b17 w M a F)
   skip
   (refine ZaW rfl F (Zap M (F.e rfl) (F.e rfl) (ZbE (o:=(getO T x.to).getD di0) trivial) (Ze8 _)  Q1  (Zat (by rw[ZbE (o:=(getO T x.to).getD di0) trivial];rfl)) Q1 ?_);clear F M;intro w M a F)
   refine W1 9 ?_;clear F a;intro a F
   refine ZgG (λa w=>Frm a 155 [] ((18, .bool (getO T x.to).isSome)::(16, .pointer (some ⟨b16,0,none⟩))::(17, .pointer (some ⟨b17,0,none⟩))::[(14, .int .i64 ((i+1:Nat):Int)),(15, .int .i64 k'),(12,v),(13, .bool (out.any λa=>decide (a.own.met=inf))),(10, .bool full),(2, .slice (some ⟨b,o,none⟩) l.length cl),(3, .pointer (some ⟨b3,0,none⟩)),(6, .pointer (some ⟨b6,0,none⟩)),(11, .pointer (some ⟨b11,0,none⟩))])/\Mem [] W w ((b17, .cells (diC ((getO T x.to).getD di0)).toArray 72 (0,0))::(b16, .cells (avC x).toArray 100 (0,0))::(b11, .cells (plC (.slice p l.length c) fl2).toArray 51 (0,0))::(b6, .cells #[.slice none 0 0, .int .i64 0] 51 (0,0))::(b3, .cells #[.slice qt T.length ct, .int .i64 fl] 51 (0,0))::(eu++es))) ?_ ?_
   ·cases hg2:getO T x.to
    ·rw[hg2] at F hg M
     have hg:k'=k:=hg
     rw[hg]
     refine W1 2 ?_;clear F a;intro a F
     exact⟨F.only [18,16,17,14,15,12,13,10,2,3,6,11] rfl,M⟩
    ·rw[hg2] at F hg M
     have hg:k'=k+1:=hg
     rw[hg]
     refine W1 6 ?_;clear F a;intro a F
     exact⟨F.only [18,16,17,14,15,12,13,10,2,3,6,11] rfl,M⟩
   clear F M a w
   rintro a w ⟨F,M⟩
   refine W1 3 ?_;clear F a;intro a F
   refine ZgG (λa w=>Frm a 155 [] ((119, .bool (Zb3 full T x))::(16, .pointer (some ⟨b16,0,none⟩))::[(14, .int .i64 ((i+1:Nat):Int)),(15, .int .i64 k'),(12,v),(13, .bool (out.any λa=>decide (a.own.met=inf))),(10, .bool full),(2, .slice (some ⟨b,o,none⟩) l.length cl),(3, .pointer (some ⟨b3,0,none⟩)),(6, .pointer (some ⟨b6,0,none⟩)),(11, .pointer (some ⟨b11,0,none⟩))])/\Mem [] W w ((b17, .cells (diC ((getO T x.to).getD di0)).toArray 72 (0,0))::(b16, .cells (avC x).toArray 100 (0,0))::(b11, .cells (plC (.slice p l.length c) fl2).toArray 51 (0,0))::(b6, .cells #[.slice none 0 0, .int .i64 0] 51 (0,0))::(b3, .cells #[.slice qt T.length ct, .int .i64 fl] 51 (0,0))::(eu++es))) ?_ ?_
   ·unfold Zb3
    cases full
    ·cases hg2:getO T x.to with
     |none=>
      rw[hg2] at F M
      dsimp only[Option.isSome,Option.getD] at F M
      refine W1 22 ?_;clear F a;intro a F
      refine⟨?_,M⟩
      rw[show(false|| !decide (x.own.met=inf))=(x.own.met !=65535) by unfold inf;by_cases h:x.own.met=65535<;>simp[h]]
      exact vD0
     |some o2=>
      rw[hg2] at F M
      dsimp only[Option.isSome,Option.getD] at F M
      have f7:=Zki (a:=o2) (b:=x.own) trivial trivial
      have f8:=ZbR (o:=o2) trivial
      by_cases he:o2=x.own
      ·rw[dqT he] at f7
       refine W1 22 ?_;clear F a;intro a F
       refine⟨?_,M⟩
       show Frm a 155 [] ((119, .bool (false|| !decide (o2=x.own)))::_)
       rw[dqT he]
       exact vD0
      ·rw[dqF he] at f7
       refine W1 22 ?_;clear F a;intro a F
       refine⟨?_,M⟩
       show Frm a 155 [] ((119, .bool (false|| !decide (o2=x.own)))::_)
       rw[dqF he]
       exact vD0
    ·refine W1 22 ?_;clear F a;intro a F
     exact⟨F.only [119,16,14,15,12,13,10,2,3,6,11] rfl,M⟩
   clear F M a w
   rintro a w ⟨F,M⟩
   cases hkp:Zb3 full T x
   ·rw[hkp] at F hout
    rw[if_neg Q5,List.nil_append] at hout
    refine W1 8 ?_;clear F a;intro a F
    exact⟨_,Q0,i+1,k',v,out,es,rfl,Q0,Q0,hL2,hout,hOs,F.only [14,15,12,13,10,2,3,6,11] rfl,M.sub (.cons _ (.cons _ (.refl _)))⟩
   ·rw[hkp] at F hout
    rw[if_pos rfl,<-List.append_assoc] at hout
    have f0:=ZjA hxi
    refine W1 6 ?_;clear F a;intro a F
    (refine sD F (ZaC F M rfl rfl rfl (ZbS hxi) ?_);clear F M;intro bs w M a F)
    (refine sD F (Zck hOs M (.cons (.cons (.cons (.cons (.cons (.cons (.app .here))))))) (F.e rfl) (F.e rfl) (Zcc.cells' (M.heap .here) (ZbH Q0) (Zco _)) Q0 Q0 ?_);clear F M;intro v2 es2 w hO2 M a F)
    have hOs2:OwnS 100 37 v2 (out++[x]).length (avsC (out++[x])) es2:=by
     show OwnS _ 37 _ (out++[x]).length (encL avC (out++[x])) _
     rw[show(out++[x]).length=out.length+1 by simp,ZbC,Zdd]
     exact hO2
    cases hu:out.any λa=>decide (a.own.met=inf)
    ·have e9:(out++[x]).any (λa=>decide (a.own.met=inf))=(x.own.met==65535):=by
      rw[ZrJ,hu,Bool.false_or]
      unfold inf
      by_cases h:x.own.met=65535<;>simp[h]
     exact vBr
    ·have e9:(out++[x]).any (λa=>decide (a.own.met=inf))=true:=by
      rw[ZrJ,hu,Bool.true_or]
     exact vBr
 ·obtain rfl:i=l.length:=by omega
  obtain rfl:k=T.length:=by omega
  rw[List.drop_length,List.drop_length,show mrg full [] []=[] by rw[mrg],List.append_nil] at hout
  subst hout
  refine W5 34 trivial ?_;clear F M a;intro a w F M
  exact ZdP F rfl (.cons (.cell (F.e rfl) (Zam TAgg.h (M.heap Q1) rfl)) (.cons (.tmp (F.e rfl)) (.cons (.tmp (F.e rfl)) (.cons (.tmp (F.e rfl)) .nil)))) ⟨_,_,eu,es,rfl,hO,hOs,M.sub (.cons _ (.cons _ (.cons _ (.refl _))))⟩
theorem Zuh(h:AscA T)(t:DstV):(getA t (mapV (mapD T))).getD (diV di0)=diV ((getO T t).getD di0):=by
 rw[Zlf,Zlg h]
 cases getO T t<;>rfl
theorem ZyI(h:AscA T)(t:DstV):(getA t (mapV (mapD T))).isSome=(getO T t).isSome:=by
 rw[Zlf,Zlg h]
 cases getO T t<;>rfl
theorem Zhu.mk{κ:Type}{kv:κ->Value}{o:Obj}{m:List (κ×Value)}(h:w.heap[b]? =some o)(hA:ZiL kv m o):Zhu w kv (.map (some b)) m:=⟨b,o,rfl,h,hA⟩
theorem Zo3:Zeb prog 72 (diV di0):=by
 unfold Zeb
 kernel_rfl
theorem ZlM(hl:AscA l)(hT:AscA T):((Zho full T l).map (·.to)).Nodup:=by
 have key:∀{l:List AdvV},AscA l->(l.map (·.to)).Nodup:=by
  intro l h
  rw[List.Nodup,List.pairwise_map]
  exact List.Pairwise.imp (λ{a b}h2 e=>by rw[e,Za0] at h2;omega) h
 unfold Zho
 rw[List.map_append,List.nodup_append]
 refine⟨key (AscK.filter hl _),?_,?_⟩
 ·rw[List.map_map]
  exact key (AscK.filter hT _)
 ·rintro d hd e he rfl
  obtain⟨x,hx,rfl⟩:=List.mem_map.1 hd
  obtain⟨y',hy',e1⟩:=List.mem_map.1 he
  obtain⟨y,hy,rfl⟩:=List.mem_map.1 hy'
  have h1:=(List.mem_filter.1 hx).1
  have h2:=(List.mem_filter.1 hy).2
  unfold ZcP at h2
  have h3:=Zs9 hl h1
  rw[<-e1] at h3
  change getO l y.to=_ at h3
  rw[h3] at h2
  simp at h2
theorem Zpq(full:Bool)(T l:List AdvV):(Zho full T l).length<=l.length+T.length:=by
 unfold Zho
 rw[List.length_append,List.length_map]
 have h1:=List.length_filter_le (Zb3 full T) l
 have h2:=List.length_filter_le (ZcP l) T
 omega
theorem Zqz:x∈Zho full T l↔(x∈l/\Zb3 full T x=true)∨∃y∈T,ZcP l y=true/\x=retr y:=by
 unfold Zho
 simp only[List.mem_append,List.mem_filter,List.mem_map]
 constructor
 ·rintro(h|⟨y,h,rfl⟩)
  ·exact .inl h
  ·exact .inr ⟨y,h.1,h.2,rfl⟩
 ·rintro(h|⟨y,h1,h2,rfl⟩)
  ·exact .inl h
  ·exact .inr ⟨y,⟨h1,h2⟩,rfl⟩
theorem vCM(h:p:=by
  exact F.only [88,16,58,57,56,14,11,12,13,3,6,10] rfl):p:=h
theorem Zxv(T l:List AdvV)(iT:∀x∈T,IsAv x)(il:∀x∈l,IsAv x)(vt vl:Value)(fl now:Int)(W:World)(hST:SlAt W 37 vt T.length (avsC T))(hSl:SlAt W 37 vl l.length (avsC l)):
  Cal prog 164 [.agg (plC vt fl).toArray, .int .i64 now,vl].toArray W λr w'=>DueP (dueV T fl now l) r w' W:=by
 have k0:=ZmQ T iT vt fl
 have k1:=ZgK l il vl
 have h1:=hST.one
 unfold plC at*
 cases c1:Zbh T&&Zag fl
 ·have hD:dueV T fl now l=⟨[],0,[],false,1⟩:=by unfold dueV;rw[c1];rfl
  rw[hD]
  refine Zar (n:=130) [] Tryz.func164 rfl rfl rfl ?_
  intro a w F M hwW
  refine W1 2 ?_;clear F a;intro a F
  refine Qs F M ?_;clear F M;intro b3 w M a F
  (refine sD F (Zay M ?_);clear F M;intro b6 w M a F)
  refine W5 10 k0 ?_;clear F M a;intro a w F M
  rw[c1] at F
  refine W5 20 trivial ?_;clear F M a;intro a w F M
  exact vAe
 cases c2:Zbh l
 ·have hD:dueV T fl now l=⟨[],0,[],false,1⟩:=by unfold dueV;rw[c1,c2];rfl
  rw[hD]
  refine Zar (n:=130) [] Tryz.func164 rfl rfl rfl ?_
  intro a w F M hwW
  refine W1 2 ?_;clear F a;intro a F
  refine Qs F M ?_;clear F M;intro b3 w M a F
  (refine sD F (Zay M ?_);clear F M;intro b6 w M a F)
  refine W5 10 k0 ?_;clear F M a;intro a w F M
  rw[c1] at F
  refine W5 4 k1 ?_;clear F M a;intro a w F M
  rw[c2] at F
  refine W5 16 trivial ?_;clear F M a;intro a w F M
  exact vAe
 cases c3:Zag now
 ·have hD:dueV T fl now l=⟨[],0,[],false,2⟩:=by unfold dueV;rw[c1,c2,c3];rfl
  rw[hD]
  refine Zar (n:=130) [] Tryz.func164 rfl rfl rfl ?_
  intro a w F M hwW
  refine W1 2 ?_;clear F a;intro a F
  refine Qs F M ?_;clear F M;intro b3 w M a F
  (refine sD F (Zay M ?_);clear F M;intro b6 w M a F)
  refine W5 10 k0 ?_;clear F M a;intro a w F M
  rw[c1] at F
  refine W5 4 k1 ?_;clear F M a;intro a w F M
  rw[c2] at F
  refine W5 12 @ZhT ?_;clear F M a;intro a w F M
  rw[c3] at F
  refine W5 15 trivial ?_;clear F M a;intro a w F M
  exact vAe
 obtain⟨c4,c5⟩:=Bool.and_eq_true_iff.1 c1
 have hTl:=(ZaV.1 c4).1
 have hll:=(ZaV.1 c2).1
 have aT:=Zdl c4
 have al:=Zdl c2
 have hnow:0<=now/\now<=1099511627776:=by
  unfold Zag at c3
  simpa using c3
 have hD:dueV T fl now l=⟨l,if decide (fl<=now) then Zaz now 3 else fl,mrg (decide (fl<=now)) l T,(mrg (decide (fl<=now)) l T).any λa=>decide (a.own.met=inf),0⟩:=by unfold dueV;rw[c1,c2,c3];rfl
 rw[hD]
 have jT:∀x∈T,IsDv x.to:=λx h=>(iT x h).1
 have jl:∀x∈l,IsDv x.to:=λx h=>(il x h).1
 have hmlen:=Zem (decide (fl<=now)) l T
 have hspec:=ZeW (decide (fl<=now)) l T al aT jl jT
 refine Zar (n:=130) [] Tryz.func164 rfl rfl rfl ?_
 intro a w F M hwW
 refine W1 2 ?_;clear F a;intro a F
 refine Qs F M ?_;clear F M;intro b3 w M a F
 (refine sD F (Zay M ?_);clear F M;intro b6 w M a F)
 refine W1 9 ?_;clear F a;intro a F
 (refine Qy F M rfl rfl (k0 _ (hST.later M.ext)) ?_;clear F M a;intro w a M F)
 rw[c1] at F
 refine W1 3 ?_;clear F a;intro a F
 (refine Qz F M rfl rfl (k1 _ (hSl.later M.ext)) ?_;clear F M a;intro w a M F)
 rw[c2] at F
 refine W5 12 @ZhT ?_;clear F M a;intro a w F M
 rw[c3] at F
 refine W1 7 ?_;clear F a;intro a F
 replace F:=F.only [2,1,3,6] rfl
 refine Za4 6 F Q7 ?_
 intro w1 hE hok
 have M1:=M.later hE
 refine W2 1 hok ?_
 refine mX (V:=NewP w1.heap.size (PhA l)) hok rfl rfl (NewP.stays _ _) (λa' w' F' E' D'=>Zav (F'.e rfl) (F'.evs rfl) (Cal.mono (Ztz l Q0 vl _ (hSl.later (M1.ext.trans E'))) λ_ _ hh=>Zmb E' (hh.elim λent hq=>⟨ent,hq.1,hq.2.2⟩))) ?_
 refine W2 2 hok ?_
 refine mX (V:=NewP w1.heap.size (PhPl l fl)) hok rfl rfl (NewP.stays _ _) (λa' w' F' E' D'=>by
  obtain⟨ent,g1,g2⟩:=D' 1 (Zug rfl) _ rfl
  obtain⟨p,c,g3⟩:=OwnS.slice g1
  have F2:=F'.know (d:=38) g3
  exact Zaq F2 rfl rfl ⟨Ext.refl _ _,ent,⟨_,rfl,g3▸g1⟩,g2⟩) ?_
 refine mAl hok rfl rfl (Al.stays _ _) (λw=>Ext.alloc w _) (λa' w' F' E'=>Zh0) ?_
 (refine ZiG rfl rfl ?_;clear F M;intro a w F hE2 hX hTT hDD hPP;have M:=M1.later hE2;(try dsimp only at F))
 obtain⟨eu,⟨u,hr,hO⟩,hN⟩:=hX 4 _ rfl
 obtain⟨b10,e_1,g_1,q_1⟩:=hX 5 _ rfl
 have hap:=OwnS.apart hO hN.at_ (by decide) q_1
 replace M:=M.joinNew M1 hN
 replace M:=Mem.al (pre:=eu) M M1 q_1 g_1 hap
 replace F:=(F.know (d:=41) hr).know (d:=10) e_1
 clear hr e_1 g_1 q_1 hap hN M1 hX hE2 hok hE hTT hDD hPP
 obtain⟨p,c,rfl⟩:=hO.slice
 dsimp only[Zcz] at F
 refine W5 1 trivial ?_;clear F M a;intro a w F M
 replace F:=F.only [2,1,3,6,10] rfl
 replace M:=M.perm (l':=(b10, .cells (plC (.slice p l.length c) fl).toArray 51 (0,0))::(b6, .cells #[.slice none 0 0, .int .i64 0] 51 (0,0))::(b3, .cells #[vt, .int .i64 fl] 51 (0,0))::eu) Qe
 refine W1 17 ?_;clear F a;intro a F
 generalize decide (fl<=now)=full at*
 refine ZgG (λa w=>Frm a 130 [] [(11, .bool full),(2,vl),(1, .int .i64 now),(3, .pointer (some ⟨b3,0,none⟩)),(6, .pointer (some ⟨b6,0,none⟩)),(10, .pointer (some ⟨b10,0,none⟩))]/\Mem [] W w ((b10, .cells (plC (.slice p l.length c) (if full=true then Zaz now 3 else fl)).toArray 51 (0,0))::(b6, .cells #[.slice none 0 0, .int .i64 0] 51 (0,0))::(b3, .cells #[vt, .int .i64 fl] 51 (0,0))::eu)) ?_ ?_
 ·cases full
  ·refine W1 2 ?_;clear F a;intro a F
   exact⟨F.only [11,2,1,3,6,10] rfl,M⟩
  ·refine W5 8 trivial ?_;clear F M a;intro a w F M
   exact⟨F.only [11,2,1,3,6,10] rfl,M⟩
 clear F M a w
 rintro a w ⟨F,M⟩
 generalize(if full=true then Zaz now 3 else fl)=fl2 at*
 obtain⟨ql,cl,rfl,hcl,hspl,hlenl,hml⟩:=id hSl
 obtain⟨qt,ct,rfl,hct,hspt,hlent,hmt⟩:=id hST
 refine W1 5 ?_;clear F a;intro a F
 (refine sD F (Zav (F.e rfl) (F.evs rfl) (Cal.mono (Zn3 T iT Q0 _ _ (hST.later M.ext)) ?_));clear F;clear a;rintro _ w ⟨em1,⟨m1,o1,rfl,rfl,hA1⟩,N⟩ a F;replace M:=M.joins N;clear N)
 refine W1 1 ?_;clear F a;intro a F
 (refine sD F (Zav (F.e rfl) (F.evs rfl) (Cal.mono (Zn3 l il Q0 _ _ (hSl.later M.ext)) ?_));clear F;clear a;rintro _ w ⟨em2,⟨m2,o2,rfl,rfl,hA2⟩,N⟩ a F;replace M:=M.joins N;clear N)
 refine W1 18 ?_;clear F a;intro a F
 obtain⟨v,hv⟩:∃v,v=Value.slice none 0 0:=⟨_,rfl⟩
 rw[<-hv] at F
 obtain⟨es,hes⟩:∃es:EN,es=[]:=⟨_,rfl⟩
 replace M:Mem [] W w ((b10, .cells (plC (.slice p l.length c) fl2).toArray 51 (0,0))::(b6, .cells #[.slice none 0 0, .int .i64 0] 51 (0,0))::(b3, .cells #[.slice qt T.length ct, .int .i64 fl] 51 (0,0))::(m1,o1)::(m2,o2)::(eu++es)):=by
  rw[hes]
  exact M.perm Qe
 have hOs:OwnS 100 37 v ((l.take 0).filter (Zb3 full T)).length (avsC ((l.take 0).filter (Zb3 full T))) es:=by
  rw[hv,hes]
  exact OwnS.nil _ _
 clear hv hes
 refine ZbK (λm a w=>∃(i:Nat)(v:Value)(es:EN),m=l.length-i/\i<=l.length/\OwnS 100 37 v ((l.take i).filter (Zb3 full T)).length (avsC ((l.take i).filter (Zb3 full T))) es/\Frm a 130 [] [(58, .int .i64 i),(57, .int .i64 l.length),(56, .slice ql l.length cl),(14,v),(11, .bool full),(12, .map (some m1)),(13, .map (some m2)),(3, .pointer (some ⟨b3,0,none⟩)),(6, .pointer (some ⟨b6,0,none⟩)),(10, .pointer (some ⟨b10,0,none⟩))]/\Mem [] W w ((b10, .cells (plC (.slice p l.length c) fl2).toArray 51 (0,0))::(b6, .cells #[.slice none 0 0, .int .i64 0] 51 (0,0))::(b3, .cells #[.slice qt T.length ct, .int .i64 fl] 51 (0,0))::(m1,o1)::(m2,o2)::(eu++es))) l.length ⟨0,v,es,rfl,Q0,hOs,F.only [58,57,56,14,11,12,13,3,6,10] rfl,M⟩ ?_
 clear F M a w hOs v es
 rintro m a w ⟨i,v,es,hm',hi,hOs,F,M⟩
 by_cases hlt:i<l.length
 ·obtain⟨b,o,cs,t,fz,rfl,hb,hs⟩:=hml Q0
  have hfl:=Ze7 (Zb3 full T) hlt
  have hol:((l.take i).filter (Zb3 full T)).length<=520:=by
   have h2:=List.length_filter_le (Zb3 full T) (l.take i)
   rw[List.length_take] at h2
   omega
  generalize(l.take i).filter (Zb3 full T)=out at*
  obtain⟨x,hx0⟩:∃x,x=l[i]:=⟨_,rfl⟩
  have hxi:IsAv x:=by rw[hx0];exact il _ (List.getElem_mem hlt)
  have f1:seg cs (o+(i:Int).toNat*37) 37=some (avC x):=by rw[hx0];exact Zal (ZbV il) hs hlt Q0
  rw[<-hx0] at hfl
  have f3:(avC x).length=37:=Zcy hxi
  have f4:=Zft hxi
  have f5:=ZgH hxi
  have f6:=ZdY hxi
  refine W1 15 ?_;clear F a;intro a F
  (refine sD F (Zay M ?_);clear F M;intro b16 w M a F)
  skip
  (refine ZaW rfl F (Zap M (F.e rfl) (F.e rfl) (f3) (Zco x)  Q1  (Zat (by rw[f3];rfl)) Q1 ?_);clear F M;intro w M a F)
  refine W1 7 ?_;clear F a;intro a F
  (refine sD F (Zh8 Zj5 Zo3 (Zhu.mk (M.heap Q1) hA1) (Zj4 (Zmi jT)) (a:=x.to) hxi.1 (F.e rfl) (F.e rfl) ?_);clear F a;intro a F)
  rw[Zuh aT,ZyI aT] at F
  refine W1 3 ?_;clear F a;intro a F
  (refine sD F (Zay M ?_);clear F M;intro b17 w M a F)
  skip
  (refine ZaW rfl F (Zap M (F.e rfl) (F.e rfl) (ZbE (o:=(getO T x.to).getD di0) trivial) (Ze8 _)  Q1  (Zat (by rw[ZbE (o:=(getO T x.to).getD di0) trivial];rfl)) Q1 ?_);clear F M;intro w M a F)
  refine W1 3 ?_;clear F a;intro a F
  repeat (refine Zea ?_)
  refine ZgG (λa w=>Frm a 130 [] ((88, .bool (Zb3 full T x))::(16, .pointer (some ⟨b16,0,none⟩))::[(58, .int .i64 i),(57, .int .i64 l.length),(56, .slice (some ⟨b,o,none⟩) l.length cl),(14,v),(11, .bool full),(12, .map (some m1)),(13, .map (some m2)),(3, .pointer (some ⟨b3,0,none⟩)),(6, .pointer (some ⟨b6,0,none⟩)),(10, .pointer (some ⟨b10,0,none⟩))])/\Mem [] W w ((b17, .cells (diC ((getO T x.to).getD di0)).toArray 72 (0,0))::(b16, .cells (avC x).toArray 100 (0,0))::(b10, .cells (plC (.slice p l.length c) fl2).toArray 51 (0,0))::(b6, .cells #[.slice none 0 0, .int .i64 0] 51 (0,0))::(b3, .cells #[.slice qt T.length ct, .int .i64 fl] 51 (0,0))::(m1,o1)::(m2,o2)::(eu++es))) ?_ ?_
  ·unfold Zb3
   cases full
   ·cases hg2:getO T x.to with
    |none=>
     rw[hg2] at F M
     dsimp only[Option.isSome,Option.getD] at F M
     refine W1 22 ?_;clear F a;intro a F
     refine⟨?_,M⟩
     rw[show(false|| !decide (x.own.met=inf))=(x.own.met !=65535) by unfold inf;by_cases h:x.own.met=65535<;>simp[h]]
     exact vCM
    |some o2=>
     rw[hg2] at F M
     dsimp only[Option.isSome,Option.getD] at F M
     have f7:=Zki (a:=o2) (b:=x.own) trivial trivial
     have f8:=ZbR (o:=o2) trivial
     by_cases he:o2=x.own
     ·rw[dqT he] at f7
      refine W1 22 ?_;clear F a;intro a F
      refine⟨?_,M⟩
      show Frm a 130 [] ((88, .bool (false|| !decide (o2=x.own)))::_)
      rw[dqT he]
      exact vCM
     ·rw[dqF he] at f7
      refine W1 22 ?_;clear F a;intro a F
      refine⟨?_,M⟩
      show Frm a 130 [] ((88, .bool (false|| !decide (o2=x.own)))::_)
      rw[dqF he]
      exact vCM
   ·refine W1 22 ?_;clear F a;intro a F
    exact⟨F.only [88,16,58,57,56,14,11,12,13,3,6,10] rfl,M⟩
  clear F M a w
  rintro a w ⟨F,M⟩
  cases hkp:Zb3 full T x
  ·rw[hkp] at F hfl
   rw[if_neg Q5,List.append_nil] at hfl
   refine W1 10 ?_;clear F a;intro a F
   exact⟨_,Q0,i+1,v,es,rfl,Q0,by rw[hfl];exact hOs,F.only [58,57,56,14,11,12,13,3,6,10] rfl,M.sub (.cons _ (.cons _ (.refl _)))⟩
  ·rw[hkp] at F hfl
   rw[if_pos rfl] at hfl
   have f0:=ZjA hxi
   refine W1 5 ?_;clear F a;intro a F
   (refine sD F (ZaC F M rfl rfl rfl (ZbS hxi) ?_);clear F M;intro bs w M a F)
   (refine sD F (Zck hOs M (.cons (.cons (.cons (.cons (.cons (.cons (.cons (.cons (.app .here))))))))) (F.e rfl) (F.e rfl) (Zcc.cells' (M.heap .here) (ZbH Q0) (Zco _)) Q0 Q0 ?_);clear F M;intro v2 es2 w hO2 M a F)
   refine W1 9 ?_;clear F a;intro a F
   exact⟨_,Q0,i+1,v2,es2,rfl,Q0,by rw[hfl];show OwnS _ 37 _ (out++[x]).length (encL avC (out++[x])) _;rw[show(out++[x]).length=out.length+1 by simp,ZbC,Zdd];exact hO2,F.only [58,57,56,14,11,12,13,3,6,10] rfl,M.sub (.cons _ (.cons _ (.cons _ (.refl _))))⟩
 obtain rfl:i=l.length:=by omega
 rw[List.take_length] at hOs
 refine W1 22 ?_;clear F a;intro a F
 have hOs0:OwnS 100 37 v (l.filter (Zb3 full T)++((T.take 0).filter (ZcP l)).map retr).length (avsC (l.filter (Zb3 full T)++((T.take 0).filter (ZcP l)).map retr)) es:=by
  rw[List.take_zero,List.filter_nil,List.map_nil,List.append_nil]
  exact hOs
 refine ZbK (λm a w=>∃(i:Nat)(v:Value)(es:EN),m=T.length-i/\i<=T.length/\OwnS 100 37 v (l.filter (Zb3 full T)++((T.take i).filter (ZcP l)).map retr).length (avsC (l.filter (Zb3 full T)++((T.take i).filter (ZcP l)).map retr)) es/\Frm a 130 [] [(97, .int .i64 i),(96, .int .i64 T.length),(95, .slice qt T.length ct),(14,v),(11, .bool full),(12, .map (some m1)),(13, .map (some m2)),(3, .pointer (some ⟨b3,0,none⟩)),(6, .pointer (some ⟨b6,0,none⟩)),(10, .pointer (some ⟨b10,0,none⟩))]/\Mem [] W w ((b10, .cells (plC (.slice p l.length c) fl2).toArray 51 (0,0))::(b6, .cells #[.slice none 0 0, .int .i64 0] 51 (0,0))::(b3, .cells #[.slice qt T.length ct, .int .i64 fl] 51 (0,0))::(m1,o1)::(m2,o2)::(eu++es))) T.length ⟨0,v,es,rfl,Q0,hOs0,F.only [97,96,95,14,11,12,13,3,6,10] rfl,M⟩ ?_
 clear F M a w hOs hOs0 v es
 rintro m a w ⟨i,v,es,hm',hi,hOs,F,M⟩
 by_cases hlt:i<T.length
 ·obtain⟨b,o,cs,t,fz,rfl,hb,hs⟩:=hmt Q0
  have hfl:=Ze7 (ZcP l) hlt
  have hol:(l.filter (Zb3 full T)++((T.take i).filter (ZcP l)).map retr).length<=1040:=by
   have h2:=List.length_filter_le (ZcP l) (T.take i)
   have h3:=List.length_filter_le (Zb3 full T) l
   rw[List.length_take] at h2
   rw[List.length_append,List.length_map]
   omega
  obtain⟨x,hx0⟩:∃x,x=T[i]:=⟨_,rfl⟩
  have hxi:IsAv x:=by rw[hx0];exact iT _ (List.getElem_mem hlt)
  have f1:seg cs (o+(i:Int).toNat*37) 37=some (avC x):=by rw[hx0];exact Zal (ZbV iT) hs hlt Q0
  rw[<-hx0] at hfl
  have hrt:((T.take (i+1)).filter (ZcP l)).map retr=((T.take i).filter (ZcP l)).map retr++if ZcP l x=true then [retr x] else []:=by
   rw[hfl,List.map_append]
   cases ZcP l x<;>rfl
  clear hfl
  generalize((T.take i).filter (ZcP l)).map retr=out1 at*
  obtain⟨out,hout⟩:∃out,out=l.filter (Zb3 full T)++out1:=⟨_,rfl⟩
  rw[<-hout] at hOs hol
  have f3:(avC x).length=37:=Zcy hxi
  have f4:=Zft hxi
  have f5:=ZgH hxi
  have f6:=ZdY hxi
  refine W1 15 ?_;clear F a;intro a F
  (refine sD F (Zay M ?_);clear F M;intro b20 w M a F)
  skip
  (refine ZaW rfl F (Zap M (F.e rfl) (F.e rfl) (f3) (Zco x)  Q1  (Zat (by rw[f3];rfl)) Q1 ?_);clear F M;intro w M a F)
  refine W1 7 ?_;clear F a;intro a F
  (refine sD F (Zh8 Zj5 Zo3 (Zhu.mk (M.heap Q1) hA2) (Zj4 (Zmi jl)) (a:=x.to) hxi.1 (F.e rfl) (F.e rfl) ?_);clear F a;intro a F)
  rw[Zuh al,ZyI al] at F
  refine W1 3 ?_;clear F a;intro a F
  (refine sD F (Zay M ?_);clear F M;intro b21 w M a F)
  skip
  (refine ZaW rfl F (Zap M (F.e rfl) (F.e rfl) (ZbE (o:=(getO l x.to).getD di0) trivial) (Ze8 _)  Q1  (Zat (by rw[ZbE (o:=(getO l x.to).getD di0) trivial];rfl)) Q1 ?_);clear F M;intro w M a F)
  refine W1 3 ?_;clear F a;intro a F
  repeat (refine Zea ?_)
  refine ZgG (λa w=>Frm a 130 [] ((115, .bool (ZcP l x))::(20, .pointer (some ⟨b20,0,none⟩))::[(97, .int .i64 i),(96, .int .i64 T.length),(95, .slice (some ⟨b,o,none⟩) T.length ct),(14,v),(11, .bool full),(12, .map (some m1)),(13, .map (some m2)),(3, .pointer (some ⟨b3,0,none⟩)),(6, .pointer (some ⟨b6,0,none⟩)),(10, .pointer (some ⟨b10,0,none⟩))])/\Mem [] W w ((b21, .cells (diC ((getO l x.to).getD di0)).toArray 72 (0,0))::(b20, .cells (avC x).toArray 100 (0,0))::(b10, .cells (plC (.slice p l.length c) fl2).toArray 51 (0,0))::(b6, .cells #[.slice none 0 0, .int .i64 0] 51 (0,0))::(b3, .cells #[.slice (some ⟨b,o,none⟩) T.length ct, .int .i64 fl] 51 (0,0))::(m1,o1)::(m2,o2)::(eu++es))) ?_ ?_
  ·unfold ZcP
   cases hg2:getO l x.to with
   |none=>
    rw[hg2] at F M
    dsimp only[Option.isSome,Option.getD] at F M
    refine W1 10 ?_;clear F a;intro a F
    refine⟨?_,M⟩
    rw[show((none:Option DisV).isNone&& !decide (x.own.met=inf))=(x.own.met !=65535) by unfold inf;by_cases h:x.own.met=65535<;>simp[h]]
    exact F.only [115,20,97,96,95,14,11,12,13,3,6,10] rfl
   |some o2=>
    rw[hg2] at F M
    dsimp only[Option.isSome,Option.getD] at F M
    refine W1 10 ?_;clear F a;intro a F
    exact⟨F.only [115,20,97,96,95,14,11,12,13,3,6,10] rfl,M⟩
  clear F M a w
  rintro a w ⟨F,M⟩
  cases hkp:ZcP l x
  ·rw[hkp] at F hrt
   rw[if_neg Q5,List.append_nil] at hrt
   refine W1 10 ?_;clear F a;intro a F
   exact⟨_,Q0,i+1,v,es,rfl,Q0,by rw[hrt,<-hout];exact hOs,F.only [97,96,95,14,11,12,13,3,6,10] rfl,M.sub (.cons _ (.cons _ (.refl _)))⟩
  ·rw[hkp] at F hrt
   rw[if_pos rfl] at hrt
   have hri:IsAv (retr x):=hxi
   have e8:(avC (retr x)).length=37:=Zcy hri
   have f0:=ZjA hri
   refine W1 6 ?_;clear F a;intro a F
   (refine ZaW rfl F (ZfA M (F.e rfl) (F.e rfl) rfl Q1 (ZfO hxi 65535) Q1 ?_);clear F M;intro w M a F)
   replace M:Mem [] W w ((b21, .cells (diC ((getO l x.to).getD di0)).toArray 72 (0,0))::(b20, .cells (avC (retr x)).toArray 100 (0,0))::(b10, .cells (plC (.slice p l.length c) fl2).toArray 51 (0,0))::(b6, .cells #[.slice none 0 0, .int .i64 0] 51 (0,0))::(b3, .cells #[.slice (some ⟨b,o,none⟩) T.length ct, .int .i64 fl] 51 (0,0))::(m1,o1)::(m2,o2)::(eu++es)):=M
   refine W1 5 ?_;clear F a;intro a F
   (refine sD F (ZaC F M rfl rfl rfl (ZbS hri) ?_);clear F M;intro bs w M a F)
   (refine sD F (Zck hOs M (.cons (.cons (.cons (.cons (.cons (.cons (.cons (.cons (.app .here))))))))) (F.e rfl) (F.e rfl) (Zcc.cells' (M.heap .here) (ZbH Q0) (Zco _)) Q0 Q0 ?_);clear F M;intro v2 es2 w hO2 M a F)
   refine W1 9 ?_;clear F a;intro a F
   exact⟨_,Q0,i+1,v2,es2,rfl,Q0,by rw[hrt,<-List.append_assoc,<-hout];show OwnS _ 37 _ (out++[retr x]).length (encL avC (out++[retr x])) _;rw[show(out++[retr x]).length=out.length+1 by simp,ZbC,Zdd];exact hO2,F.only [97,96,95,14,11,12,13,3,6,10] rfl,M.sub (.cons _ (.cons _ (.cons _ (.refl _))))⟩
 obtain rfl:i=T.length:=by omega
 rw[List.take_length] at hOs
 change OwnS _ 37 v (Zho full T l).length (avsC (Zho full T l)) es at hOs
 have hsl:=Zpq full T l
 have ims:∀x∈mrg full l T,IsAv x:=λx hx=>by
  rcases(hspec.1 x).1 hx with⟨h1,_⟩|⟨y,h1,_,rfl⟩
  ·exact il x h1
  ·exact iT y h1
 have hmem:∀x,x∈mrg full l T↔x∈Zho full T l:=λx=>(hspec.1 x).trans Zqz.symm
 have iss:∀x∈Zho full T l,IsAv x:=λx hx=>ims x ((hmem x).2 hx)
 refine W1 15 ?_;clear F a;intro a F
 (refine sD F (Zav (F.e rfl) (F.evs rfl) (Cal.mono (Zu2 (Zho full T l) (mrg full l T) iss (ZlM al aT) hspec.2.1 hmem Q0 M hOs (.cons (.cons (.cons (.cons (.cons (.app .here))))))) ?_));clear F;clear a;clear M;rintro _ w ⟨es2,hO2,M⟩ a F)
 have hml2:(Zho full T l).length=(mrg full l T).length:=by
  have h1:=hO2.len
  rw[show(avsC (mrg full l T)).length=(mrg full l T).length*37 from Za2 (ZbV ims)] at h1
  omega
 rw[hml2] at hO2
 refine W1 5 ?_;clear F a;intro a F
 (refine Qy F M rfl rfl (ZmB (mrg full l T) ims Q0 v _ (hO2.slAt M (λq hq=>by simp[hq]))) ?_;clear F M a;intro w a M F)
 refine sD F (ZeU (F.e rfl) ?_);clear F a;intro a F
 with_reducible refine ZdS (Zc6 (Zea (ZdV ?_)))
 refine sD F (Zbs M (F.e rfl) Q1 Q2 ?_);clear F a;intro a F
 refine sD F (Zgm (F.e rfl) λa F=>sD F (Zgm (F.e rfl) ?_));iterate 2 clear F a
 intro a F
 (refine ZaW rfl F (Zap M (F.e rfl) (F.e rfl) (by rfl) (by rfl) Q1 (by rfl) Q1 ?_);clear F M;intro w M a F)
 refine sD F (ZeU (F.e rfl) λa F=>sD F (ZeU (F.e rfl) λa F=>sD F (ZeU (F.e rfl) ?_)));iterate 3 clear F a
 intro a F
 with_reducible refine ZdS (Zc6 (ZiK ?_))
 exact ZdP F rfl (.cons (.cell (F.e rfl) (Zam TAgg.h (M.heap Q1) rfl)) (.cons (.tmp (F.e rfl)) (.cons (.tmp (F.e rfl)) (.cons (.tmp (F.e rfl)) .nil)))) ⟨_,_,eu,es2,rfl,hO,hO2,M.sub (.cons _ (.cons _ (.cons _ (.cons _ (.cons _ (.refl _))))))⟩
theorem ZzH(n:Int)(q:QuaV)(a b:Int):ZaD [(0,1),(1,5),(6,1),(7,1)] ajZ [(0,[.int .u64 n]),(1,quC q),(2,[.int .i64 a]),(3,[.int .i64 b])]=some (ajC ⟨n,q,a,b⟩):=rfl
theorem Zvs{a b c f t:EN}:([f,a,b,c,t]:Row).flatten.Perm (([t,f]:Row).flatten++([a,b,c]:Row).flatten):=vAo
theorem ZpP{z a b c f t:EN}:([z,f,a,b,c,t]:Row).flatten.Perm (f++([z,a,b,c,t]:Row).flatten):=vAo
theorem AtE.q(h:AtE sz v n xs ent):∃p cap,v= .slice p n cap:=by
 obtain⟨p,cap,h1,_⟩:=h
 exact⟨p,cap,h1⟩
theorem AtE.mem{p:Option Addr}{n m cap:Nat}(h:AtE sz (.slice p m cap) n xs ent)(hn:0<n):∃b o cs t fz,p=some ⟨b,o,none⟩/\ent=[(b, .cells (List.toArray cs) t fz)]/\seg cs o (n*sz)=some xs:=by
 obtain⟨p',cap',h1,_,_,h4⟩:=h
 cases h1
 exact h4 hn
theorem Znr{e:TypeId}{o:Obj}{ent r:EN}(h:OwnS e sz v n xs ent)(M:Mem [bt] W w (ent++r))(hr:(bt,o)∈r)(hbt:bt<W.heap.size):NewV (bt+1) v:=by
 rcases h with⟨rfl,_⟩|⟨b,cap,j,rfl,rfl,_⟩
 ·intro b o s n c h;cases h
 ·intro b' o' s' n' c' h
  cases h
  have h1:=M.own (b,_) (List.mem_append_left _ List.mem_cons_self)
  have h2:=M.nd
  simp only[List.map_append,List.map_cons,List.map_nil,List.singleton_append,List.nodup_cons] at h2
  have h3:b≠bt:=λe=>h2.1 (e▸List.mem_map_of_mem (f:=(·.1)) hr)
  rcases h1 with h1|h1
  ·exact absurd (List.mem_singleton.1 h1) h3
  ·show bt+1<=b
   have:W.heap.size<=b:=h1
   omega
theorem Zhw{α:Type}{out l:List α}(h:out.Sublist (l.take i)):out.Sublist (l.take (i+1)):=h.trans (List.take_sublist_take_left (Nat.le_succ i))
theorem Zpl{α:Type}{out l:List α}{x:α}(hi:i<l.length)(hx:x=l[i])(h:out.Sublist (l.take i)):(out++[x]).Sublist (l.take (i+1)):=by
 rw[List.take_succ_eq_append_getElem hi,<-hx]
 exact h.append (List.Sublist.refl _)
theorem Zsg(hs:IsRt s):∀x∈ZgS s,IsAv x:=λx hx=>by
 unfold ZgS at hx
 split at hx
 ·exact ZmK hs x ((ZdD s).mem_iff.1 hx)
 ·exact(List.not_mem_nil hx).elim
theorem ZpG(s:RtV):(ZgS s).length<=1000:=by
 unfold ZgS
 split
 ·rename_i h
  have h1:=(Zcq.1 (Zhf h).1).1
  have h2:=(Za5.1 (Zhf h).2.1).1
  rw[(ZdD s).length_eq]
  unfold annL
  rw[List.length_append,List.length_map,List.length_map]
  omega
 ·simp
end
section
theorem OpTo.guard{P:Program}{d:Option Nat}{op:Op}{ty:TypeId}{pos:String}{af:Array Edge}{g:Option (Nat×Bool)}{ρ:Operand->Value}(h:OpTo P ⟨d,op,ty,pos,af,none⟩ ρ w R):OpTo P ⟨d,op,ty,pos,af,g⟩ ρ w R:=by
 have e:execOp ρ ⟨d,op,ty,pos,af,g⟩=execOp ρ ⟨d,op,ty,pos,af,none⟩:=by cases op<;>rfl
 unfold OpTo at*
 rw[e]
 exact h
section
variable {c:Cx} {Q:Exit->Act->World->Prop} {ks:List KF} {fr fr':FN} {l:Row} {x:RX} {rest rest':List Oper} {k k':Nat} {xs:List (Nat×XP)} {E:ESt} {d:Nat} {op:Op} {ty:TypeId} {pos:String} {af:Array Edge} {g:Option (Nat×Bool)}
theorem Zwz{jg tg:Nat}(hjg:(x.ol.toArray[jg]?).bind (·.dst)=some tg)(hbg:look fr tg=some (.bool bg))(Ψ:FN->Row->Value->Row->Prop)(ds:List (Nat×Nat))(p:XP)(h:∀sl l,E sl l->OpF c x xs ⟨some d,op,ty,pos,af,none⟩ (dsFr ds sl++fr) l (Ψ sl l))(hp:∀sl l v r,E sl l->Ψ sl l v r->∀n0 w,p.pred n0 v w)
  (hk:FE c Q ks x (k+1) rest fr ((k,p)::xs) (λs r=>∃sl l v,E sl l/\Ψ sl l v r/\s=(k,v)::sl))
  (hlt:effX x.Ef x.Rl [] x.n k op=true:=by rfl) (hnd:ZcU d fr=true:=by rfl) (hds:dsOk x.ol.toArray ⟨some d,op,ty,pos,af,none⟩ x.Ef ds=true:=by rfl):
  FE c Q ks x k (⟨some d,op,ty,pos,af,some (jg,bg)⟩::rest) fr xs E:=λhE a w Vs hM hB hok hx=>by
 obtain⟨h1,h2,h3,h4,hrf⟩:=ZcO hlt
 rintro rfl hT0 hPK
 have hsT:ZcG (ZdH x.B) (ET c λs r=>∃sl l v,E sl l/\Ψ sl l v r/\s=(Vs.length,v)::sl):=fun σ w w'⟨sl,l',q1,q2,q3⟩hE=>⟨sl,l',q1,q2,q3.later hE⟩
 refine ZcN hok h1 (XP.stays hB p) hsT hT0.2 (λhh=>absurd h2 hh) hPK (λhC ho'=>Zcn (λd' hd'=>by cases hd';exact hnd) hC ho') (λa' w' σ F he hdp hT hPp hσ hrel=>?_) (hk ?_ a w (Vs++[p.pred w.heap.size]) hM hB hok (λq hq=>?_) Q5 ⟨hsT,XT.nil rfl⟩ hPK)
 ·simp only[Region.wanted,Zfx hjg (F.at_ tg _ hbg),BEq.rfl,if_true]
  obtain⟨sl,l,e1,e2,M⟩:=hT h2
  refine OpTo.guard ((h sl l e1 a' w' (ZfF F (λq hq hf hd=>?_) hds) M (λq hq hd=>⟨_,hdp q.1 hd _ (hx q hq)⟩)).mono λv w''⟨q1,r,q2,q3⟩=>⟨q1,hp _ _ _ _ e1 q2 _ _,λhh=>absurd (h3.symm.trans hh) Bool.false_ne_true,λhh=>absurd h2 hh,λ_=>⟨(Vs.length,v)::sl,r,⟨sl,l,v,e1,q2,rfl⟩,?_,q3⟩, .none h4,λq hq e=>(ZaI hrf q hq e).elim⟩)
  ·rw[<-hσ q.1 (.inl hf) hd]
   exact e2 q hq
  ·intro q hq
   rcases List.mem_cons.1 hq with rfl|hq
   ·simp[updS]
   ·have:=hE sl l e1 q hq
    simp only[updS]
    rw[if_neg Q0]
    exact e2 q hq
 ·rintro s r ⟨sl,l,v,e1,_,rfl⟩ q hq
  rcases List.mem_cons.1 hq with rfl|hq
  ·exact Nat.lt_succ_self _
  ·exact Nat.lt_succ_of_lt (hE sl l e1 q hq)
 ·rcases List.mem_cons.1 hq with rfl|hq
  ·simp
  ·exact Ze5 hx q hq
section
variable {ι:Type} {P:ι->Prop} {sl:ι->FN} {li:ι->Row}
theorem Zuv{κ:Type}{jg tg:Nat}(hjg:(x.ol.toArray[jg]?).bind (·.dst)=some tg)(hbg:look fr tg=some (.bool bg))(val:ι->κ->Value)(p:ι->κ->Prop)(f:ι->κ->Row)(ds:List (Nat×Nat))(xp:XP)
  (h:∀i,P i->OpF c x xs ⟨some d,op,ty,pos,af,none⟩ (dsFr ds (sl i)++fr) (li i) (λv r=>∃j,v=val i j/\p i j/\r=f i j)) (hp:∀i j n0 w,xp.pred n0 (val i j) w)
  (hk:FE c Q ks x (k+1) rest fr ((k,xp)::xs) (EI (ι:=ι×κ) (λq=>P q.1/\p q.1 q.2) (λq=>(k,val q.1 q.2)::sl q.1) (λq=>f q.1 q.2)))
  (hlt:effX x.Ef x.Rl [] x.n k op=true:=by rfl) (hnd:ZcU d fr=true:=by rfl) (hds:dsOk x.ol.toArray ⟨some d,op,ty,pos,af,none⟩ x.Ef ds=true:=by rfl):
  FE c Q ks x k (⟨some d,op,ty,pos,af,some (jg,bg)⟩::rest) fr xs (EI P sl li):=by
 refine Zwz hjg hbg (λs _ v r=>∃i j,P i/\p i j/\s=sl i/\v=val i j/\r=f i j) ds xp ?_ ?_ ?_ hlt hnd hds
 ·exact vAZ
 ·rintro s r v r' _ ⟨i,j,_,_,_,rfl,_⟩ n0 w
  exact hp i j n0 w
 ·exact vAb
theorem Zkb{jg tg:Nat}(hjg:(x.ol.toArray[jg]?).bind (·.dst)=some tg)(hbg:look fr tg=some (.bool bg))(f:ι->Row)(ds:List (Nat×Nat))(h:∀i,P i->OpF c x xs ⟨some d,op,ty,pos,af,none⟩ (dsFr ds (sl i)++fr) (li i) (λu r=>u=v/\r=f i))
  (hk:FE c Q ks x (k+1) rest ((d,v)::fr) xs (EI P sl f))
  (hlt:effX x.Ef x.Rl [] x.n k op=true:=by rfl) (hd:Nat.blt d c.n=true:=by rfl) (hds:dsOk x.ol.toArray ⟨some d,op,ty,pos,af,none⟩ x.Ef ds=true:=by rfl):
  FE c Q ks x k (⟨some d,op,ty,pos,af,some (jg,bg)⟩::rest) fr xs (EI P sl li):=λhE a w Vs hM hB hok hx=>by
 obtain⟨h1,h2,h3,h4,hrf⟩:=ZcO hlt
 rintro rfl hT0 hPK
 have hsT:ZcG (ZdH x.B) (ET c (EI P sl f)):=fun σ w w'⟨s,l',q1,q2,q3⟩hE=>⟨s,l',q1,q2,q3.later hE⟩
 have hlt':∀i,P i->∀q∈sl i,q.1<Vs.length:=λi hi q hq=>hE _ _ ⟨i,hi,rfl,rfl⟩ q hq
 refine ZcN hok h1 (Kn.stays _ v) hsT hT0.2 (λhh=>absurd h2 hh) hPK (λhC ho=>Zd7 rfl hd hC ho) (λa' w' σ F he hdp hT hPp hσ hrel=>?_) (hk ?_ a w (Vs++[Kn v]) hM hB hok (Ze5 hx) Q5 ⟨hsT,XT.nil rfl⟩ hPK)
 ·simp only[Region.wanted,Zfx hjg (F.at_ tg _ hbg),BEq.rfl,if_true]
  obtain⟨_,_,⟨i,hi,rfl,rfl⟩,e2,M⟩:=hT h2
  refine OpTo.guard ((h i hi a' w' (ZfF F (λq hq hf hd=>?_) hds) M (λq hq hd=>⟨_,hdp q.1 hd _ (hx q hq)⟩)).mono λu w''⟨q1,r,⟨q2,q4⟩,q3⟩=>⟨q1,q2,λhh=>absurd (h3.symm.trans hh) Bool.false_ne_true,λhh=>absurd h2 hh,λ_=>⟨sl i,r,⟨i,hi,rfl,q4⟩,?_,q3⟩, .none h4,λq hq e=>(ZaI hrf q hq e).elim⟩)
  ·rw[<-hσ q.1 (.inl hf) hd]
   exact e2 q hq
  ·intro q hq
   have:=hlt' i hi q hq
   show updS σ Vs.length u q.1=q.2
   simp only[updS]
   rw[if_neg Q0]
   exact e2 q hq
 ·rintro _ _ ⟨i,hi,rfl,rfl⟩ q hq
  exact Nat.lt_succ_of_lt (hlt' i hi q hq)
end
end
theorem ZxT{e:RtE}{t:Nat×Obj}(M:Mem S W w (e.row++[[t]]).flatten):∀p∈e.row.flatten,p.1≠t.1:=λp hp h=>by
 have h1:=M.nd
 rw[List.flatten_append,List.map_append,List.nodup_append] at h1
 exact h1.2.2 p.1 (List.mem_map_of_mem hp) t.1 Q5 h
theorem Zm9{W w w':World}{x:RtX}{e:RtE}{t:Nat×Obj}(hA:RtA s x e)(M:Mem S W w (e.row++[[t]]).flatten)(E:Ext [t.1] w w'):RtAt w' s x:=hA.at_ λp hp=>by
 have h1:=M.at_ p (by rw[List.flatten_append];exact List.mem_append_left _ hp)
 exact(E.block p.1 (Array.getElem?_eq_some_iff.1 h1).1 (by simpa using ZxT M p hp)).trans h1
attribute [local irreducible] OpTo wpListIn Code.wpIn MW Cal
end
section
attribute [local irreducible] OpTo wpListIn Code.wpIn MW Cal
theorem Zvq{b a c d e f g h t i:EN}:([b,a,c,d,e,f,g,h,t,i]:Row).flatten.Perm (([t]:Row).flatten++([b,a,c,d,e,f,g,h,i]:Row).flatten):=vAo
end
section
open Go.RowKit Go.Sort Go.Shelf
attribute [local irreducible] OpTo wpListIn Code.wpIn MW Cal
abbrev AOrg:= {o:OrgV//IsOg o}
instance :Inhabited AOrg:=⟨⟨⟨ZiF,0,ZiF,0⟩,Zeh,Zeh⟩⟩
end
section
attribute [local irreducible] OpTo wpListIn Code.wpIn MW Cal
section
variable {α:Type} {c:α->Int} {x y:α} {o l R:List α} {i:Nat} {d:Bool}
theorem mg1(h:o++Zbv c x d (l.drop i)=R)(hi:i<l.length)(hy:l[i]=y)(hd:d=false)(h0:0<=c y)(h1:¬c y=0):((o++[x])++[y])++Zbv c x true (l.drop (i+1))=R:=by
 rw[<-h,<-List.getElem_cons_drop hi,hy,Zcv,hd,dqT h0,if_neg h1]
 simp
theorem mg2(h:o++Zbv c x d (l.drop i)=R)(hi:i<l.length)(hy:l[i]=y)(hd:d=false)(h1:c y=0):(o++[x])++Zbv c x true (l.drop (i+1))=R:=by
 rw[<-h,<-List.getElem_cons_drop hi,hy,Zcv,hd,dqT (show 0<=c y by omega),if_pos h1]
 simp
theorem mg3(h:o++Zbv c x d (l.drop i)=R)(hi:i<l.length)(hy:l[i]=y)(hd:d=true∨c y<0)(h1:¬c y=0):(o++[y])++Zbv c x d (l.drop (i+1))=R:=by
 rw[<-h,<-List.getElem_cons_drop hi,hy,Zcv,if_neg h1]
 rcases hd with rfl|hd
 ·simp
 ·rw[dqF (show ¬0<=c y by omega)]
  simp
theorem mg4(h:o++Zbv c x d (l.drop i)=R)(hi:i<l.length)(hy:l[i]=y)(hd:d=true)(h1:c y=0):o++Zbv c x d (l.drop (i+1))=R:=by
 rw[<-h,<-List.getElem_cons_drop hi,hy,Zcv,hd,if_pos h1]
 simp
theorem mgE0(h:o++Zbv c x d (l.drop i)=R)(hi:i=l.length)(hd:d=false):o++[x]=R:=by
 rw[<-h,hi,List.drop_length,ZdX,hd]
 rfl
theorem mgE1(h:o++Zbv c x d (l.drop i)=R)(hi:i=l.length)(hd:d=true):o=R:=by
 rw[<-h,hi,List.drop_length,ZdX,hd]
 simp
theorem Zuf(h:o++Zbv c x d (l.drop i)=Zbv c x false l)(hn:l.length<n):o.length<=n:=by
 have h1:=congrArg List.length h
 have h2:=Zg0 c x (done:=false) (l:=l)
 rw[List.length_append] at h1
 simp at h2
 omega
end
section
variable {self now:Int} {l:List OrgV} {x:OrgV}
end
theorem Zok(l:List AdvV)(hx:∀x∈l,IsAv x)(hlen:l.length<=100000)(u v:Value)(fl:Int)(W:World)(hu:SlAt W 37 u l.length (avsC l))(hv:SlAt W 37 v l.length (avsC l)):
  Cal prog 100 [.agg (plC u fl).toArray, .agg (plC v fl).toArray].toArray W λr w'=>r= .bool true/\Ext [] W w':=by
 have h1:=hu.one
 have h2:=hv.one
 unfold plC
 refine Zar (n:=17) [] Tryz.func100 rfl rfl rfl ?_
 intro a w F M hwW
 refine W1 2 ?_;intro a F
 refine Qs F M ?_;clear F M;intro b2 w M a F
 refine Qs F M ?_;clear F M;intro b3 w M a F
 refine W5 21 @Ztn ?_;intro a w F M
 exact Qq F (⟨rfl,M.ext⟩)
theorem vAc(h:p:=by
  refine W3 [0,2] ?_
  refine g_if rfl (λh1=>?_) (λh1=>?_)
  ·replace h1:=Zaa h1
   refine W3 [8,0,2] ?_
   exact Zae rfl rfl rfl λw M=>absurd (by assumption:decide (x=x)=false) Q5
  ·replace h1:=Zab h1
   refine W3 [4,0,2] ?_
   exact yN (i+1) ⟨Q0,trivial⟩):p:=h
theorem Zzb(l:List OrgV)(hx:∀x∈l,IsOg x)(hlen:l.length<=100000)(u v:Value)(W:World)(hu:SlAt W 34 u l.length (ogsC l))(hv:SlAt W 34 v l.length (ogsC l)):
  Cal prog 94 [u,v].toArray W λr w'=>r= .bool true/\Ext [] W w':=by
 obtain⟨q1,cap1,rfl,_⟩:=id hu
 obtain⟨q2,cap2,rfl,_⟩:=id hv
 have hm1:=hu.memB [] Q5
 have hm2:=hv.memB [] Q5
 refine yS (n:=26) Tryz.func94 rfl rfl ?_
 refine W3 [15,0,11] ?_
 refine Zau (ι:=Nat) ⟨λ(i:Nat)=>l.length-i,λ(i:Nat)=>i<=l.length/\(True),λ(i:Nat)=>[(13, .int .i64 i),(12, .int .i64 l.length),(0, .slice q1 l.length cap1),(1, .slice q2 l.length cap2)],λ(i:Nat)=>[]⟩ 0 ⟨Q0,trivial⟩ (λa F=>F.only [13,12,0,1] rfl) Qa ?_
 rintro i ⟨hi_i,hdm⟩
 by_cases hlt_i:i<l.length
 ·obtain⟨b,o,cs,t',fz,rfl,hb,hs⟩:=hm1 Q0
  obtain⟨x,hx0⟩:∃x,x=l[i]:=⟨_,rfl⟩
  have hxm:x∈l:=by rw[hx0];exact List.getElem_mem hlt_i
  have hxi:IsOg x:=hx _ hxm
  have f1:seg cs (o+(i:Int).toNat*34) 34=some (ogC x):=by rw[hx0];exact Zal (ZdF hx) hs hlt_i Q0
  obtain⟨b',o',cs',t2,fz',rfl,hb',hs'⟩:=hm2 Q0
  have f2:seg cs' (o'+(i:Int).toNat*34) 34=some (ogC x):=by rw[hx0];exact Zal (ZdF hx) hs' hlt_i Q0
  have f3:ZaZ ogK (ogC x)=true:=Zl3 hxi
  have f4:eqVs (ogC x) (ogC x)=true:=by rw[Zyj hxi hxi];simp
  refine W3 [6,0,11,1009,2,0,0,2,0,0] ?_
  refine Zlo rfl rfl (Zl3 Qd) (Zl3 Qd) (Zyj Qd Qd) ?_
  exact vAc
 ·refine W3 [6,0,2,0,8] ?_
  exact vA5
end
section
section
variable {c:Cx} {Q:Exit->Act->World->Prop} {ks:List KF} {fr:FN} {row:Row} {ι:Type}
theorem gN{J:LI ι}{i:ι}(j:ι)(h2:J.p j)(h1:J.μ j<J.μ i:=by dsimp only;omega)(hfr:Zgt ((J.fi j).map (·.1)) fr=some (J.fi j):=by rfl)(hl:(J.li j).Sublist row:=by(try dsimp only);repeat (first|exact .refl _|with_reducible exact sC0 _|with_reducible apply sC2|apply sC1)):G c (LQ J c Q ks i) [] (.ext .normal) fr row:=Zgz j h2 h1 (λa F=>F.only _ hfr) hl
theorem gJ{J:LJ ι}(j:ι)(h2:J.p j)(hfr:Zgt ((J.fi j).map (·.1)) fr=some (J.fi j):=by rfl)(hl:(J.li j).Sublist row:=by(try dsimp only);repeat (first|exact .refl _|with_reducible exact sC0 _|with_reducible apply sC2|apply sC1)):G c (JQ J c Q ks) [] (.ext .normal) fr row:=Zra j h2 (λa F=>F.only _ hfr) hl
theorem gL(J:LI ι)(i0:ι){x:Code}(h0:J.p i0)(h:∀i,J.p i->G c (LQ J c Q ks i) [] (.code x) (J.fi i) (J.li i))(hfr:Zgt ((J.fi i0).map (·.1)) fr=some (J.fi i0):=by rfl)(hl:(J.li i0).Sublist row:=by(try dsimp only);repeat (first|exact .refl _|with_reducible exact sC0 _|with_reducible apply sC2|apply sC1)):G c Q ks (.code (.loop x)) fr row:=Zau J i0 h0 (λa F=>F.only _ hfr) hl h
section
variable {α:Type} {enc:α->List Value} {sz:Nat} {l:List α} {q:Option Addr} {cap:Nat}
def RJ(I LEN SL:Nat)(l:List α)(q:Option Addr)(cap:Nat)(p:Nat->ι->Prop)(f:ι->FN)(r:ι->Row):LI (Nat×ι):=
 ⟨λk=>l.length-k.1,λk=>k.1<=l.length/\p k.1 k.2,λk=>(I, .int .i64 k.1)::(LEN, .int .i64 l.length)::(SL, .slice q l.length cap)::f k.2,λk=>r k.2⟩
theorem ZfW(I LEN SL:Nat)(he:∀x∈l,(enc x).length=sz)
  (hm:0<l.length->∃b o cs t fz,q=some ⟨b,o,none⟩/\(∀w',Ext c.S c.W w'->w'.heap[b]? =some (.cells (List.toArray cs) t fz))/\seg cs o (l.length*sz)=some (encL enc l))
  (p:Nat->ι->Prop) (f:ι->FN) (r:ι->Row) (i0:ι) (h0:p 0 i0) {x:Code}
  (hb:∀i s y(hi:i<l.length),y=l[i]->y∈l->∀b o cs t fz,q=some ⟨b,o,none⟩->(∀w',Ext c.S c.W w'->w'.heap[b]? =some (.cells (List.toArray cs) t fz))->seg cs (o+(i:Int).toNat*sz) sz=some (enc y)->p i s->G c (LQ (RJ I LEN SL l q cap p f r) c Q ks (i,s)) [] (.code x) ((I, .int .i64 i)::(LEN, .int .i64 l.length)::(SL, .slice q l.length cap)::f s) (r s))
  (hx:∀s i,i=l.length->p i s->G c (LQ (RJ I LEN SL l q cap p f r) c Q ks (i,s)) [] (.code x) ((I, .int .i64 i)::(LEN, .int .i64 l.length)::(SL, .slice q l.length cap)::f s) (r s))
  (hfr:Zgt (I::LEN::SL::(f i0).map (·.1)) fr=some ((I, .int .i64 (0:Nat))::(LEN, .int .i64 l.length)::(SL, .slice q l.length cap)::f i0):=by rfl)
  (hl:(r i0).Sublist row:=by(try dsimp only);repeat (first|exact .refl _|with_reducible exact sC0 _|with_reducible apply sC2|apply sC1)):G c Q ks (.code (.loop x)) fr row:=by
 refine Zau (RJ I LEN SL l q cap p f r) (0,i0) ⟨Nat.zero_le _,h0⟩ (λa F=>F.only _ hfr) hl ?_
 rintro⟨i,s⟩ ⟨h1,h2⟩
 rcases Nat.lt_or_ge i l.length with h3|h3
 ·obtain⟨b,o,cs,t,fz,h4,h5,h6⟩:=hm (Nat.lt_of_le_of_lt (Nat.zero_le _) h3)
  exact hb i s _ h3 rfl (List.getElem_mem h3) b o cs t fz h4 h5 (Zal he h6 h3 rfl) h2
 ·exact hx s i (Nat.le_antisymm h1 h3) h2
theorem gR{I LEN SL:Nat}{p:Nat->ι->Prop}{f:ι->FN}{r:ι->Row}{s:ι}(s':ι)(h2:p (i+1) s')(hi:i<l.length:=by assumption)
  (hfr:Zgt (I::LEN::SL::(f s').map (·.1)) fr=some ((I, .int .i64 ((i+1:Nat):Int))::(LEN, .int .i64 l.length)::(SL, .slice q l.length cap)::f s'):=by rfl)
  (hl:(r s').Sublist row:=by(try dsimp only);repeat (first|exact .refl _|with_reducible exact sC0 _|with_reducible apply sC2|apply sC1)):G c (LQ (RJ I LEN SL l q cap p f r) c Q ks (i,s)) [] (.ext .normal) fr row:=
 Zgz (i+1,s') ⟨hi,h2⟩ (by show l.length-(i+1)<l.length-i;omega) (λa F=>F.only _ hfr) hl
end
end
structure InW(W:World)(l:EN):Prop where
 at_:∀p∈l,W.heap[p.1]? =some p.2
 nd:(l.map (·.1)).Nodup
theorem Mem.inW{W0 w:World}{l l0:EN}(M:Mem S W0 w l)(h:l0.Sublist l):InW w l0:=⟨λp hp=>M.at_ p (h.subset hp),M.nd.sublist (h.map _)⟩
theorem InW.mem{l:EN}(h:InW W l):Mem (l.map (·.1)) W W l:=⟨Ext.refl _ _,h.at_,h.nd,λp hp=> .inl (List.mem_map_of_mem hp)⟩
theorem Zdw{P:Program}{f:FuncId}{fn:Func}{x:Code}(l0:Row)(hH:InW W l0.flatten){flds:List (Nat×Nat×Nat)}{slcs:List Nat}(hf:(flds.all λq=>ZdU P q.1 q.2.1 q.2.2)=true)(hs:(slcs.all λt=>ZoH P t)=true)
  (hfn:P.funcs[f]? =some fn) (hx:fn.body=some x) (hn:fn.ntmps=n) (hle:Nat.ble vs.length n=true)
  (h:G ⟨P,none,n,[],l0.flatten.map (·.1),W,flds,slcs,hf,hs⟩ (Post P fn R) [] (.code x) (Zfj 0 vs) l0):Cal P f vs.toArray W R:=
 Zar (l0.flatten.map (·.1)) hfn hx hn hle λa w F _ hw=>h a w F (hw▸hH.mem)
def ZiD:List Nat->Nat->Row->Row×Row
 | _,_,[]=>([],[])
 |[],_,r=>([],r)
 |i::is,k,e::r=>match Nat.beq i k with
  |true=>(e::(ZiD is (k+1) r).1,(ZiD is (k+1) r).2)
  |false=>((ZiD (i::is) (k+1) r).1,e::(ZiD (i::is) (k+1) r).2)
theorem ZgT:∀(is:List Nat)(k:Nat)(l:Row),l.flatten.Perm ((ZiD is k l).1.flatten++(ZiD is k l).2.flatten)
 |is,k,[]=>by
  unfold ZiD
  exact .refl _
 |[],k,e::r=>by
  unfold ZiD
  exact .refl _
 |i::is,k,e::r=>by
  unfold ZiD
  split
  ·have:=ZgT is (k+1) r
   simp only[List.flatten_cons,List.append_assoc]
   exact List.Perm.append_left e this
  ·have:=ZgT (i::is) (k+1) r
   simp only[List.flatten_cons]
   refine(List.Perm.append_left e this).trans ?_
   rw[<-List.append_assoc,<-List.append_assoc]
   exact List.Perm.append_right _ List.perm_append_comm
section
variable {c:Cx} {Q:Exit->Act->World->Prop} {ks:List KF} {fr:FN} {row:Row} {ι:Type} {d:Nat} {ty:TypeId} {pos:String} {af:Array Edge} {g:Option (Nat×Bool)} {rest:List Oper} {aa:Array Oper}
theorem Zmr{fn:Func}{c:Cx}{l:Row}(hdf:c.df=[])(hr:fn.results=([]:List ResultVar).toArray)(h:∀w,Mem c.S c.W w l.flatten->R (.tuple #[]) w):G c (Post c.P fn R) [] (.ext .normal) fr l:=λa w F M=>by
 have F':=F
 rw[hdf] at F'
 exact ZzV F' hr .nil (h w M)
theorem Zik(i:Nat){sel rst:Row}{st:St}(hsel:ZiD [i] 0 row=(sel,rst))(hk:G c Q ks st fr (sel++rst)):G c Q ks st fr row:=λa w F M=>hk a w F (by
 have:=ZgT [i] 0 row
 rw[hsel] at this
 rw[List.flatten_append]
 exact M.perm this)
section
variable {α:Type} {enc:α->List Value} {sz:Nat} {l:List α} {q:Option Addr} {cap:Nat}
theorem ZcT(I LEN SL:Nat)(he:∀x∈l,(enc x).length=sz){e:TypeId}
  (hm:0<l.length->∃b j,q=some ⟨b,0,none⟩/\ent=[(b, .cells (encL enc l++j).toArray e (0,0))])
  (p:Nat->ι->Prop) (f:ι->FN) (r:ι->Row) (i0:ι) (h0:p 0 i0) {x:Code}
  (hb:∀i s y(hi:i<l.length),y=l[i]->y∈l->∀b j,q=some ⟨b,0,none⟩->ent=[(b, .cells (encL enc l++j).toArray e (0,0))]->seg (encL enc l++j) (0+(i:Int).toNat*sz) sz=some (enc y)->p i s->G c (LQ (RJ I LEN SL l q cap p f r) c Q ks (i,s)) [] (.code x) ((I, .int .i64 i)::(LEN, .int .i64 l.length)::(SL, .slice q l.length cap)::f s) (r s))
  (hx:∀s i,i=l.length->p i s->G c (LQ (RJ I LEN SL l q cap p f r) c Q ks (i,s)) [] (.code x) ((I, .int .i64 i)::(LEN, .int .i64 l.length)::(SL, .slice q l.length cap)::f s) (r s))
  (hfr:Zgt (I::LEN::SL::(f i0).map (·.1)) fr=some ((I, .int .i64 (0:Nat))::(LEN, .int .i64 l.length)::(SL, .slice q l.length cap)::f i0):=by rfl)
  (hl:(r i0).Sublist row:=by(try dsimp only);repeat (first|exact .refl _|with_reducible exact sC0 _|with_reducible apply sC2|apply sC1)):G c Q ks (.code (.loop x)) fr row:=by
 refine Zau (RJ I LEN SL l q cap p f r) (0,i0) ⟨Nat.zero_le _,h0⟩ (λa F=>F.only _ hfr) hl ?_
 rintro⟨i,s⟩ ⟨h1,h2⟩
 rcases Nat.lt_or_ge i l.length with h3|h3
 ·obtain⟨b,j,h4,h5⟩:=hm (Nat.lt_of_le_of_lt (Nat.zero_le _) h3)
  exact hb i s _ h3 rfl (List.getElem_mem h3) b j h4 h5 (Zeu he j h3 (Nat.zero_add _)) h2
 ·exact hx s i (Nat.le_antisymm h1 h3) h2
end
end
section
variable {c:Cx} {Q:Exit->Act->World->Prop} {ks:List KF} {fr fr':FN} {l:Row} {x:RX} {rest rest':List Oper} {k k':Nat} {xs:List (Nat×XP)} {E:ESt} {d:Nat} {op:Op} {ty:TypeId} {pos:String} {af:Array Edge}
def Zd9(ops:Array Oper)(o:Oper)(Ef:List Nat):FN->FN
 |[]=>[]
 |q::r=>match (ZaE o).contains q.1&&Ef.contains q.1 with
  |true=>match (ops[q.1]?).bind (·.dst) with
   |some t=>(t,q.2)::Zd9 ops o Ef r
   |none=>Zd9 ops o Ef r
  |false=>Zd9 ops o Ef r
theorem ZeI{o:Oper}{a:Act}(F:Frm a c.n c.df fr):∀{sl:FN},(∀q∈sl,q.1∈x.Ef->q.1∈ZaE o->ZaP x.ol.toArray q.1 a=q.2)->Frm a c.n c.df (Zd9 x.ol.toArray o x.Ef sl++fr)
 |[],_=>F
 |q::r,h=>by
  have ih:=ZeI F (sl:=r) λq hq=>h q (List.mem_cons_of_mem _ hq)
  unfold Zd9
  split
  ·rename_i hb
   simp only[Bool.and_eq_true] at hb
   have h1:=h q List.mem_cons_self (by simpa using hb.2) (by simpa using hb.1)
   split
   ·rename_i t ht
    refine ih.know ?_
    unfold ZaP at h1
    rw[ht] at h1
    exact h1
   ·exact ih
  ·exact ih
theorem ZwA(Ψ:FN->Row->Value->Row->Prop)(h:∀sl l,E sl l->OpF c x xs ⟨some d,op,ty,pos,af,none⟩ (Zd9 x.ol.toArray ⟨some d,op,ty,pos,af,none⟩ x.Ef sl++fr) l (Ψ sl l))
  (hk:FE c Q ks x (k+1) rest fr xs (λs r=>∃sl l v,E sl l/\Ψ sl l v r/\s=(k,v)::sl))
  (hlt:effX x.Ef x.Rl [] x.n k op=true) (hnd:ZcU d fr=true):
  FE c Q ks x k (⟨some d,op,ty,pos,af,none⟩::rest) fr xs E:=λhE a w Vs hM hB hok hx=>by
 obtain⟨h1,h2,h3,h4,hrf⟩:=ZcO hlt
 rintro rfl hT0 hPK
 have hsT:ZcG (ZdH x.B) (ET c λs r=>∃sl l v,E sl l/\Ψ sl l v r/\s=(Vs.length,v)::sl):=fun σ w w'⟨sl,l',q1,q2,q3⟩hE=>⟨sl,l',q1,q2,q3.later hE⟩
 refine ZcN hok h1 (V:=λ_ _=>True) (λ_ _ _ h _=>h) hsT hT0.2 (λhh=>absurd h2 hh) hPK (λhC ho'=>Zcn (λd' hd'=>by cases hd';exact hnd) hC ho') (λa' w' σ F he hdp hT hPp hσ hrel=>?_) (hk ?_ a w (Vs++[λ_ _=>True]) hM hB hok (Ze5 hx) Q5 ⟨hsT,XT.nil rfl⟩ hPK)
 ·simp only[Region.wanted,if_true]
  obtain⟨sl,l,e1,e2,M⟩:=hT h2
  refine(h sl l e1 a' w' (ZeI F (λq hq hf hd=>?_)) M (λq hq hd=>⟨_,hdp q.1 hd _ (hx q hq)⟩)).mono λv w''⟨q1,r,q2,q3⟩=>⟨q1,trivial,λhh=>absurd (h3.symm.trans hh) Bool.false_ne_true,λhh=>absurd h2 hh,λ_=>⟨(Vs.length,v)::sl,r,⟨sl,l,v,e1,q2,rfl⟩,?_,q3⟩, .none h4,λq hq e=>(ZaI hrf q hq e).elim⟩
  ·rw[<-hσ q.1 (.inl hf) hd]
   exact e2 q hq
  ·intro q hq
   rcases List.mem_cons.1 hq with rfl|hq
   ·simp[updS]
   ·have:=hE sl l e1 q hq
    simp only[updS]
    rw[if_neg Q0]
    exact e2 q hq
 ·rintro s r ⟨sl,l,v,e1,_,rfl⟩ q hq
  rcases List.mem_cons.1 hq with rfl|hq
  ·exact Nat.lt_succ_self _
  ·exact Nat.lt_succ_of_lt (hE sl l e1 q hq)
theorem Zms{id:Nat}(n nt:Nat)(Ef:List Nat) [hm:TMix c.P](hnt:c.n=nt)(hchk:(Zb2 ol.toArray n&&Zdg ol.toArray n&&Nat.ble n ol.length&&Zg8 ol.toArray n nt&&ZcH ol.toArray n Ef&&xOk ol.toArray n Ef []&&Zh3 ol.toArray n [])=true)
  (h:FE c Q ks ⟨ol,n,[],Ef,[],l⟩ 0 ol fr [] (EI (ι:=Unit) (λ_=>True) (λ_=>[]) (λ_=>l))):G c Q ks (.code (.region id ol.toArray true)) fr l:=
 ZfX n nt [] Ef [] [] l hnt hchk (.refl _) Q5 (Ze1 h)
section
variable {ι:Type} {P:ι->Prop} {sl sl':ι->FN} {li:ι->Row}
theorem Zy2{κ:Type}(val:ι->κ->Value)(p:ι->κ->Prop)(f:ι->κ->Row)
  (h:∀i,P i->OpF c x xs ⟨some d,op,ty,pos,af,none⟩ (Zd9 x.ol.toArray ⟨some d,op,ty,pos,af,none⟩ x.Ef (sl i)++fr) (li i) (λv r=>∃j,v=val i j/\p i j/\r=f i j))
  (hk:FE c Q ks x (k+1) rest fr xs (EI (ι:=ι×κ) (λq=>P q.1/\p q.1 q.2) (λq=>(k,val q.1 q.2)::sl q.1) (λq=>f q.1 q.2)))
  (hlt:effX x.Ef x.Rl [] x.n k op=true:=by rfl) (hnd:ZcU d fr=true:=by rfl):
  FE c Q ks x k (⟨some d,op,ty,pos,af,none⟩::rest) fr xs (EI P sl li):=by
 refine ZwA (λs _ v r=>∃i j,P i/\p i j/\s=sl i/\v=val i j/\r=f i j) ?_ ?_ hlt hnd
 ·exact vAZ
 ·exact vAb
theorem Zy4{κ:Type}(val:ι->κ->Value)(p:ι->κ->Prop)(lj:ι->κ->Row){vs:ι->List Value} [hb:Zad c.P fn](hx:∀f,Ev f y=some (.func (.func fn) #[] #[]))(ha:∀i,P i->evL (Zd9 x.ol.toArray ⟨some d, .call ⟨.value y,ys.toArray,ts⟩,ty,pos,af,none⟩ x.Ef (sl i)++fr) ys=some (vs i))
  (hc:∀i,P i->∀w,Mem c.S c.W w (li i).flatten->Cal c.P fn (vs i).toArray w λv w'=>∃j,v=val i j/\p i j/\Mem [] w w' (lj i j).flatten)
  (hk:FE c Q ks x (k+1) rest fr xs (EI (ι:=ι×κ) (λq=>P q.1/\p q.1 q.2) (λq=>(k,val q.1 q.2)::sl q.1) (λq=>lj q.1 q.2++li q.1)))
  (hlt:effX x.Ef x.Rl [] x.n k (.call ⟨.value y,ys.toArray,ts⟩)=true:=by rfl) (hnd:ZcU d fr=true:=by rfl):
  FE c Q ks x k (⟨some d, .call ⟨.value y,ys.toArray,ts⟩,ty,pos,af,none⟩::rest) fr xs (EI P sl li):=
 Zy2 val p (λi j=>lj i j++li i) (λi hi=>Zh6 (val i) (p i) (lj i) (hx _) (ha i hi) (hc i hi)) hk hlt hnd
theorem Zir{e:TypeId}{n:ι->Nat}{us:ι->List Value}{vs:ι->List Value} [hb:Zad c.P fn](hx:∀f,Ev f y=some (.func (.func fn) #[] #[]))(ha:∀i,P i->evL (Zd9 x.ol.toArray ⟨some d, .call ⟨.value y,ys.toArray,ts⟩,ty,pos,af,none⟩ x.Ef (sl i)++fr) ys=some (vs i))
  (hc:∀i,P i->∀w,Mem c.S c.W w (li i).flatten->Cal c.P fn (vs i).toArray w λv w'=>∃ent,OwnS e sz v (n i) (us i) ent/\Mem [] w w' ent)
  (hk:FE c Q ks x (k+1) rest fr xs (EI (ι:=ι×Value×EN) (λq=>P q.1/\OwnS e sz q.2.1 (n q.1) (us q.1) q.2.2) (λq=>(k,q.2.1)::sl q.1) (λq=>q.2.2::li q.1)))
  (hlt:effX x.Ef x.Rl [] x.n k (.call ⟨.value y,ys.toArray,ts⟩)=true:=by rfl) (hnd:ZcU d fr=true:=by rfl):
  FE c Q ks x k (⟨some d, .call ⟨.value y,ys.toArray,ts⟩,ty,pos,af,none⟩::rest) fr xs (EI P sl li):=
 Zy4 (κ:=Value×EN) (λ_ j=>j.1) (λi j=>OwnS e sz j.1 (n i) (us i) j.2) (λ_ j=>[j.2]) hx ha (λi hi w M=>Cal.mono (hc i hi w M) λv w' h=>by
  obtain⟨ent,h1,h2⟩:=h
  exact⟨(v,ent),rfl,h1,by simpa using h2⟩) hk hlt hnd
theorem Zf0(hn:Nat.beq k x.n=true)(hRl:x.Rl=[])(hEf:∀i,P i->((sl i).map (·.1)).all x.Ef.contains=true)(h:∀i,P i->G c Q ks (.ops x.ol.toArray rest) (toFr x.ol.toArray (sl i)++fr) (li i)):FE c Q ks x k rest fr xs (EI P sl li):=
 Zis hn (λi hi q hq=>by
  have:=List.all_eq_true.1 (hEf i hi) q.1 (List.mem_map_of_mem hq)
  simpa using this) λi hi=>⟨sl i,by rw[hRl];rfl,h i hi⟩
end
theorem Zdr{all:Array Oper}{g:Option (Nat×Bool)}{e:TypeId}{us:List Value} [hb:Zad c.P fn](hx:Ev fr y=some (.func (.func fn) #[] #[]))(ha:evL fr ys=some vs)
  (hc:∀w,Mem c.S c.W w l.flatten->Cal c.P fn vs.toArray w λv w'=>∃ent,OwnS e sz v n us ent/\Mem [] w w' ent)
  (hk:∀v ent,OwnS e sz v n us ent->G c Q ks (.ops all rest) ((d,v)::fr) (ent::l)) (hd:Nat.blt d c.n=true:=by rfl) (hg:gOk all fr g=some true:=by rfl):G c Q ks (.ops all (⟨some d, .call ⟨.value y,ys.toArray,ts⟩,ty,pos,af,g⟩::rest)) fr l:=
 ZaU (ι:=Value×EN) (λj=>j.1) (λj=>OwnS e sz j.1 n us j.2) (λj=>[j.2]) hx ha (λw M=>Cal.mono (hc w M) λv w' h=>by
  obtain⟨ent,h1,h2⟩:=h
  exact⟨(v,ent),rfl,h1,by simpa using h2⟩) (λj hj=>hk j.1 j.2 hj) hd hg
theorem Zil{id:Nat}(n nt k:Nat) [hm:TMix c.P](hnt:c.n=nt)(hchk:(Zb2 ol.toArray n&&Zdg ol.toArray n&&Nat.ble n ol.length&&Zg8 ol.toArray n nt&&ZcH ol.toArray n [k]&&xOk ol.toArray n [k] []&&Zh3 ol.toArray n [])=true)
  (h:FE c Q ks ⟨ol,n,ent.map (·.1),[k],[],rst⟩ 0 ol fr [] (EI (ι:=Unit) (λ_=>True) (λ_=>[]) (λ_=>ent::rst))):G c Q ks (.code (.region id ol.toArray true)) fr (ent::rst):=
 ZfX n nt (ent.map (·.1)) [k] [] [ent] rst hnt hchk Q5 (λb hb=>by simpa using hb) (Ze1 h)
theorem vBS(h:p:=by
  refine Zis hn (by rintro i _ q hq;simp at hq;subst hq;simp) ?_
  rintro⟨_,v',ent'⟩ ⟨_,hO'⟩
  refine⟨_,rfl,?_⟩
  have:=hk v' ent' hO'
  unfold toFr
  rw[hdst]
  exact this):p:=h
theorem Zjp{α:Type}{enc:α->List Value}{out:List α}{x0:α}(j:Nat){st xt e:TypeId}{y1:Operand}{t2:Nat}{sz by_:Nat} [hst:TU c.P st (.slice e)] [hel:TEl c.P e sz by_] [hxt:TNI c.P xt]
  (hx:Ev fr y1=some v) (hO:OwnS e sz v out.length (encL enc out) ent) (hj:(j,XP.nw 1 (.cells (enc x0).toArray t' fz))∈xs) (hz:(enc x0).length=sz) (hbd:(out.length+1)*by_<=140737488355328) (hln:out.length+1<=9223372036854775807) (h1:(enc x0).all (·.oneCell')=true)
  (hk:∀v' ent',OwnS e sz v' (out++[x0]).length (encL enc (out++[x0])) ent'->G c Q ks (.ops ol.toArray rest) ((d,v')::fr) (ent'::rst))
  (hlt:effX [k] [] [] n k (.call ⟨.builtin .append, #[y1, .tmp t2], #[st,xt]⟩)=true:=by rfl) (hnd:ZcU d fr=true:=by rfl) (hd:(ZaE ⟨some d, .call ⟨.builtin .append, #[y1, .tmp t2], #[st,xt]⟩,ty,pos,af,none⟩).contains j=true:=by rfl) (ht:(ol.toArray[j]?).bind (·.dst)=some t2:=by rfl)
  (hn:Nat.beq (k+1) n=true:=by rfl) (hdst:(ol.toArray[k]?).bind (·.dst)=some d:=by rfl):
  FE c Q ks ⟨ol,n,ent.map (·.1),[k],[],rst⟩ k (⟨some d, .call ⟨.builtin .append, #[y1, .tmp t2], #[st,xt]⟩,ty,pos,af,none⟩::rest) fr xs (EI (ι:=Unit) (λ_=>True) (λ_=>[]) (λ_=>ent::rst)):=by
 refine Zg5 (κ:=Value×EN) (λ_ b=>b.1) (λ_ b=>OwnS e sz b.1 (out++[x0]).length (encL enc (out++[x0])) b.2) (λ_ b=>b.2::rst) [] .any (λi hi=>?_) (λ_ _ _ _=>trivial) ?_ hlt hnd rfl
 ·exact ZvP (c:=c) (fr:=fr) (xs:=xs) (x:=⟨ol,n,ent.map (·.1),[k],[],rst⟩) j hx hO (l:=ent::rst) (r:=rst.flatten) (f:=λe=>e::rst) (.refl _) (λq hq=>List.mem_map_of_mem hq) hj hz hbd hln (λent'=> .refl _) h1 hd ht
 ·exact vBS
end
section
variable {c:Cx} {Q:Exit->Act->World->Prop} {ks:List KF} {fr fr':FN} {X:RX} {rest:List Oper} {kx:Nat} {d:Nat} {ty:TypeId} {pos:String} {af:Array Edge} {g:Option (Nat×Bool)} {xs_:List (Nat×XP)} {E:ESt}
section arith
variable {t t':TypeId} {x y:Operand} {k:IntKind} {m n s:Int}
end arith
theorem Zc1(i:Nat){x:Operand} [ht:TOne c.P t](hx:Ev fr x=some (.pointer (some ⟨b,off,none⟩)))(hl:nthO X.lk i=some [(b, .cells cs.toArray t' fz)])(hv:nth cs off=some v)
  (hk:FE c Q ks X (kx+1) rest ((d,v)::fr) xs_ E) (hlt:flo X.Ef X.Rl [] X.n kx (.load t x)=true:=by rfl) (hd:Nat.blt d c.n=true:=by rfl) (hg:gOk X.ol.toArray fr g=some true:=by rfl):FE c Q ks X kx (⟨some d, .load t x,ty,pos,af,g⟩::rest) fr xs_ E:=
 fe_v (λa w F M R r=>ZcB (F.e hx) (M.at_ _ (Zak hl)) hv r) hk hlt hd hg
theorem ZfK(i:Nat){x:Operand} [ht:TAgg c.P t n](hx:Ev fr x=some (.pointer (some ⟨b,off,none⟩)))(hl:nthO X.lk i=some [(b, .cells cs.toArray t' fz)])(hv:seg cs off n=some vs)
  (hk:FE c Q ks X (kx+1) rest ((d, .agg vs.toArray)::fr) xs_ E) (hlt:flo X.Ef X.Rl [] X.n kx (.load t x)=true:=by rfl) (hd:Nat.blt d c.n=true:=by rfl) (hg:gOk X.ol.toArray fr g=some true:=by rfl):FE c Q ks X kx (⟨some d, .load t x,ty,pos,af,g⟩::rest) fr xs_ E:=
 fe_v (λa w F M R r=>ZbM (F.e hx) (M.at_ _ (Zak hl)) hv r) hk hlt hd hg
end
structure NotV where
 kind:Int
 seq:Int
 met:Int
 nb:Int
 to:DstV
 hops:Int
 deriving DecidableEq
def noC(o:NotV):List Value:=[.int .i64 o.kind, .int .u16 o.seq, .int .i64 o.met, .int .u64 o.nb]++(dvC o.to++([.int .i64 o.hops]))
def IsNo(o:NotV):Prop:=IsDv o.to
theorem vAl(h:p:=by
  obtain⟨_,_,_,_,_,_,_,_,_,_,_,_,_,_,_,_,e0⟩:=ZdR (show f_to_dip.length=16 from(h.1).len)
  obtain⟨_,_,_,_,_,_,_,_,_,_,_,_,_,_,_,_,e1⟩:=ZdR (show f_to_sip.length=16 from(h.2).len)
  subst e0
  subst e1
  rfl):p:=h
theorem Zez{o:NotV}(h:IsNo o):(noC o).length=40:=by
 obtain⟨f_kind,f_seq,f_met,f_nb,⟨f_to_dip,f_to_dbits,f_to_sip,f_to_sbits,f_to_rt⟩,f_hops⟩:=o
 exact vAl
theorem Zuc{o:NotV}(h:IsNo o):seg (noC o) 0 40=some (noC o):=ZbH (Zez h)
theorem Zv0{o:NotV}(h:IsNo o):nth (noC o) 0=some (.int .i64 o.kind):=by
 obtain⟨f_kind,f_seq,f_met,f_nb,⟨f_to_dip,f_to_dbits,f_to_sip,f_to_sbits,f_to_rt⟩,f_hops⟩:=o
 exact vAl
theorem Zfk(o:NotV):(noC o).all (·.oneCell')=true:=by
 simp[pfC,ipC,noC,dvC,Value.oneCell']
def noZ:List Value:=[.int .i64 0, .int .u16 0, .int .i64 0, .int .u64 0, .int .u8 0, .int .u8 0, .int .u8 0, .int .u8 0, .int .u8 0, .int .u8 0, .int .u8 0, .int .u8 0, .int .u8 0, .int .u8 0, .int .u8 0, .int .u8 0, .int .u8 0, .int .u8 0, .int .u8 0, .int .u8 0, .int .i64 0, .int .u8 0, .int .u8 0, .int .u8 0, .int .u8 0, .int .u8 0, .int .u8 0, .int .u8 0, .int .u8 0, .int .u8 0, .int .u8 0, .int .u8 0, .int .u8 0, .int .u8 0, .int .u8 0, .int .u8 0, .int .u8 0, .int .i64 0, .int .u64 0, .int .i64 0]
theorem ZcM{o:NotV}(h:IsNo o):ZaD (Zcu 1 40) (Zc4 noZ (1*40)) [(0,noC o)]=some (noC o):=by
 obtain⟨f_kind,f_seq,f_met,f_nb,⟨f_to_dip,f_to_dbits,f_to_sip,f_to_sbits,f_to_rt⟩,f_hops⟩:=o
 exact vAl
abbrev noK:List LK:=[.i .i64, .i .u16, .i .i64, .i .u64, .i .u8, .i .u8, .i .u8, .i .u8, .i .u8, .i .u8, .i .u8, .i .u8, .i .u8, .i .u8, .i .u8, .i .u8, .i .u8, .i .u8, .i .u8, .i .u8, .i .i64, .i .u8, .i .u8, .i .u8, .i .u8, .i .u8, .i .u8, .i .u8, .i .u8, .i .u8, .i .u8, .i .u8, .i .u8, .i .u8, .i .u8, .i .u8, .i .u8, .i .i64, .i .u64, .i .i64]
theorem Zma{o:NotV}(h:IsNo o):ZaZ noK (noC o)=true:=by
 obtain⟨f_kind,f_seq,f_met,f_nb,⟨f_to_dip,f_to_dbits,f_to_sip,f_to_sbits,f_to_rt⟩,f_hops⟩:=o
 exact vAl
theorem ZyD{a b:NotV}(ha:IsNo a)(hb:IsNo b):eqVs (noC a) (noC b)=decide (a=b):=by
 have l0:=Zc3 (ha) (hb)
 have m0:(dvC a.to).length=(dvC b.to).length:=by rw[Zbl (ha),Zbl (hb)]
 rw[Bool.eq_iff_iff,decide_eq_true_eq]
 obtain⟨a_kind,a_seq,a_met,a_nb,a_to,a_hops⟩:=a
 obtain⟨b_kind,b_seq,b_met,b_nb,b_to,b_hops⟩:=b
 dsimp only at l0 m0
 simp only[noC,NotV.mk.injEq]
 rw[ZaL _ _ _ _ (by first|rfl|assumption|(simp[pfC,ipC];assumption))]
 rw[ZaL _ _ _ _ (by first|rfl|assumption|(simp[pfC,ipC];assumption))]
 rw[l0]
 exact vA8
abbrev nosC(l:List NotV):List Value:=encL noC l
theorem ZjZ{l:List NotV}(h:∀x∈l,IsNo x):∀x∈l,(noC x).length=40:=λx hx=>Zez (h x hx)
instance {o:NotV}:SegC (noC o) 0 40 (noC o) (IsNo o):=⟨Zuc⟩
instance {o:NotV}:NthC (noC o) 0 (.int .i64 o.kind) (IsNo o):=⟨Zv0⟩
instance {o:NotV}:EncC (noC o) 40 (IsNo o):=⟨Zez,Zfk _⟩
end
section
attribute [local irreducible] OpTo wpListIn Code.wpIn MW Cal
theorem ZAj:∀n:Fin 256,ZbL .and .i64 ((n.val:Int)*2+0) 255=IntKind.u8.wrap ((n.val:Int)*2)/\ZbL .or .u8 (IntKind.u8.wrap ((n.val:Int)*2)) 0=IntKind.u8.wrap ((n.val:Int)*2):=by decide+kernel
theorem ZuF{h:Int}(h0:0<=h)(h1:h<256):ZbL .and .i64 (h*2+0) 255=IntKind.u8.wrap (h*2)/\ZbL .or .u8 (IntKind.u8.wrap (h*2)) 0=IntKind.u8.wrap (h*2):=by
 have:=ZAj ⟨h.toNat,Q0⟩
 rwa[show(((⟨h.toNat,Q0⟩:Fin 256).val:Nat):Int)=h from Int.toNat_of_nonneg h0] at this
def misQ(o:QuaV):QuaV:= {o with heard:=IntKind.u8.wrap (o.heard*2),cnt:=if 8<o.cnt+1 then 8 else o.cnt+1}
theorem ZfD{o:QuaV}(h:BdQu o):addQ o 0=misQ o:=by
 unfold addQ misQ
 rw[(ZuF h.h.1 h.h.2).1]
 have:=ZrW (o.heard*2)
 congr 1
 generalize IntKind.u8.wrap (o.heard*2)=x at this
 exact vBH
def Zgo(o:QuaV):QuaV:=if(misQ (Zaf o)).heard=0 then qu0 else{misQ (Zaf o) with next:=IntKind.u16.wrap ((Zaf o).next+1)}
def repV(o:QuaV)(c:Int):QuaV:=if(Zaf o).known=true/\1<=c/\c<=65535 then{Zaf o with rep:=c} else Zaf o
theorem ZvG(o:QuaV)(hb:SmQu o)(W:World):Cal prog 296 [.agg (quC o).toArray, .int .u8 0].toArray W λr w'=>r= .agg (quC (misQ o)).toArray/\Ext [] W w':=by
 have hb1:=hb.b.h
 have hc:=hb.c
 have hm:ZbL .or .u8 (IntKind.u8.wrap (o.heard*2^min (Int.toNat 1) IntKind.u8.bits)) 0=_:=(ZuF hb1.1 hb1.2).2
 refine yS (n:=17) Tryz.func296 rfl rfl (gQ 2 rfl (Zai rfl rfl λb2=>Zac λb4=>?_))
 refine W3 [5,0] ?_
 refine g_v (λa w F M R r=>Zqn (F.e rfl) (F.e rfl) Q0 rfl r) (gQ 1 rfl (g_v (λa w F M R r=>o_or (F.e rfl) (F.e rfl) rfl r) ?_))
 refine W3 [1,0,5,0,0] ?_
 refine g_v (λa w F M R r=>ZiE (F.e rfl) (F.e rfl) r) ?_
 refine W3 [1,0,4,0,0,3] ?_
 refine Zbn 0 rfl rfl rfl rfl rfl λw M=>?_
 exact⟨by unfold misQ;rw[<-hm];rfl,M.ext⟩
theorem ZkS{o:QuaV}(h:(Zaf o).known=false):Zaf o=qu0:=by
 unfold Zaf at h⊢
 split
 ·rename_i hv
  rw[if_pos hv] at h
  unfold Zci at hv
  rw[h] at hv
  simpa using hv
 ·rfl
theorem Zsj(o:QuaV)(hb:SmQu o)(W:World):Cal prog 228 [.agg (quC o).toArray, .int .i64 0].toArray W λr w'=>r= .agg (quC (misQ o)).toArray/\Ext [] W w':=ZfD hb.b▸ZjO o hb 0 Q0 Q0 W
theorem vBh(h:p:=by
  refine Zbn 0 rfl rfl rfl rfl rfl λw M=>?_
  exact⟨by unfold Zgo;simp[*];rfl,M.ext⟩):p:=h
theorem Zp1(o:QuaV)(hb:BdQu o)(W:World):Cal prog 232 [.agg (quC o).toArray].toArray W λr w'=>r= .agg (quC (Zgo o)).toArray/\Ext [] W w':=by
 have hc:=SmQu.clean hb
 have hm:=ZfD hc.b
 refine yS (n:=15) Tryz.func232 rfl rfl (gQ 2 rfl (Zai rfl rfl λb1=>Zac λb2=>?_))
 refine W4 [4,0,0,0,0,5,0,0,1,0,6,0,3] (T2 @Zfz @ZvG) ?_
 refine g_if rfl (λh1=>?_) (λh1=>?_)
 ·replace h1:=dqU h1
  refine W3 [2,0,0,4] ?_
  exact vBh
 ·replace h1:=dqV h1
  refine W3 [4,0,0,3] ?_
  exact vBh
theorem ZlU(o:QuaV)(hb:BdQu o)(W:World):Cal prog 140 [.agg (quC o).toArray].toArray W λr w'=>r= .agg (quC (Zgo o)).toArray/\Ext [] W w':=by
 have hc:=SmQu.clean hb
 have hm:=ZfD hc.b
 refine yS (n:=20) Tryz.func140 rfl rfl (gQ 2 rfl (Zai rfl rfl λb1=>Zac λb2=>?_))
 refine W4 [4,0,0,0,6,0,3] @Zd0 ?_
 refine g_if rfl (λh1=>?_) (λh1=>?_)
 ·replace h1:=Zaa h1
  refine W3 [2,0,0,4] ?_
  refine Zbn 0 rfl rfl rfl rfl rfl λw M=>?_
  exact⟨by have h0:=ZkS Qd;unfold Zgo;rw[h0];rfl,M.ext⟩
 ·replace h1:=Zab h1
  refine W4 [4,0,0,0,5,0,0,1,0,6,0,3] @Zsj ?_
  refine g_if rfl (λh2=>?_) (λh2=>?_)
  ·replace h2:=dqU h2
   refine W3 [2,0,0,4] ?_
   exact vBh
  ·replace h2:=dqV h2
   refine W3 [4,0,0,3] ?_
   exact vBh
theorem vAd(h:p:=by
  refine Zah 9 rfl (λh1=>?_) (λh1=>?_)
  ·refine gQ 4 rfl (Zah 13 rfl (λh2=>?_) (λh2=>?_))
   ·replace h2:=dqU h2
    refine gQ 5 rfl (g_if rfl (λh3=>?_) (λh3=>?_))
    ·replace h3:=dqU h3
     refine W3 [3,0,4,0,0,3] ?_
     refine Zbn 0 rfl rfl rfl rfl rfl λw M=>?_
     exact⟨by unfold repV;rw[if_pos ⟨by assumption,by assumption,by assumption⟩];rfl,M.ext⟩
    ·replace h3:=dqV h3
     refine W3 [4,0,0,3] ?_
     refine Zbn 0 rfl rfl rfl rfl rfl λw M=>?_
     exact⟨by unfold repV;rw[if_neg (by rintro⟨a,b,c⟩;first|omega|simp_all)];rfl,M.ext⟩
   ·replace h2:=dqV h2
    refine W3 [10,0,0,3] ?_
    refine Zbn 0 rfl rfl rfl rfl rfl λw M=>?_
    exact⟨by unfold repV;rw[if_neg (by rintro⟨a,b,c⟩;first|omega|simp_all)];rfl,M.ext⟩
  ·refine W3 [14,0,0,3] ?_
   refine Zbn 0 rfl rfl rfl rfl rfl λw M=>?_
   exact⟨by unfold repV;rw[if_neg (by rintro⟨a,b,c⟩;first|omega|simp_all)];rfl,M.ext⟩):p:=h
theorem Zp0(o:QuaV)(hb:BdQu o)(c:Int)(W:World):Cal prog 233 [.agg (quC o).toArray, .int .i64 c].toArray W λr w'=>r= .agg (quC (repV o c)).toArray/\Ext [] W w':=by
 have hc:=SmQu.clean hb
 have hm:=ZfD hc.b
 refine yS (n:=20) Tryz.func233 rfl rfl (gQ 2 rfl (Zai rfl rfl λb2=>Zac λb4=>?_))
 refine W4 [4,0,0,0,6,0,1] @Zfz ?_
 exact vAd
theorem ZlT(o:QuaV)(hb:BdQu o)(c:Int)(W:World):Cal prog 141 [.agg (quC o).toArray, .int .i64 c].toArray W λr w'=>r= .agg (quC (repV o c)).toArray/\Ext [] W w':=by
 have hc:=SmQu.clean hb
 have hm:=ZfD hc.b
 refine yS (n:=20) Tryz.func141 rfl rfl (gQ 2 rfl (Zai rfl rfl λb2=>Zac λb4=>?_))
 refine W4 [4,0,0,0,6,0,1] @Zd0 ?_
 exact vAd
end
section
def dvN:DstV:=⟨ZiF,0,ZiF,0,0⟩
theorem ZnZ:IsDv dvN:=⟨Zeh,Zeh⟩
end
section
attribute [local irreducible] OpTo wpListIn Code.wpIn MW Cal
def sqN(t:DstV)(s n:Int):NotV:=⟨5,s,0,0,t,n⟩
def upN(a:AdvV):NotV:=⟨3,a.own.seq,a.own.met,0,a.to,0⟩
def helN(s:Int):NotV:=⟨1,s,0,0,dvN,0⟩
def heaN(n m:Int):NotV:=⟨2,0,m,n,dvN,0⟩
theorem Zmo(s:Int):IsNo (helN s):=ZnZ
theorem Zmp(n m:Int):IsNo (heaN n m):=ZnZ
theorem vAk(h:p:=by
  obtain⟨a,b,c,d,e⟩:=t
  obtain⟨_,_,_,_,_,_,_,_,_,_,_,_,_,_,_,_,e0⟩:=ZdR (show a.length=16 from(h.1).len)
  obtain⟨_,_,_,_,_,_,_,_,_,_,_,_,_,_,_,_,e1⟩:=ZdR (show c.length=16 from(h.2).len)
  subst e0
  subst e1
  rfl):p:=h
theorem ZyB(t:DstV)(h:IsDv t)(s n:Int):ZaD [(0,1),(1,1),(2,1),(3,1),(4,35),(39,1)] noZ [(0,[.int .i64 5]),(4,dvC t),(1,[.int .u16 s]),(5,[.int .i64 n])]=some (noC (sqN t s n)):=vAk
theorem Zqu(t:DstV)(h:IsDv t)(s n:Int):ZaD [(0,1),(1,1),(2,1),(3,1),(4,35),(39,1)] noZ [(0,[.int .i64 5]),(1,[.int .u16 s]),(4,dvC t),(5,[.int .i64 n])]=some (noC (sqN t s n)):=vAk
theorem ZyC(t:DstV)(h:IsDv t)(s m:Int):ZaD [(0,1),(1,1),(2,1),(3,1),(4,35),(39,1)] noZ [(0,[.int .i64 3]),(4,dvC t),(1,[.int .u16 s]),(2,[.int .i64 m])]=some (noC ⟨3,s,m,0,t,0⟩):=vAk
theorem ZvZ(t:DstV)(h:IsDv t)(s m:Int):ZaD [(0,1),(1,1),(2,1),(3,1),(4,35),(39,1)] noZ [(0,[.int .i64 3]),(1,[.int .u16 s]),(2,[.int .i64 m]),(4,dvC t)]=some (noC ⟨3,s,m,0,t,0⟩):=vAk
theorem Znz(s:Int):ZaD [(0,1),(1,1),(2,1),(3,1),(4,35),(39,1)] noZ [(0,[.int .i64 1]),(1,[.int .u16 s])]=some (noC (helN s)):=by
 rfl
theorem Zub(n m:Int):ZaD [(0,1),(1,1),(2,1),(3,1),(4,35),(39,1)] noZ [(0,[.int .i64 2]),(3,[.int .u64 n]),(2,[.int .i64 m])]=some (noC (heaN n m)):=by
 rfl
theorem vCb(h:p:=by
  refine Zbn 0 rfl rfl rfl rfl (Zuc Qd) λw M=>?_
  exact⟨rfl,M.ext⟩):p:=h
theorem Zm1(t:DstV)(h:IsDv t)(s n:Int)(W:World):Cal prog 161 [.agg (dvC t).toArray, .int .u16 s, .int .i64 n].toArray W λr w'=>r= .agg (noC (sqN t s n)).toArray/\Ext [] W w':=by
 have hb:=ZyB t h s n
 have hI:IsNo (sqN t s n):=h
 refine yS (n:=11) Tryz.func161 rfl rfl (gQ 2 rfl (Zai rfl rfl λb3=>Zac λb6=>?_))
 refine W3 [4,0,2,0,0,3] ?_
 exact vCb
theorem ZrV(a:AdvV)(h:IsAv a)(W:World):Cal prog 166 [.agg (avC a).toArray].toArray W λr w'=>r= .agg (noC (upN a)).toArray/\Ext [] W w':=by
 have hb:=ZyC a.to h.1 a.own.seq a.own.met
 have hI:IsNo (upN a):=h.1
 have hI2:IsNo ⟨3,a.own.seq,a.own.met,0,a.to,0⟩:=h.1
 have hd:=h.1
 refine yS (n:=12) Tryz.func166 rfl rfl (gQ 2 rfl (Zai rfl rfl λb1=>Zac λb2=>?_))
 refine W3 [5,0,2,0,2,0,0,0,3] ?_
 exact vCb
theorem ZpD(a:AdvV)(h:IsAv a)(W:World):Cal prog 211 [.agg (avC a).toArray].toArray W λr w'=>r= .agg (noC (upN a)).toArray/\Ext [] W w':=by
 have hb:=ZvZ a.to h.1 a.own.seq a.own.met
 have hI:IsNo (upN a):=h.1
 have hI2:IsNo ⟨3,a.own.seq,a.own.met,0,a.to,0⟩:=h.1
 have hd:=h.1
 refine yS (n:=12) Tryz.func211 rfl rfl (gQ 2 rfl (Zai rfl rfl λb1=>Zac λb2=>?_))
 refine W3 [6,0,2,0,1,0,0,0,3] ?_
 exact vCb
theorem Zfc(a d:Int)(h0:0<=a)(h1:a<=1099511627776)(d0:0<=d)(d1:d<=1099511627776)(W:World):Cal prog 90 [.int .i64 a, .int .i64 d].toArray W λv w'=>v= .int .i64 (Zaz a d)/\Ext [] W w':=by
 refine yS (n:=9) Tryz.func90 rfl rfl ?_
 exact vBi
def stC(s:RtV)(x:RtX)(now frm:Int)(va vs:Value):List Value:=rtC s x++[.int .i64 now, .int .u64 frm,va,vs]
def heaV(a:AdjV):NotV:=heaN a.nb (rxV a.q)
def greI(s:RtV)(al:List NotV)(i:Nat):List NotV:=al++[helN s.hello]++(s.aj.take i).map heaV
def greV(s:RtV)(al:List NotV):List NotV:=al++[helN s.hello]++s.aj.map heaV
def greS(s:RtV)(now:Int):RtV:= {s with hello:=IntKind.u16.wrap (s.hello+1),nextH:=Zaz now 2}
theorem Zlc{al:List NotV}{y:AdjV}(hi:i<s.aj.length)(hy:y=s.aj[i]):greI s al (i+1)=greI s al i++[heaV y]:=by
 unfold greI
 rw[List.take_succ_eq_append_getElem hi,List.map_append,hy]
 simp
theorem ZnP{al:List NotV}:(greI s al i).length<=al.length+1+i:=by
 unfold greI
 simp
 omega
theorem ZjJ(s:RtV)(x:RtX)(now frm:Int)(va vs:Value)(b:Nat)(W:World)(hb:W.heap[b]? =some (.cells (stC s x now frm va vs).toArray 142 (0,0))):Cal prog 69 [.pointer (some ⟨b,0,none⟩)].toArray W λr w'=>r= .bool (decide (now<s.quiet))/\Ext [] W w':=by
 have hB:∀w',Ext [] W w'->w'.heap[b]? =some (.cells (stC s x now frm va vs).toArray 142 (0,0)):=λw' E=>(E.block b (Array.getElem?_eq_some_iff.1 hb).1 Q5).trans hb
 have e1:nth (stC s x now frm va vs) (0+14)=some (.int .i64 now):=rfl
 have e2:nth (stC s x now frm va vs) (0+3)=some (.int .i64 s.quiet):=rfl
 refine yS (n:=13) Tryz.func69 rfl rfl ?_
 refine W3 [6,1011,1,0,1,0,1,0,2,0,2,0,3] ?_
 exact vA5
theorem Zwl(s:RtV)(x:RtX)(now frm:Int)(va vs:Value)(b:Nat)(al:List NotV)(ea e7:EN)(hj:∀y∈s.aj,IsAj y)(hq:∀y∈s.aj,BdQu y.q)(hl:s.aj.length<=16)(hal:al.length<=1000)(hnow:Zag now=true)(hA:OwnS 69 40 va al.length (nosC al) ea)(hJ:OwnS 124 8 x.aj s.aj.length (ajsC s.aj) e7)(W:World)(hH:InW W ([ea,[(b, .cells (stC s x now frm va vs).toArray 142 (0,0))],e7]:Row).flatten):Cal prog 68 [.pointer (some ⟨b,0,none⟩)].toArray W λr w'=>∃va' ea',r= .tuple #[]/\OwnS 69 40 va' ((greV s al)).length (nosC ((greV s al))) ea'/\Mem (([ea,[(b, .cells (stC s x now frm va vs).toArray 142 (0,0))],e7]:Row).flatten.map (·.1)) W w' ([ea',[(b, .cells (stC (greS s now) x now frm va' vs).toArray 142 (0,0))],e7]:Row).flatten:=by
 obtain⟨v6,v7,v8,v9,v10,v11,v12⟩:=x
 dsimp only at hJ
 obtain⟨q7,c7,rfl,hq7⟩:=Zbr hJ
 obtain⟨hn0,hn1⟩:=Zbt hnow
 have hI1:=Zmo s.hello
 refine Zdw (n:=63) [ea,[(b, .cells (stC s ⟨v6, .slice q7 s.aj.length c7,v8,v9,v10,v11,v12⟩ now frm va vs).toArray 142 (0,0))],e7] hH Zbj Zbi Tryz.func68 rfl rfl rfl ?_
 skip
 refine gQ 1 rfl (Zil 13 63 12 rfl Q7 (Zaw 2 rfl (fe_v (λa w F M R r=>Zan (F.e rfl) rfl r) (Zaw 1 rfl (Zc1 0 rfl rfl rfl (Zaw 1 rfl (fe_v (λa w F M R r=>Zan (F.e rfl) rfl r) (Zaw 2 rfl (Zc1 0 rfl rfl rfl (fe_v (λa w F M R r=>Zaq F rfl (Znz _) r) (Zln rfl rfl rfl (ZcM Qd) ?_)))))))))))
 refine Zjp 11 rfl hA (.head _) (Zez hI1) Q0 Q0 (Zfk _) (λv ent hO=>?_)
 refine W3 [0,1,0,6,0,2,0,5] ?_
 refine ZcT 25 24 23 (ZdI hj) hq7 (λi(j:Value×EN)=>OwnS 69 40 j.1 ((greI s al i)).length (nosC ((greI s al i))) j.2) (λj=>[(0, .pointer (some ⟨b,0,none⟩))]) (λj=>[j.2,[(b, .cells (stC s ⟨v6, .slice q7 s.aj.length c7,v8,v9,v10,v11,v12⟩ now frm j.1 vs).toArray 142 (0,0))],e7]) (v,ent) ?_ ?_ ?_
 ·simpa[greI] using hO
 ·rintro i ⟨v,ent⟩ y hi hy hym b7 j7 rfl rfl f1 hO
  have yj:=hj y hym
  have yq:=hq y hym
  dsimp only at hO⊢
  have hgl:(greI s al i).length<=1100:=by have:=ZnP (s:=s) (al:=al) (i:=i);omega
  have hI2:IsNo (heaV y):=Zmp _ _
  have hb2:=Zub y.nb (rxV y.q)
  refine W3 [6,0,6,0,0] ?_
  refine Zac λb3=>?_
  refine W3 [0,2] ?_
  refine Zik 1 rfl (gQ 1 rfl (Zil 13 63 12 rfl Q7 (Zaw 2 rfl (fe_v (λa w F M R r=>Zan (F.e rfl) rfl r) (Zaw 1 rfl (Zc1 1 rfl rfl rfl (Zaw 1 rfl (Zc1 0 rfl rfl (Zo0 Qd) ?_))))))))
  refine Zaw 1 rfl (ZfK 0 rfl rfl (aj_q Qd) ?_)
  refine Zf1 rfl rfl (λw M=>Zx6 _ Qd _) ?_
  refine fe_v (λa w F M R r=>Zaq F rfl Qd r) ?_
  refine Zln rfl rfl rfl (ZcM Qd) ?_
  refine Zjp 11 rfl hO (.head _) (Zez hI2) Q0 Q0 (Zfk _) (λv2 ent2 hO2=>?_)
  rw[show greI s al i++[heaN y.nb (rxV y.q)]=greI s al (i+1) from(Zlc hi hy).symm] at hO2
  refine W3 [0,1,0,4,0,2] ?_
  exact gR (_,_) hO2
 ·rintro⟨v,ent⟩ i hi hO
  subst hi
  dsimp only at hO⊢
  rw[show greI s al s.aj.length=greV s al by unfold greI greV;rw[List.take_length]] at hO
  refine W4 [6,0,2,0,5,0,2,0,0,0,2,0,5,0,1,0,0,0,2,0,1] @Zfc ?_
  exact Zmr rfl rfl λw M=>⟨_,_,rfl,hO,M⟩
end
end Go.Proofs.YtfhkmgcalcfibaaGreat

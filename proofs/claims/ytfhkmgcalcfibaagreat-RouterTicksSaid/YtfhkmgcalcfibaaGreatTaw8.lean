/-
  Texts joined.
-/
import Derived.Test.YtfhkmgcalcfibaaGreatTaw7
set_option linter.unusedVariables false
set_option linter.unusedSimpArgs false
set_option maxHeartbeats 64000000
namespace Go.Proofs.YtfhkmgcalcfibaaGreat
open Go.RowKit
open Go.Proofs.Tryz (prog)
variable {d:DisV}{i j:Nat}{inn old:List InsV}{l:List RouV}{now self:Int}{o:List OptV}{out:List DstV}{p:Prop}{s:RtV}{t:DstV}
section
attribute [local irreducible] OpTo wpListIn Code.wpIn MW Cal
theorem ZvC(x y:Int)(W:World):Cal prog 137 [.int .i64 x, .int .i64 y].toArray W λv w'=>v= .int .i64 (addM x y)/\Ext [] W w':=by
 unfold addM inf
 refine yS (n:=17) Tryz.func137 rfl rfl ?_
 cases h1:ZaA x
 ·refine W4 [9,0,2,0,14] @Zcs ?_
  exact vAX
 cases h2:ZaA y
 ·refine W4 [9,0,2,0,1,0,4,0,7] @Zcs ?_
  exact vAX
 have b1:=h1
 have b2:=h2
 simp only[ZaA,Bool.and_eq_true,decide_eq_true_eq] at b1 b2
 refine W4 [9,0,2,0,1,0,4,0,6,0] @Zcs ?_
 refine g_v (λa w F M R r=>ZiE (F.e rfl) (F.e rfl) r) (gQ 4 rfl (Zae rfl rfl rfl λw M=>?_))
 exact⟨by simp[*];omega,M.ext⟩
theorem Zom(c:ChoV)(W:World):Cal prog 355 [.agg (chC c).toArray].toArray W λv w'=>v= .bool (Zdk c)/\Ext [] W w':=by
 unfold Zdk
 refine yS (n:=16) Tryz.func355 rfl rfl ?_
 cases h1:ZaA c.cost
 ·refine gQ 2 rfl ?_
  refine Zai rfl rfl λb1=>?_
  refine W4 [6,0,0,1,0,13] @Zcs ?_
  exact vAX
 by_cases h2:c.btn= -1
 ·refine gQ 2 rfl ?_
  refine Zai rfl rfl λb1=>?_
  refine W4 [6,0,0,1,0,1,0,2,0,9] @Zcs ?_
  exact vAu
 ·refine gQ 2 rfl ?_
  refine Zai rfl rfl λb1=>?_
  refine W4 [6,0,0,1,0,1,0,2,0,1,0,0,6] (T2 @Zcs @Zas) ?_
  exact vAu
theorem ZiP{c x:ChoV}{W w:World}(h:c=x)(E:Ext [] W w):Value.tuple [.agg (chC x).toArray, .int .i64 0].toArray= .tuple [.agg (chC c).toArray, .int .i64 0].toArray/\Ext [] W w:=by
 rw[h]
 exact⟨rfl,E⟩
theorem ZkO(l:List OptV)(hx:∀x∈l,IsOp x)(hval:Zdj l=true)(v:Value)(now:Int)(hnow:Zag now=true)(old:ChoV)(hold:Zdk old=true)(W:World)(hS:SlAt W 2 v l.length (opsC l)):
  Cal prog 337 [.int .i64 now, .agg (chC old).toArray,v].toArray W λr w'=>r= .tuple [.agg (chC (Zbk now old l)).toArray, .int .i64 0].toArray/\Ext [] W w':=by
 obtain⟨q,cap,rfl,_⟩:=id hS
 have hm:=hS.memB [] Q5
 have hlen:=(Zca.1 hval).1
 have hopt:=(Zca.1 hval).2.1
 have hcost:∀o∈l,ZaA o.cost=true:=λo ho=>by
  have:=hopt o ho
  simp only[opt1,Bool.and_eq_true] at this
  exact this.2
 have z0:ZaD [(0,1),(1,1),(2,1)] chZ [(1,[Value.int .i64 65535]),(2,[Value.int .i64 (-1)])]=some (chC ⟨Zdb.nb,Zdb.cost,-1⟩):=rfl
 refine yS (n:=97) Tryz.func337 rfl rfl (gQ 2 rfl (Zai rfl rfl λb4=>Zac λb6=>?_))
 refine W4 [6,0,0,2,0,1,0,4,0,6,0,3,0,4,0] (T3 @Zom @ZeP @Zas) ?_
 refine Zac λb8=>?_
 refine W3 [0,4,0] ?_
 refine Zac λb9=>?_
 refine W3 [0,11] ?_
 refine Zau (ι:=Nat×OptV×OptV) ⟨λ(i,bs,pv)=>l.length-i,λ(i,bs,pv)=>i<=l.length/\(bs=bstO (l.take i))/\(pv=prvO old.nb (l.take i)),λ(i,bs,pv)=>[(29, .int .i64 i),(28, .int .i64 l.length),(27, .slice q l.length cap),(0, .int .i64 now),(4, .pointer (some ⟨b4,0,none⟩)),(6, .pointer (some ⟨b6,0,none⟩)),(8, .pointer (some ⟨b8,0,none⟩)),(9, .pointer (some ⟨b9,0,none⟩))],λ(i,bs,pv)=>[[(b9, .cells (chC ⟨pv.nb,pv.cost,-1⟩).toArray 310 (0,0))],[(b8, .cells (chC ⟨bs.nb,bs.cost,-1⟩).toArray 310 (0,0))],[(b6, .cells chZ.toArray 310 (0,0))],[(b4, .cells (chC old).toArray 310 (0,0))]]⟩ (0,Zdb,Zdb) ⟨Q0,rfl,rfl⟩ (λa F=>F.only [29,28,27,0,4,6,8,9] rfl) Qa ?_
 rintro⟨i,bs,pv⟩ ⟨hi_i,hbs,hpv⟩
 dsimp only
 by_cases hlt_i:i<l.length
 ·obtain⟨b,o,cs,t',fz,rfl,hb,hs⟩:=hm Q0
  obtain⟨x,hx0⟩:∃x,x=l[i]:=⟨_,rfl⟩
  have hxm:x∈l:=by rw[hx0];exact List.getElem_mem hlt_i
  have hxi:IsOp x:=hx _ hxm
  have f1:seg cs (o+(i:Int).toNat*2) 2=some (opC x):=by rw[hx0];exact Zal (Zfh hx) hs hlt_i Q0
  have h1:=Zlw hlt_i
  have h2:=ZkV (nb:=old.nb) hlt_i
  rw[<-hx0,<-hbs] at h1
  rw[<-hx0,<-hpv] at h2
  clear hx0 hbs hpv
  by_cases k1:x.cost<bs.cost
  ·rw[if_pos k1] at h1
   by_cases k2:x.nb=old.nb
   ·by_cases k3:x.cost<65535
    ·rw[if_pos ⟨k3,k2⟩] at h2
     refine W3 [6,0,6,0,0] ?_
     refine Zac λb11=>?_
     refine W3 [0,6,0,1,0,3,0,2,0,1,0] ?_
     refine g_v (λa w F M R r=>Zaq F rfl (ZoT _ _ _) r) ?_
     refine W3 [0,5,0,1,0,2,0,1,0,4,0,2,0,1,0] ?_
     refine g_v (λa w F M R r=>Zaq F rfl (ZoT _ _ _) r) ?_
     refine W3 [0,4,0,2] ?_
     exact yN (i+1,x,x) ⟨Q0,h1.symm,h2.symm⟩
    ·rw[if_neg (λh=>k3 h.1)] at h2
     refine W3 [6,0,6,0,0] ?_
     refine Zac λb11=>?_
     refine W3 [0,6,0,1,0,3,0,2,0,1,0] ?_
     refine g_v (λa w F M R r=>Zaq F rfl (ZoT _ _ _) r) ?_
     refine W3 [0,5,0,1,0,2,0,1,0,4,0,4,0,2] ?_
     exact yN (i+1,x,pv) ⟨Q0,h1.symm,h2.symm⟩
   ·rw[if_neg (λh=>k2 h.2)] at h2
    refine W3 [6,0,6,0,0] ?_
    refine Zac λb11=>?_
    refine W3 [0,6,0,1,0,3,0,2,0,1,0] ?_
    refine g_v (λa w F M R r=>Zaq F rfl (ZoT _ _ _) r) ?_
    refine W3 [0,5,0,1,0,2,0,11,0,2] ?_
    exact yN (i+1,x,pv) ⟨Q0,h1.symm,h2.symm⟩
  ·rw[if_neg k1] at h1
   by_cases k2:x.nb=old.nb
   ·by_cases k3:x.cost<65535
    ·rw[if_pos ⟨k3,k2⟩] at h2
     refine W3 [6,0,6,0,0] ?_
     refine Zac λb11=>?_
     refine W3 [0,6,0,1,0,3,0,5,0,1,0,2,0,1,0,4,0,2,0,1,0] ?_
     refine g_v (λa w F M R r=>Zaq F rfl (ZoT _ _ _) r) ?_
     refine W3 [0,4,0,2] ?_
     exact yN (i+1,bs,x) ⟨Q0,h1.symm,h2.symm⟩
    ·rw[if_neg (λh=>k3 h.1)] at h2
     refine W3 [6,0,6,0,0] ?_
     refine Zac λb11=>?_
     refine W3 [0,6,0,1,0,3,0,5,0,1,0,2,0,1,0,4,0,4,0,2] ?_
     exact yN (i+1,bs,pv) ⟨Q0,h1.symm,h2.symm⟩
   ·rw[if_neg (λh=>k2 h.2)] at h2
    refine W3 [6,0,6,0,0] ?_
    refine Zac λb11=>?_
    refine W3 [0,6,0,1,0,3,0,5,0,1,0,2,0,11,0,2] ?_
    exact yN (i+1,bs,pv) ⟨Q0,h1.symm,h2.symm⟩
 ·have hil:i=l.length:=by omega
  rw[hil,List.take_length] at hbs hpv
  have hb0:=Zjx hcost
  have hp0:=Zi0 (nb:=old.nb) hcost
  have hpi:=Zt5 old.nb l
  rw[<-hbs] at hb0
  rw[<-hpv] at hp0 hpi
  have hc:Zbk now old l=choB now old bs pv:=by rw[hbs,hpv];rfl
  rw[hc]
  simp only[ZaA,Bool.and_eq_true,decide_eq_true_eq] at hb0 hp0
  have hob:=hold
  simp only[Zdk,Bool.and_eq_true,Bool.or_eq_true,decide_eq_true_eq,Zag] at hob
  have hnb:=hnow
  simp only[Zag,Bool.and_eq_true,decide_eq_true_eq] at hnb
  have hn0:pv.nb=0↔pv=Zdb:=⟨λh=>by
   rcases hpi with h1|⟨h1,_⟩
   ·exact h1
   ·have:=hopt _ h1
    simp[opt1,h] at this,λh=>by rw[h];rfl⟩
  clear hbs hpv hc hpi
  obtain⟨cb,hcb⟩:∃c:ChoV,c=⟨bs.nb,bs.cost,-1⟩:=⟨_,rfl⟩
  obtain⟨cp,hcp⟩:∃c:ChoV,c=⟨pv.nb,pv.cost,-1⟩:=⟨_,rfl⟩
  rw[<-hcb,<-hcp]
  have kb:cb.cost=bs.cost:=by rw[hcb]
  have kp:cp.nb=pv.nb/\cp.cost=pv.cost/\cp.btn= -1:=by rw[hcp];exact⟨rfl,rfl,rfl⟩
  obtain⟨kp1,kp2,kp3⟩:=kp
  by_cases c1:cp.nb=0
  ·refine W3 [6,0,2,0,6,0,3,0,2,0,0,5] ?_
   refine Zcb 2 rfl rfl rfl rfl (ZfM trivial) rfl λw M=>?_
   exact ZiP (by unfold choB;rw[if_pos (hn0.1 Q0),hcb]) M.ext
  have c1':¬pv=Zdb:=λh=>c1 (by rw[kp1];exact hn0.2 h)
  clear hn0
  by_cases c2:bs.cost=pv.cost
  ·refine W3 [6,0,2,0,6,0,3,0,6,0,1,0,3,0,2,0,0,5] ?_
   exact Zcb 2 rfl rfl rfl rfl (ZfM trivial) rfl λw M=>ZiP (by unfold choB;rw[if_neg c1',if_pos c2,hcp]) M.ext
  by_cases c3:256<=pv.cost-bs.cost
  ·refine W3 [6,0,2,0,6,0,3,0,6,0,1,0,3,0,6,0,1,0,0,2,0,16,0,0,5] ?_
   exact Zcb 2 rfl rfl rfl rfl (ZfM trivial) rfl λw M=>ZiP (by unfold choB;rw[if_neg c1',if_neg c2,if_pos c3,hcb]) M.ext
  by_cases c4:old.btn= -1
  ·refine W3 [6,0,2,0,6,0,3,0,6,0,1,0,3,0,6,0,1,0,0,2,0,1,0,2,0,15,0,1,0,6,0,3,0,3,0,4,0,0,4] ?_
   exact Zcb 2 rfl rfl rfl rfl rfl rfl λw M=>ZiP (x:=⟨cp.nb,cp.cost,now⟩) (by unfold choB;rw[if_neg c1',if_neg c2,if_neg c3,if_pos c4,kp1,kp2]) M.ext
  by_cases c5:old.btn+6<=now
  ·refine W3 [6,0,2,0,6,0,3,0,6,0,1,0,3,0,6,0,1,0,0,2,0,1,0,2,0,2,0,0,5,0,2,0,0,5] ?_
   exact Zcb 2 rfl rfl rfl rfl rfl rfl λw M=>ZiP (by unfold choB;rw[if_neg c1',if_neg c2,if_neg c3,if_neg c4,if_pos c5,hcb]) M.ext
  ·refine W3 [6,0,2,0,6,0,3,0,6,0,1,0,3,0,6,0,1,0,0,2,0,1,0,2,0,2,0,0,5,0,5,0,1,0,6,0,3,0,4,0,0,4] ?_
   exact Zcb 2 rfl rfl rfl rfl rfl rfl λw M=>ZiP (x:=⟨cp.nb,cp.cost,old.btn⟩) (by unfold choB;rw[if_neg c1',if_neg c2,if_neg c3,if_neg c4,if_neg c5,kp1,kp2]) M.ext
def Zmk(now:Int)(s:List SrcV)(t:DstV)(r:RouV):Bool:=decide (r.to=t)&&(!decide (r.til<=now)&&ZiU s now t r.said)
def Zgj(r:RouV)(acc:List OptV×List RouV)(o:OptV):List OptV×List RouV:=if o.nb=r.nb then(acc.1++[⟨r.nb,addM r.said.met (lkC o.cost)⟩],acc.2++[r]) else acc
def ZlD(now:Int)(s:List SrcV)(links:List OptV)(t:DstV)(acc:List OptV×List RouV)(r:RouV):List OptV×List RouV:=if Zmk now s t r then links.foldl (Zgj r) acc else acc
def Zf3(now:Int)(s:List SrcV)(links:List OptV)(t:DstV)(l:List RouV):List OptV×List RouV:=l.foldl (ZlD now s links t) ([],[])
theorem Zj7{α β:Type}{f:β->α->β}{a:β}{l:List α}(h:i<l.length):(l.take (i+1)).foldl f a=f ((l.take i).foldl f a) l[i]:=vBm
theorem vBK(h:p:=by
  exact yN (i+1,os,ws,u1,e1,u2,e2) ⟨Q0,hO1,hO2,hn,by dsimp only;omega,by dsimp only;omega⟩):p:=h
theorem Zvt(l:List RouV)(hx:∀x∈l,IsRo x)(s:List SrcV)(hsr:∀x∈s,IsSr x)(links:List OptV)(hll:l.length<=1000)(hkl:links.length<=100)(vl vs vk:Value)(now:Int)(t:DstV)(ht:IsDv t)(W:World)(hS:SlAt W 39 vl l.length (rosC l))(hSs:SlAt W 38 vs s.length (srsC s))(hSk:SlAt W 2 vk links.length (opsC links)):
  Cal prog 336 [.int .i64 now,vl,vs,vk, .agg (dvC t).toArray].toArray W λr w'=>∃u1 e1 u2 e2,r= .tuple [u1,u2].toArray/\OwnS 96 2 u1 (Zf3 now s links t l).1.length (opsC (Zf3 now s links t l).1) e1/\OwnS 76 39 u2 (Zf3 now s links t l).2.length (rosC (Zf3 now s links t l).2) e2/\Mem [] W w' (e1++e2):=by
 obtain⟨q,cap,rfl,_⟩:=id hS
 obtain⟨qs,cs0,rfl,_⟩:=id hSs
 obtain⟨ql,cl,rfl,_⟩:=id hSk
 have hm:=hS.memB [] Q5
 have hmk:=hSk.memB [] Q5
 have hlk:∀o∈links,IsOp o:=λ_ _=>trivial
 refine yS (n:=75) Tryz.func336 rfl rfl (gQ 2 rfl (Zai rfl rfl λb9=>gQ 23 rfl (Zba (Zba ?_))))
 refine Zau (ι:=Nat×(List OptV)×(List RouV)×Value×EN×Value×EN) ⟨λ(i,os,ws,u1,e1,u2,e2)=>l.length-i,λ(i,os,ws,u1,e1,u2,e2)=>i<=l.length/\(OwnS 96 2 u1 os.length (opsC os) e1)/\(OwnS 76 39 u2 ws.length (rosC ws) e2)/\((os,ws)=Zf3 now s links t (l.take i))/\(os.length<=100*i)/\(ws.length<=100*i),λ(i,os,ws,u1,e1,u2,e2)=>[(20, .int .i64 i),(19, .int .i64 l.length),(18, .slice q l.length cap),(12,u1),(13,u2),(0, .int .i64 now),(2, .slice qs s.length cs0),(3, .slice ql links.length cl),(9, .pointer (some ⟨b9,0,none⟩))],λ(i,os,ws,u1,e1,u2,e2)=>[e1,e2,[(b9, .cells (dvC t).toArray 67 (0,0))]]⟩ (0,[],[],_,[],_,[]) ⟨Q0,OwnS.nilL _ _ _,OwnS.nilL _ _ _,rfl,by simp,by simp⟩ (λa F=>F.only [20,19,18,12,13,0,2,3,9] rfl) Qa ?_
 rintro⟨i,os,ws,u1,e1,u2,e2⟩ ⟨hi_i,hO1,hO2,hac,hl1,hl2⟩
 dsimp only
 by_cases hlt_i:i<l.length
 ·obtain⟨b,o,cs,t',fz,rfl,hb,hs⟩:=hm Q0
  obtain⟨x,hx0⟩:∃x,x=l[i]:=⟨_,rfl⟩
  have hxm:x∈l:=by rw[hx0];exact List.getElem_mem hlt_i
  have hxi:IsRo x:=hx _ hxm
  have f1:seg cs (o+(i:Int).toNat*39) 39=some (roC x):=by rw[hx0];exact Zal (Zbw hx) hs hlt_i Q0
  have hxd:IsDv x.to:=hxi.1
  have hst:Zf3 now s links t (l.take (i+1))=ZlD now s links t (os,ws) x:=by
   unfold Zf3
   rw[Zj7 hlt_i,<-hx0]
   exact congrArg (λa=>ZlD now s links t a x) hac.symm
  clear hac
  have hne:Zmk now s t x=false->(os,ws)=Zf3 now s links t (l.take (i+1)):=λh=>by
   rw[hst]
   unfold ZlD
   rw[h]
   rfl
  by_cases k1:x.to=t
  rotate_left
  ·have k1':=dqF k1
   have hn:=hne (by unfold Zmk;simp[k1])
   refine W3 [6,0,6,0,0] ?_
   refine Zac λb15=>?_
   refine W3 [0,6,0,0] ?_
   refine Zlh rfl rfl (ZaG Qd) (ZaG Qd) (Zc3 Qd Qd) ?_
   refine W3 [1,0,22,0,2] ?_
   exact vBK
  have k1':=dqT k1
  by_cases k2:x.til<=now
  ·have hn:=hne (by unfold Zmk;simp[k2])
   refine W3 [6,0,6,0,0] ?_
   refine Zac λb15=>?_
   refine W3 [0,6,0,0] ?_
   refine Zlh rfl rfl (ZaG Qd) (ZaG Qd) (Zc3 Qd Qd) ?_
   refine W3 [1,0,1,0,4,0,16,0,2] ?_
   exact vBK
  cases k3:ZiU s now t x.said
  ·have hn:=hne (by unfold Zmk;simp[k3])
   refine W3 [6,0,6,0,0] ?_
   refine Zac λb15=>?_
   refine W3 [0,6,0,0] ?_
   refine Zlh rfl rfl (ZaG Qd) (ZaG Qd) (Zc3 Qd Qd) ?_
   refine W4 [1,0,1,0,4,0,2,0,1,0,0,4,0,5,0,2] @ZpW ?_
   exact vBK
  clear hne
  have hst2:Zf3 now s links t (l.take (i+1))=links.foldl (Zgj x) (os,ws):=by
   rw[hst]
   unfold ZlD Zmk
   rw[k3]
   simp[k1,k2]
  clear hst
  refine W3 [6,0,6,0,0] ?_
  refine Zac λb15=>?_
  refine W3 [0,6,0,0] ?_
  refine Zlh rfl rfl (ZaG Qd) (ZaG Qd) (Zc3 Qd Qd) ?_
  refine W4 [1,0,1,0,4,0,2,0,1,0,0,4,0,10] @ZpW ?_
  refine Zau (ι:=Nat×(List OptV)×(List RouV)×Value×EN×Value×EN) ⟨λ(j,os2,ws2,u3,e3,u4,e4)=>links.length-j,λ(j,os2,ws2,u3,e3,u4,e4)=>j<=links.length/\(OwnS 96 2 u3 os2.length (opsC os2) e3)/\(OwnS 76 39 u4 ws2.length (rosC ws2) e4)/\((os2,ws2)=(links.take j).foldl (Zgj x) (os,ws))/\(os2.length<=100*i+j)/\(ws2.length<=100*i+j),λ(j,os2,ws2,u3,e3,u4,e4)=>[(45, .int .i64 j),(44, .int .i64 links.length),(43, .slice ql links.length cl),(12,u3),(13,u4),(15, .pointer (some ⟨b15,0,none⟩)),(20, .int .i64 i),(19, .int .i64 l.length),(18, .slice (some ⟨b,o,none⟩) l.length cap),(0, .int .i64 now),(2, .slice qs s.length cs0),(3, .slice ql links.length cl),(9, .pointer (some ⟨b9,0,none⟩))],λ(j,os2,ws2,u3,e3,u4,e4)=>[[(b15, .cells (roC x).toArray 76 (0,0))],e3,e4,[(b9, .cells (dvC t).toArray 67 (0,0))]]⟩ (0,os,ws,u1,e1,u2,e2) ⟨Q0,hO1,hO2,rfl,Q0,Q0⟩ (λa F=>F.only [45,44,43,12,13,15,20,19,18,0,2,3,9] rfl) Qa ?_
  rintro⟨j,os2,ws2,u3,e3,u4,e4⟩ ⟨hi_j,hO3,hO4,hin,hl3,hl4⟩
  dsimp only
  by_cases hlt_j:j<links.length
  ·obtain⟨b2,o2,cs2,t',fz2,rfl,hb2,hs2⟩:=hmk Q0
   obtain⟨oo,hoo0⟩:∃oo,oo=links[j]:=⟨_,rfl⟩
   have hoom:oo∈links:=by rw[hoo0];exact List.getElem_mem hlt_j
   have hooi:IsOp oo:=hlk _ hoom
   have f2:seg cs2 (o2+(j:Int).toNat*2) 2=some (opC oo):=by rw[hoo0];exact Zal (Zfh hlk) hs2 hlt_j Q0
   have hi2:(links.take (j+1)).foldl (Zgj x) (os,ws)=Zgj x (os2,ws2) oo:=by
    rw[Zj7 hlt_j,<-hoo0]
    exact congrArg (λa=>Zgj x a oo) hin.symm
   clear hin
   by_cases k4:oo.nb=x.nb
   ·have hn:(os2++[⟨x.nb,addM x.said.met (lkC oo.cost)⟩],ws2++[x])=(links.take (j+1)).foldl (Zgj x) (os,ws):=by rw[hi2];unfold Zgj;rw[if_pos k4]
    refine W3 [6,0,6,0,0] ?_
    refine Zac λb17=>?_
    refine W3 [0,5,0,1,0,3,0,1,1012,2,0,2,0,1,0] ?_
    refine fd_v (λa w F M R r=>ZoB (F.e rfl) (F.e rfl) r) ?_
    refine W4 [0] @ZvC ?_
    refine fd_v (λa w F M R r=>Zaq F rfl (ZzW _ _) r) (Zmy rfl rfl rfl (Zh7 Qd) (λb65=>?_))
    refine ZaY 3 0 (enc:=opC) rfl rfl Qd rfl rfl (Zfi Qd) Q4 (λ_=>rfl) (λv66 es66 hO66=>?_) (Ze6 _)
    refine W3 [5,0] ?_
    refine g_bs rfl rfl rfl (ZcK Qd) (λb69=>?_)
    refine ZaY 5 0 (enc:=roC) rfl rfl Qd rfl rfl (Zdy Qd) Q4 (λ_=>rfl) (λv70 es70 hO70=>?_) (Zd1 _)
    refine W3 [5,0,2] ?_
    exact yN (j+1,_,_,_,_,_,_) ⟨Q0,by assumption,by assumption,hn,by simp;omega,by simp;omega⟩
   ·have hn:(os2,ws2)=(links.take (j+1)).foldl (Zgj x) (os,ws):=by rw[hi2];unfold Zgj;rw[if_neg k4]
    refine W3 [6,0,6,0,0] ?_
    refine Zac λb17=>?_
    refine W3 [0,5,0,1,0,3,0,4,0,2] ?_
    exact yN (j+1,os2,ws2,u3,e3,u4,e4) ⟨Q0,hO3,hO4,hn,by dsimp only;omega,by dsimp only;omega⟩
  ·have hjl:j=links.length:=by omega
   rw[hjl,List.take_length,<-hst2] at hin
   refine W3 [6,0,2,0,4,0,2] ?_
   exact yN (i+1,os2,ws2,u3,e3,u4,e4) ⟨Q0,hO3,hO4,hin,by dsimp only;omega,by dsimp only;omega⟩
 ·have hil:i=l.length:=by omega
  rw[hil,List.take_length] at hac
  rw[<-hac]
  refine W3 [6,0,2,0,11] ?_
  exact Zbo rfl rfl rfl rfl λw M=>⟨u1,e1,u2,e2,rfl,hO1,hO2,M.sub (by simp[List.flatten_cons])⟩
theorem Zd6(hx:∀x∈l,IsRo x)(hy:∀x∈old,IsIn x):AscD (Zby l old)/\(∀x,x∈Zby l old↔x∈allD l old):=ZeA λx h=>by
 rcases List.mem_append.1 h with h|h
 ·obtain⟨y,h1,rfl⟩:=List.mem_map.1 h
  exact(hx y h1).1
 ·obtain⟨y,h1,rfl⟩:=List.mem_map.1 h
  exact(hy y h1).1
theorem Zkj(hx:∀x∈l,IsRo x)(hy:∀x∈old,IsIn x):∀t∈Zby l old,IsDv t:=λt h=>by
 rcases List.mem_append.1 (((Zd6 hx hy).2 t).1 h) with h|h
 ·obtain⟨y,h1,rfl⟩:=List.mem_map.1 h
  exact(hx y h1).1
 ·obtain⟨y,h1,rfl⟩:=List.mem_map.1 h
  exact(hy y h1).1
theorem Zo5{α:Type}{to:α->DstV}{l:List α}{t:DstV}{ds:List DstV}(hd:AscD (t::ds))(h:Yet to l (t::ds) i)(hi:i<l.length):¬cmpD (to l[i]) t<0:=λh1=>by
 rcases List.mem_cons.1 (h.yet i hi (Nat.le_refl _)) with h2|h2
 ·rw[h2,Za0] at h1
  omega
 ·have h3:=(List.pairwise_cons.1 hd).1 _ h2
  have h4:=ZbJ t (to l[i])
  omega
theorem ZtJ{α:Type}{to:α->DstV}{l:List α}{t:DstV}{ds:List DstV}(hT:∀x∈l,IsDv (to x))(ht:IsDv t)(hW:Weak to l)(hd:AscD (t::ds))(h:Yet to l (t::ds) i)(hm:t∈l.map to):∃hi:i<l.length,to l[i]=t:=by
 obtain⟨x,hx,e⟩:=List.mem_map.1 hm
 obtain⟨j,hj,rfl⟩:=List.mem_iff_getElem.1 hx
 have hij:i<=j:=Nat.le_of_not_lt λh1=>h.gone j hj h1 (by rw[e];simp)
 have hi:i<l.length:=by omega
 refine⟨hi,?_⟩
 rcases Nat.lt_or_ge i j with h1|h1
 ·have h2:=(List.pairwise_iff_getElem.1 hW) i j hi hj h1
  rw[e] at h2
  have h3:=Zo5 hd h hi
  have h4:=ZbJ (to l[i]) t
  exact Zcg (hT _ (List.getElem_mem hi)) ht Q0
 ·obtain rfl:i=j:=by omega
  exact e
structure RdI(l:List RouV)(old:List InsV)(out ds:List DstV)(i k:Nat):Prop where
 all:Zby l old=out++ds
 y1:Yet RouV.to l ds i
 y2:Yet InsV.to old ds k
theorem RdI.ds{out ds:List DstV}{i k:Nat}(h:RdI l old out ds i k)(hx:∀x∈l,IsRo x)(hy:∀x∈old,IsIn x):AscD ds/\(∀x∈ds,IsDv x)/\∀x∈ds,x∈l.map RouV.to∨x∈old.map InsV.to:=by
 have h1:=Zd6 hx hy
 rw[h.all] at h1
 refine⟨(List.pairwise_append.1 h1.1).2.1,λx hm=>Zkj hx hy x (by rw[h.all];exact List.mem_append_right _ hm),λx hm=>?_⟩
 exact List.mem_append.1 ((h1.2 x).1 (List.mem_append_right _ hm))
theorem RdI.nil{l:List RouV}{old:List InsV}{out ds:List DstV}{i k:Nat}(h:RdI l old out ds i k)(hx:∀x∈l,IsRo x)(hy:∀x∈old,IsIn x)(h1:¬i<l.length)(h2:¬k<old.length):Zby l old=out:=by
 cases ds with
 |nil=>rw[h.all,List.append_nil]
 |cons t ds=>
  obtain⟨g1,g2,g3⟩:=h.ds hx hy
  exfalso
  rcases g3 t Q5 with g|g
  ·obtain⟨x,hx1,e⟩:=List.mem_map.1 g
   obtain⟨j,hj,rfl⟩:=List.mem_iff_getElem.1 hx1
   exact h.y1.gone j hj Q0 (by rw[e];simp)
  ·obtain⟨x,hx1,e⟩:=List.mem_map.1 g
   obtain⟨j,hj,rfl⟩:=List.mem_iff_getElem.1 hx1
   exact h.y2.gone j hj Q0 (by rw[e];simp)
theorem RdI.head{l:List RouV}{old:List InsV}{out ds:List DstV}{i k:Nat}(h:RdI l old out ds i k)(hx:∀x∈l,IsRo x)(hy:∀x∈old,IsIn x)(hW1:Weak RouV.to l)(hW2:Weak InsV.to old)(hne:i<l.length∨k<old.length):
  ∃t ds',ds=t::ds'/\IsDv t/\(∀hi:i<l.length,(∀hk:k<old.length,cmpD l[i].to old[k].to<=0)->l[i].to=t)/\(∀hk:k<old.length,(∀hi:i<l.length,0<cmpD l[i].to old[k].to)->old[k].to=t)/\((∃hi:i<l.length,l[i].to=t)∨∃hk:k<old.length,old[k].to=t):=by
 obtain⟨g1,g2,g3⟩:=h.ds hx hy
 cases ds with
 |nil=>
  exfalso
  rcases hne with h1|h1
  ·exact(by simpa using h.y1.yet i h1 (Nat.le_refl _))
  ·exact(by simpa using h.y2.yet k h1 (Nat.le_refl _))
 |cons t ds=>
  have ht:=g2 t Q5
  have hT1:∀x∈l,IsDv (RouV.to x):=λx hm=>(hx x hm).1
  have hT2:∀x∈old,IsDv (InsV.to x):=λx hm=>(hy x hm).1
  have F3:(∃hi:i<l.length,l[i].to=t)∨∃hk:k<old.length,old[k].to=t:=by
   rcases g3 t Q5 with g|g
   ·exact .inl (ZtJ hT1 ht hW1 g1 h.y1 g)
   ·exact .inr (ZtJ hT2 ht hW2 g1 h.y2 g)
  refine⟨t,ds,rfl,ht,λhi hc=>?_,λhk hc=>?_,F3⟩
  ·rcases F3 with⟨_,h1⟩|⟨hk,h1⟩
   ·exact h1
   ·have h2:=hc hk
    rw[h1] at h2
    have h3:=Zo5 g1 h.y1 hi
    exact Zcg (hT1 _ (List.getElem_mem hi)) ht Q0
  ·rcases F3 with⟨hi,h1⟩|⟨_,h1⟩
   ·have h2:=hc hi
    rw[h1] at h2
    have h3:=Zo5 g1 h.y2 hk
    have h4:=ZbJ t old[k].to
    omega
   ·exact h1
theorem RdI.next{out ds:List DstV}{t:DstV}{i k i' k':Nat}(h:RdI l old out (t::ds) i k)(hx:∀x∈l,IsRo x)(hy:∀x∈old,IsIn x)(hW1:Weak RouV.to l)(hW2:Weak InsV.to old)
  (a1:i<=i') (a2:i'<=l.length) (a3:∀j(hj:j<l.length),i<=j->j<i'->l[j].to=t) (a4:∀hj:i'<l.length,l[i'].to≠t)
  (b1:k<=k') (b2:k'<=old.length) (b3:∀j(hj:j<old.length),k<=j->j<k'->old[j].to=t) (b4:∀hj:k'<old.length,old[k'].to≠t):RdI l old (out++[t]) ds i' k':=by
 obtain⟨g1,g2,_⟩:=h.ds hx hy
 exact⟨by rw[h.all];simp,(Yet.next hW1 g1 g2 h.y1 a1 a2 a3 a4).1,(Yet.next hW2 g1 g2 h.y2 b1 b2 b3 b4).1⟩
theorem RdI.start(hx:∀x∈l,IsRo x)(hy:∀x∈old,IsIn x):RdI l old [] (Zby l old) 0 0:=⟨rfl,⟨Nat.zero_le _,λj hj h=>by omega,λj hj _=>((Zd6 hx hy).2 _).2 (List.mem_append_left _ (List.mem_map.2 ⟨_,List.getElem_mem hj,rfl⟩))⟩,⟨Nat.zero_le _,λj hj h=>by omega,λj hj _=>((Zd6 hx hy).2 _).2 (List.mem_append_right _ (List.mem_map.2 ⟨_,List.getElem_mem hj,rfl⟩))⟩⟩
theorem vAU(h:p:=by
  refine W3 [0,1] ?_
  exact Zra () trivial (λa F=>F.only [8,6,7,5,0,1] rfl) (by dsimp only;rw[e];exact(.refl _))):p:=h
theorem vC6(h:p:=by
  exact Zae rfl rfl rfl λw M=>⟨es,hO,M.sub (List.sublist_append_left _ _)⟩):p:=h
theorem Zne(l:List RouV)(hx:∀x∈l,IsRo x)(hA:AscC cmpR l)(old:List InsV)(hy:∀x∈old,IsIn x)(hB:AscC cmpN old)(hll:l.length<=1000)(hol:old.length<=1000)(vl vo:Value)(W:World)(hS:SlAt W 39 vl l.length (rosC l))(hSo:SlAt W 40 vo old.length (insC old)):
  Cal prog 335 [vl,vo].toArray W λr w'=>∃ent,OwnS 67 35 r (Zby l old).length (dvsC (Zby l old)) ent/\Mem [] W w' ent:=by
 obtain⟨ql,cl,rfl,_⟩:=id hS
 obtain⟨qo,co,rfl,_⟩:=id hSo
 have hm:=hS.memB [] Q5
 have hmo:=hSo.memB [] Q5
 have hW1:=Zpc hx hA
 have hW2:=ZtM hB
 refine yS (n:=88) Tryz.func335 rfl rfl (gQ 18 rfl (Zba (Zau (ι:=Nat×Nat×List DstV×List DstV×Value×EN) ⟨λ(i,k,out,ds,u,es)=>(l.length-i)+(old.length-k),λ(i,k,out,ds,u,es)=>i<=l.length/\k<=old.length/\out.length<=i+k/\RdI l old out ds i k/\OwnS 67 35 u out.length (dvsC out) es,λ(i,k,out,ds,u,es)=>[(6, .int .i64 i),(7, .int .i64 k),(5,u),(0, .slice ql l.length cl),(1, .slice qo old.length co)],λ(i,k,out,ds,u,es)=>[es]⟩ (0,0,[],Zby l old,_,[]) ⟨Q0,Q0,by simp,RdI.start hx hy,OwnS.nilL _ _ _⟩ (λa F=>F.only [6,7,5,0,1] rfl) Qa ?_)))
 rintro⟨i,k,out,ds,u,es⟩ ⟨hi,hk,hou,hR,hO⟩
 dsimp only
 by_cases hne:i<l.length∨k<old.length
 ·obtain⟨t,ds',rfl,htd,hA1,hA2,hF⟩:=hR.head hx hy hW1 hW2 hne
  refine gQ 1 rfl (Zc0 (ι:=Unit) ⟨λ_=>True,λ_=>[(6, .int .i64 i),(7, .int .i64 k),(5,u),(0, .slice ql l.length cl),(1, .slice qo old.length co)],λ_=>[es]⟩ ?_ ?_)
  ·clear hR hF hA1 hA2
   by_cases hii:i<l.length
   ·refine W3 [7,0,9] ?_
    exact yJ () trivial
   ·have hki:k<old.length:=by omega
    refine W3 [7,0,7,0,1] ?_
    exact yJ () trivial
  rintro _ _
  refine gQ 4 rfl (Zac λb8=>gQ 3 rfl (Zc0 (ι:=Unit) ⟨λ_=>True,λ_=>[(8, .pointer (some ⟨b8,0,none⟩)),(6, .int .i64 i),(7, .int .i64 k),(5,u),(0, .slice ql l.length cl),(1, .slice qo old.length co)],λ_=>[[(b8, .cells (dvC t).toArray 67 (0,0))],es]⟩ ?_ ?_))
  ·clear hR hF
   by_cases hki:k<old.length
   ·obtain⟨b',o',cs',t2,fz',rfl,hb',hs'⟩:=hmo Q0
    have f2:seg cs' (o'+(k:Int).toNat*40) 40=some (inC old[k]):=Zal (ZbU hy) hs' hki Q0
    have yI:=hy _ (List.getElem_mem hki)
    have yD:IsDv old[k].to:=yI.1
    by_cases hii:i<l.length
    ·obtain⟨b,o,cs,t1,fz,rfl,hb,hs⟩:=hm Q0
     have f1:seg cs (o+(i:Int).toNat*39) 39=some (roC l[i]):=Zal (Zbw hx) hs hii Q0
     have xI:=hx _ (List.getElem_mem hii)
     have xD:IsDv l[i].to:=xI.1
     by_cases hc:cmpD l[i].to old[k].to<=0
     ·have e:=hA1 hii (λ_=>hc)
      clear hA1 hA2
      generalize l[i]=x at*
      generalize old[k]=y at*
      refine W3 [1,1024,5,0,5,0,2,0,1] ?_
      refine Zb8 rfl Qd (Zbe Qd (ZfR Qd) Q0) ?_
      refine W3 [2,0,1] ?_
      refine Zb8 rfl Qd (Zbe Qd (Zgu Qd) Q0) ?_
      refine W4 [0,3,0,2,0,3,0,1] @ZaR ?_
      refine ZiJ rfl Qd (Zbe Qd (ZfR Qd) Q0) ?_
      exact vAU
     ·have e:=hA2 hki (λ_=>by omega)
      clear hA1 hA2
      generalize l[i]=x at*
      generalize old[k]=y at*
      refine W3 [1,1024,5,0,5,0,2,0,1] ?_
      refine Zb8 rfl Qd (Zbe Qd (ZfR Qd) Q0) ?_
      refine W3 [2,0,1] ?_
      refine Zb8 rfl Qd (Zbe Qd (Zgu Qd) Q0) ?_
      refine W4 [0,3,0,2,0,3,0,1] @ZaR ?_
      refine ZiJ rfl Qd (Zbe Qd (Zgu Qd) Q0) ?_
      exact vAU
    ·have e:=hA2 hki (λh=>absurd h hii)
     clear hA1 hA2
     generalize old[k]=y at*
     refine W3 [1,1024,5,0,5,0,14,0,6,0,1] ?_
     refine ZiJ rfl Qd (Zbe Qd (Zgu Qd) Q0) ?_
     exact vAU
   ·have hii:i<l.length:=by omega
    obtain⟨b,o,cs,t1,fz,rfl,hb,hs⟩:=hm Q0
    have f1:seg cs (o+(i:Int).toNat*39) 39=some (roC l[i]):=Zal (Zbw hx) hs hii Q0
    have xI:=hx _ (List.getElem_mem hii)
    have xD:IsDv l[i].to:=xI.1
    have e:=hA1 hii (λh=>absurd h hki)
    clear hA1 hA2
    generalize l[i]=x at*
    refine W3 [1,1024,5,0,19,0,6,0,1] ?_
    refine ZiJ rfl Qd (Zbe Qd (ZfR Qd) Q0) ?_
    exact vAU
  rintro _ _
  clear hA1 hA2
  refine W3 [4,0] ?_
  refine g_bs rfl rfl rfl (ZeE Qd) (λb55=>?_)
  refine ZaY 2 0 (enc:=dvC) rfl rfl Qd rfl rfl (Zbl Qd) Q4 (λ_=>rfl) (λv56 es56 hO56=>?_) (Zek _)
  refine gQ 5 rfl (Zut (ι:=Nat) ⟨λi2=>i<=i2/\i2<=l.length/\(∀j(hj:j<l.length),i<=j->j<i2->l[j].to=t)/\(∀hj:i2<l.length,l[i2].to≠t),λi2=>[(6, .int .i64 i2),(7, .int .i64 k),(5,v56),(8, .pointer (some ⟨b8,0,none⟩)),(0, .slice ql l.length cl),(1, .slice qo old.length co)],λ_=>[[(b8, .cells (dvC t).toArray 67 (0,0))],es56]⟩ ?_ ?_)
  ·refine Zau (ι:=Nat) ⟨λi2=>l.length-i2,λi2=>i<=i2/\i2<=l.length/\(∀j(hj:j<l.length),i<=j->j<i2->l[j].to=t),λi2=>[(6, .int .i64 i2),(7, .int .i64 k),(5,v56),(8, .pointer (some ⟨b8,0,none⟩)),(0, .slice ql l.length cl),(1, .slice qo old.length co)],λ_=>[[(b8, .cells (dvC t).toArray 67 (0,0))],es56]⟩ i ⟨Q0,hi,λj hj h1 h2=>by omega⟩ (λa F=>F.only [6,7,5,8,0,1] rfl) Qa ?_
   rintro i2 ⟨h1,h2,h3⟩
   by_cases h4:i2<l.length
   ·obtain⟨b,o,cs,t1,fz,rfl,hb,hs⟩:=hm Q0
    have f1:seg cs (o+(i2:Int).toNat*39) 39=some (roC l[i2]):=Zal (Zbw hx) hs h4 Q0
    have xI:=hx _ (List.getElem_mem h4)
    have xD:IsDv l[i2].to:=xI.1
    by_cases h5:l[i2].to=t
    ·have h5':=dqT h5
     have h6:∀j(hj:j<l.length),i<=j->j<i2+1->l[j].to=t:=λj hj g1 g2=>by
      rcases Nat.lt_or_ge j i2 with g|g
      ·exact h3 j hj g1 g
      ·obtain rfl:j=i2:=by omega
       exact h5
     clear h3 h5
     generalize hxg:l[i2]=x at f1 xI xD h5'
     clear hxg
     refine W3 [2,1013,5,0,2,0,1] ?_
     refine Zb8 rfl Qd (Zbe Qd (ZfR Qd) Q0) ?_
     refine ZnW 0 rfl rfl (Zcx Qd) ?_
     refine Zjr rfl rfl (ZaG Qd) (ZaG Qd) (Zc3 Qd Qd) ?_
     refine W3 [1,0,2,0,5,0,3] ?_
     exact yN (i2+1) ⟨Q0,Q0,h6⟩
    ·have h5':=dqF h5
     have h6:∀hj:i2<l.length,l[i2].to≠t:=λ_=>h5
     clear h5
     generalize hxg:l[i2]=x at f1 xI xD h5'
     clear hxg
     refine W3 [2,1013,5,0,2,0,1] ?_
     refine Zb8 rfl Qd (Zbe Qd (ZfR Qd) Q0) ?_
     refine ZnW 0 rfl rfl (Zcx Qd) ?_
     refine Zjr rfl rfl (ZaG Qd) (ZaG Qd) (Zc3 Qd Qd) ?_
     refine W3 [1,0,2,0,2,0,1] ?_
     exact yJ i2 ⟨h1,h2,h3,h6⟩
   ·refine W3 [2,1013,5,0,8,0,5,0,1] ?_
    exact yJ i2 ⟨h1,h2,h3,λh=>absurd h h4⟩
  rintro i2 ⟨a1,a2,a3,a4⟩
  refine gQ 2 rfl (Zut (ι:=Nat) ⟨λk2=>k<=k2/\k2<=old.length/\(∀j(hj:j<old.length),k<=j->j<k2->old[j].to=t)/\(∀hj:k2<old.length,old[k2].to≠t),λk2=>[(6, .int .i64 i2),(7, .int .i64 k2),(5,v56),(0, .slice ql l.length cl),(1, .slice qo old.length co)],λ_=>[es56]⟩ ?_ ?_)
  ·refine Zau (ι:=Nat) ⟨λk2=>old.length-k2,λk2=>k<=k2/\k2<=old.length/\(∀j(hj:j<old.length),k<=j->j<k2->old[j].to=t),λk2=>[(6, .int .i64 i2),(7, .int .i64 k2),(5,v56),(8, .pointer (some ⟨b8,0,none⟩)),(0, .slice ql l.length cl),(1, .slice qo old.length co)],λ_=>[[(b8, .cells (dvC t).toArray 67 (0,0))],es56]⟩ k ⟨Q0,hk,λj hj h1 h2=>by omega⟩ (λa F=>F.only [6,7,5,8,0,1] rfl) Qa ?_
   rintro k2 ⟨h1,h2,h3⟩
   by_cases h4:k2<old.length
   ·obtain⟨b,o,cs,t1,fz,rfl,hb,hs⟩:=hmo Q0
    have f1:seg cs (o+(k2:Int).toNat*40) 40=some (inC old[k2]):=Zal (ZbU hy) hs h4 Q0
    have xI:=hy _ (List.getElem_mem h4)
    have xD:IsDv old[k2].to:=xI.1
    by_cases h5:old[k2].to=t
    ·have h5':=dqT h5
     have h6:∀j(hj:j<old.length),k<=j->j<k2+1->old[j].to=t:=λj hj g1 g2=>by
      rcases Nat.lt_or_ge j k2 with g|g
      ·exact h3 j hj g1 g
      ·obtain rfl:j=k2:=by omega
       exact h5
     clear h3 h5
     generalize hxg:old[k2]=x at f1 xI xD h5'
     clear hxg
     refine W3 [2,1013,5,0,2,0,1] ?_
     refine Zb8 rfl Qd (Zbe Qd (Zgu Qd) Q0) ?_
     refine ZnW 0 rfl rfl (Zcx Qd) ?_
     refine Zjr rfl rfl (ZaG Qd) (ZaG Qd) (Zc3 Qd Qd) ?_
     refine W3 [1,0,2,0,5,0,3] ?_
     exact yN (k2+1) ⟨Q0,Q0,h6⟩
    ·have h5':=dqF h5
     have h6:∀hj:k2<old.length,old[k2].to≠t:=λ_=>h5
     clear h5
     generalize hxg:old[k2]=x at f1 xI xD h5'
     clear hxg
     refine W3 [2,1013,5,0,2,0,1] ?_
     refine Zb8 rfl Qd (Zbe Qd (Zgu Qd) Q0) ?_
     refine ZnW 0 rfl rfl (Zcx Qd) ?_
     refine Zjr rfl rfl (ZaG Qd) (ZaG Qd) (Zc3 Qd Qd) ?_
     refine W3 [1,0,2,0,2,0,1] ?_
     exact yJ k2 ⟨h1,h2,h3,h6⟩
   ·refine W3 [2,1013,5,0,8,0,5,0,1] ?_
    exact yJ k2 ⟨h1,h2,h3,λh=>absurd h h4⟩
  rintro k2 ⟨c1,c2,c3,c4⟩
  have hlt:i<i2∨k<k2:=by
   rcases hF with⟨g,e⟩|⟨g,e⟩
   ·exact .inl (Nat.lt_of_le_of_ne a1 λh=>by subst h;exact a4 g e)
   ·exact .inr (Nat.lt_of_le_of_ne c1 λh=>by subst h;exact c4 g e)
  have hRn:=hR.next hx hy hW1 hW2 a1 a2 a3 a4 c1 c2 c3 c4
  refine gQ 1 rfl ?_
  exact yN (i2,k2,out++[t],ds',v56,es56) ⟨a2,c2,by simp;omega,hRn,hO56⟩
 ·have he:=hR.nil hx hy Q0 Q0
  rw[he]
  refine W3 [8,0,7,0,2,0,9] ?_
  exact vC6
end
section
theorem ZjI{α:Type}{p:List α->Prop}(h0:p [])(h1:∀xs x,p xs->p (xs++[x])):∀l,p l:=λl=>by
 have:∀n,p (l.take n):=λn=>by
  induction n with
  |zero=>simpa using h0
  |succ n ih=>
   rcases Nat.lt_or_ge n l.length with h|h
   ·rw[List.take_add_one,List.getElem?_eq_getElem h]
    exact h1 _ _ ih
   ·rw[List.take_of_length_le Q0]
    rwa[List.take_of_length_le h] at ih
 simpa using this l.length
theorem Zsy{r:RouV}(links:List OptV):AscC cmpO links->∀acc,links.foldl (Zgj r) acc=match getA r.nb (Zcp links) with
  |none=>acc
  |some c=>(acc.1++[⟨r.nb,addM r.said.met c⟩],acc.2++[r]):=by
 refine ZjI (p:=λlinks=>AscC cmpO links->∀acc,links.foldl (Zgj r) acc=match getA r.nb (Zcp links) with
  |none=>acc
  |some c=>(acc.1++[⟨r.nb,addM r.said.met c⟩],acc.2++[r])) (λ_ _=>rfl) (λxs o ih h acc=>?_) links
 have h1:=List.pairwise_append.1 h
 have hc:Zcp (xs++[o])=putA o.nb (lkC o.cost) (Zcp xs):=by
  unfold Zcp
  rw[List.foldl_append]
  rfl
 rw[List.foldl_append,ih h1.1,hc,Zgx]
 simp only[List.foldl_cons,List.foldl_nil]
 by_cases e:o.nb=r.nb
 ·have hn:getA r.nb (Zcp xs)=none:=by
   cases hg:getA r.nb (Zcp xs) with
   |none=>rfl
   |some c=>
    obtain⟨o',hm,e',_⟩:=Zls hg
    have:=h1.2.2 o' hm o Q5
    unfold cmpO at this
    rw[Zfp] at this
    omega
  rw[hn]
  simp[Zgj,e]
 ·rw[if_neg (λh=>e h.symm)]
  cases hg:getA r.nb (Zcp xs)<;>simp[Zgj,e]
theorem Zsq{s:List SrcV}(h1:ZaK s=true)(h2:Za8 t=true)(h3:Zag now=true):ZiU s now t d=Zg4 s now t d:=by
 unfold ZiU
 rw[h1,h2,h3]
 rfl
theorem ZuS{s:List SrcV}{links:List OptV}(l:List RouV)(hs:ZaK s=true)(ht:Za8 t=true)(hn:Zag now=true)(hk:AscC cmpO links):
  Zf3 now s links t l=(ZcA now s (Zcp links) t l,(l.filter λr=>decide (r.to=t)).filter λr=>(optV now s (Zcp links) t r).isSome):=by
 refine ZjI (p:=λl=>Zf3 now s links t l=(ZcA now s (Zcp links) t l,(l.filter λr=>decide (r.to=t)).filter λr=>(optV now s (Zcp links) t r).isSome)) rfl (λxs r ih=>?_) l
 have h1:Zf3 now s links t (xs++[r])=ZlD now s links t (Zf3 now s links t xs) r:=by
  unfold Zf3
  rw[List.foldl_append]
  rfl
 rw[h1,ih]
 unfold ZlD Zmk ZcA
 rw[Zsq hs ht hn]
 by_cases e:r.to=t
 ·rw[Zsy links hk]
  simp only[List.filter_append,List.filterMap_append,List.filter_cons,List.filter_nil,e,decide_true,Bool.true_and,if_true]
  by_cases c:(!decide (r.til<=now)&&Zg4 s now t r.said)=true
  ·rw[if_pos c]
   have c':(decide (r.til<=now)|| !Zg4 s now t r.said)=false:=by
    simp only[Bool.and_eq_true,Bool.not_eq_true'] at c
    rw[c.1,c.2]
    rfl
   cases hg:getA r.nb (Zcp links) with
   |none=>simp[optV,hg]
   |some v=>simp only[Bool.or_eq_false_iff,Bool.not_eq_false'] at c';simp[optV,hg,c'.1,c'.2]
  ·rw[if_neg c]
   have c':(decide (r.til<=now)|| !Zg4 s now t r.said)=true:=by
    cases h2:decide (r.til<=now)
    ·cases h3:Zg4 s now t r.said
     ·rfl
     ·rw[h2,h3] at c;exact absurd rfl c
    ·rfl
   have hn2:optV now s (Zcp links) t r=none:=by
    unfold optV
    cases getA r.nb (Zcp links) with
    |none=>rfl
    |some v=>dsimp only;rw[if_pos c']
   simp[hn2]
 ·simp[List.filter_append,List.filter_cons,e]
def ownW(ws:List RouV)(nb cost:Int):DisV:=ws.foldl (λa w=>if w.nb=nb then⟨w.said.seq,cost⟩ else a) di0
theorem Zyd{nb cost:Int}(ws:List RouV):(∃w∈ws,w.nb=nb)->ownW ws nb cost=⟨((getA nb (ws.foldl (λm r=>putA r.nb r.said m) [])).getD di0).seq,cost⟩:=by
 refine ZjI (p:=λws=>(∃w∈ws,w.nb=nb)->ownW ws nb cost=⟨((getA nb (ws.foldl (λm r=>putA r.nb r.said m) [])).getD di0).seq,cost⟩) (λ⟨w,h,_⟩=>by cases h) (λxs x ih⟨w,hw,e⟩=>?_) ws
 have h1:ownW (xs++[x]) nb cost=if x.nb=nb then⟨x.said.seq,cost⟩ else ownW xs nb cost:=by
  unfold ownW
  rw[List.foldl_append]
  rfl
 rw[h1,List.foldl_append]
 simp only[List.foldl_cons,List.foldl_nil]
 rw[Zgx]
 by_cases e2:x.nb=nb
 ·rw[if_pos e2,if_pos e2.symm]
  rfl
 ·rw[if_neg e2,if_neg (λh=>e2 h.symm)]
  refine ih ⟨w,?_,e⟩
  rcases List.mem_append.1 hw with h|h
  ·exact h
  ·simp only[List.mem_singleton] at h
   rw[h] at e
   exact absurd e e2
section
variable {now:Int} {t:DstV} {op:List OptV} {said:List (Int×DisV)}
theorem ZrN{o:Option InsV}(h:(Zbk now (befV o) op).nb≠0):aftV now t o op said=some ⟨t,(Zbk now (befV o) op).nb,⟨((getA (Zbk now (befV o) op).nb said).getD di0).seq,(Zbk now (befV o) op).cost⟩,(Zbk now (befV o) op).btn,0⟩:=by
 unfold aftV
 dsimp only
 rw[if_pos h]
theorem Zoa(h:(Zbk now (befV none) op).nb=0):aftV now t none op said=none:=by
 unfold aftV
 dsimp only
 rw[if_neg (by simp[h])]
theorem Zn9{w:InsV}(h:(Zbk now (befV (some w)) op).nb=0):aftV now t (some w) op said=if w.nb≠0 then some ⟨t,0,⟨w.own.seq,inf⟩,-1,Zaz now 14⟩ else if now<w.til then some w else none:=by
 unfold aftV
 dsimp only
 rw[if_neg (by simp[h])]
end
theorem Zwu{α β:Type}{f:α->Option β}{l:List α}(h:i<l.length):(l.take (i+1)).filterMap f=(l.take i).filterMap f++(f l[i]).toList:=by
 rw[List.take_add_one,List.getElem?_eq_getElem h,List.filterMap_append]
 cases hf:f l[i]<;>simp[hf]
theorem ZnF(t:DstV):∀l:List DstV,(insD t l).length<=l.length+1
 |[]=>by simp[insD]
 |x::xs=>by
  have:=ZnF t xs
  unfold insD
  split
  ·simp
  ·split
   ·simp
   ·simp only[List.length_cons];omega
theorem Zlp(l:List RouV)(old:List InsV):(Zby l old).length<=l.length+old.length:=by
 have:∀xs:List DstV,(xs.foldr insD []).length<=xs.length:=λxs=>by
  induction xs with
  |nil=>simp
  |cons a xs ih=>
   have:=ZnF a (xs.foldr insD [])
   simp only[List.foldr_cons,List.length_cons]
   omega
 have h:=this (allD l old)
 unfold Zby
 simpa[allD] using h
theorem Zn0(hx:∀x∈l,IsRo x)(hy:∀x∈old,IsIn x)(h1:Za7 l=true)(h2:ZbG old=true):∀t∈Zby l old,Za8 t=true:=λt h=>by
 rcases List.mem_append.1 (((Zd6 hx hy).2 t).1 h) with h|h
 ·obtain⟨y,h3,rfl⟩:=List.mem_map.1 h
  have:=(Zbd.1 h1).2.1 y h3
  simp only[rou1,Bool.and_eq_true] at this
  exact this.1.1.1
 ·obtain⟨y,h3,rfl⟩:=List.mem_map.1 h
  have:=(Za5.1 h2).2.1 y h3
  simp only[ins1,Bool.and_eq_true] at this
  exact this.1
end
section
attribute [local irreducible] OpTo wpListIn Code.wpIn MW Cal
theorem vA4(h:p:=by
  have hex:∃w∈wy,w.nb=c.nb:=by
   rw[hc] at hc0⊢
   obtain⟨o,h1,_,h2,_⟩:=Zlv hc0
   rw[hop] at h1
   obtain⟨r,h3,h4⟩:=List.mem_filterMap.1 h1
   exact⟨r,by rw[hwy];exact List.mem_filter.2 ⟨h3,by rw[h4];rfl⟩,by rw[h2,(Zfg h4).1]⟩
  have hq:selE now l s (Zcp links) old t=some ⟨t,c.nb,ownW wy c.nb c.cost,c.btn,0⟩:=by
   have hcc:c=Zbk now (befV (getV old t)) op:=by rw[hg];exact hc
   rw[hsel,ZrN (by rw[<-hcc];exact hc0),<-hcc,Zyd wy hex]
  rw[hq] at hst
  have xI0:IsIn (⟨t,c.nb,di0,c.btn,0⟩:InsV):=⟨htd,trivial⟩
  refine gQ 3 rfl (Zac λb20=>?_)
  refine W3 [0,7,0,3,0,2,0,1,0,1,0] ?_
  refine g_v (λa w F M R r=>Zaq F rfl (Zul _ Qd _ _) r) ?_
  refine Zac λb22=>?_
  refine W3 [0,6,0,4] ?_
  refine Zau (ι:=Nat×DisV) ⟨λ(j,own)=>wy.length-j,λ(j,own)=>j<=wy.length/\own=ownW (wy.take j) c.nb c.cost,λ(j,own)=>[(98, .int .i64 j),(97, .int .i64 wy.length),(96,u2),(20, .pointer (some ⟨b20,0,none⟩)),(22, .pointer (some ⟨b22,0,none⟩)),(50, .int .i64 i),(49, .int .i64 D0.length),(48, .slice (some ⟨bD,0,none⟩) D0.length cD),(12,u),(0, .int .i64 now),(1, .slice ql l.length cl),(2, .slice qs s.length cs0),(3, .slice qk links.length ck),(4, .slice qo old.length co)],λ(j,own)=>[[(b22, .cells (inC ⟨t,c.nb,own,c.btn,0⟩).toArray 74 (0,0))],[(b20, .cells (chC c).toArray 310 (0,0))],e2,es,[(bD, .cells (dvsC D0++jD).toArray 67 (0,0))]]⟩ (0,di0) ⟨Q0,rfl⟩ (λa F=>F.only [98,97,96,20,22,50,49,48,12,0,1,2,3,4] rfl) Qa ?_
  rintro⟨j,own⟩ ⟨hj,how⟩
  dsimp only
  have xI:IsIn (⟨t,c.nb,own,c.btn,0⟩:InsV):=⟨htd,trivial⟩
  by_cases hltj:j<wy.length
  ·rcases id hO2 with⟨_,h0,_,_⟩|⟨bw,cw,jw,rfl,rfl,_,_,_⟩
   ·omega
   have f2:seg (rosC wy++jw) (0+(j:Int).toNat*39) 39=some (roC wy[j]):=Zeu (Zbw hwyI) jw hltj Q0
   have wI:=hwyI _ (List.getElem_mem hltj)
   have ho2:ownW (wy.take (j+1)) c.nb c.cost=if wy[j].nb=c.nb then⟨wy[j].said.seq,c.cost⟩ else own:=by
    unfold ownW
    rw[Zj7 hltj]
    exact congrArg (λa=>if wy[j].nb=c.nb then(⟨wy[j].said.seq,c.cost⟩:DisV) else a) how.symm
   clear how
   generalize wy[j]=x at*
   by_cases k:x.nb=c.nb
   ·rw[if_pos k] at ho2
    refine W3 [6,0,6,0,0] ?_
    refine Zac λb24=>?_
    refine W3 [0,5,0,1,0,3,0,3,0,1,0] ?_
    refine g_v (λa w F M R r=>Zaq F rfl (Zzg _ _) r) (gQ 1 rfl (Zdf 1 rfl rfl (ZbE trivial) (Ze8 _) rfl (ZoJ Qd trivial) rfl ?_))
    refine W3 [4,0,2] ?_
    exact yN (j+1,⟨x.said.seq,c.cost⟩) ⟨Q0,ho2.symm⟩
   ·rw[if_neg k] at ho2
    refine W3 [6,0,6,0,0] ?_
    refine Zac λb24=>?_
    refine W3 [0,5,0,1,0,3,0,4,0,2] ?_
    exact yN (j+1,own) ⟨Q0,ho2.symm⟩
  ·have hjl:j=wy.length:=by omega
   rw[hjl,List.take_length] at how
   rw[<-how] at hst
   refine W3 [6,0,2,0,5,0] ?_
   refine g_bs rfl rfl rfl (Zcw Qd) (λb117=>?_)
   refine ZaY 4 0 (enc:=inC) rfl rfl Qd rfl rfl (Zbu Qd) Q4 (λ_=>rfl) (λv118 es118 hO118=>?_) (ZcE _)
   refine W3 [8,0,2] ?_
   exact yN (i+1,_,_,_) ⟨Q0,by simp;omega,hst.symm,by assumption⟩):p:=h
theorem vBa(h:p:=by
  exact Zbo rfl rfl rfl rfl λw M=>c1 _ (by unfold ZaS;simp[*]) _ M.ext):p:=h
theorem vBJ(h:p:=by
  exact yN (i+1,_,_,_) ⟨Q0,by simp;omega,hst.symm,by assumption⟩):p:=h
theorem ZpJ(now:Int)(l:List RouV)(hx:∀x∈l,IsRo x)(s:List SrcV)(hsr:∀x∈s,IsSr x)(links:List OptV)(old:List InsV)(hy:∀x∈old,IsIn x)(vl vs vk vo:Value)(W:World)(hS:SlAt W 39 vl l.length (rosC l))(hSs:SlAt W 38 vs s.length (srsC s))(hSk:SlAt W 2 vk links.length (opsC links))(hSo:SlAt W 40 vo old.length (insC old)):
  Cal prog 288 [.int .i64 now,vl,vs,vk,vo].toArray W λr w'=>∃u ent,r= .tuple [u, .int .i64 (ZaS now l s links old).2].toArray/\OwnS 74 40 u (ZaS now l s links old).1.length (insC (ZaS now l s links old).1) ent/\Mem [] W w' ent:=by
 obtain⟨ql,cl,rfl,_⟩:=id hS
 obtain⟨qs,cs0,rfl,_⟩:=id hSs
 obtain⟨qk,ck,rfl,_⟩:=id hSk
 obtain⟨qo,co,rfl,_⟩:=id hSo
 have c1:∀n,ZaS now l s links old=([],n)->∀w,Ext [] W w->∃u ent,Value.tuple [.slice none 0 0, .int .i64 n].toArray= .tuple [u, .int .i64 (ZaS now l s links old).2].toArray/\OwnS 74 40 u (ZaS now l s links old).1.length (insC (ZaS now l s links old).1) ent/\Mem [] W w ent:=λn h w E=>by
  rw[h]
  exact⟨_,[],rfl,OwnS.nil _ _,Mem.nil E⟩
 have hki:∀o∈links,IsOp o:=λ_ _=>trivial
 refine yS (n:=151) Tryz.func288 rfl rfl ?_
 cases hv:Za7 l
 ·refine W4 [10,0,2,0,25] @ZaN ?_
  exact vBa
 cases hs:ZaK s
 ·refine W4 [10,0,2,0,1,0,3,0,20] (T2 @ZaN @ZaO) ?_
  exact vBa
 cases ho:ZbG old
 ·refine W4 [10,0,2,0,1,0,3,0,1,0,3,0,15] (T3 @ZaN @ZaO @Zct) ?_
  exact vBa
 cases hk:Zdj links
 ·refine W4 [10,0,2,0,1,0,3,0,1,0,3,0,1,0,4,0,8] (T4 @ZaN @ZaO @Zct @ZeP) ?_
  exact vBa
 cases hn:Zag now
 ·refine W4 [10,0,2,0,1,0,3,0,1,0,3,0,1,0,4,0,6,0,3,0,8] (T5 @ZaN @ZaO @Zct @ZeP @Zas) ?_
  exact vBa
 have hrs:ZaS now l s links old=if 512<(selV now l s links old).length then([],10) else(selV now l s links old,0):=by
  unfold ZaS
  rw[hv,hs,hk,ho,hn]
  rfl
 obtain⟨l1,_,hA⟩:=Zbd.1 hv
 obtain⟨l2,hov1,hB⟩:=Za5.1 ho
 obtain⟨l3,_,hK⟩:=Zca.1 hk
 have hDi:=Zkj hx hy
 have hDv:=Zn0 hx hy hv ho
 have hDl:=Zlp l old
 have hsv:selV now l s links old=(Zby l old).filterMap (selE now l s (Zcp links) old):=rfl
 have hnw:=hn
 simp only[Zag,Bool.and_eq_true,decide_eq_true_eq] at hnw
 rw[hrs] at c1⊢
 rw[hsv] at c1⊢
 clear hrs hsv
 refine W4 [10,0,2,0,1,0,3,0,1,0,3,0,1,0,4,0,6,0,3,0,12] (T5 @ZaN @ZaO @Zct @ZeP @Zas) ?_
 refine ZaU (ι:=Value×EN) (λx=>x.1) (λx=>OwnS 67 35 x.1 (Zby l old).length (dvsC (Zby l old)) x.2) (λx=>[x.2]) rfl rfl (λw M=>Cal.mono (Zne l hx hA old hy hB Q0 Q0 _ _ w (hS.later M.ext) (hSo.later M.ext)) λr w'⟨ent,h,N⟩=>⟨(r,ent),rfl,h,by simpa using N⟩) ?_
 generalize Zby l old=D0 at*
 rintro⟨vD,eD⟩ hOD
 simp only[List.cons_append,List.nil_append]
 refine W3 [0,4] ?_
 refine Zba (Zau (ι:=Nat×List InsV×Value×EN) ⟨λ(i,out,u,es)=>D0.length-i,λ(i,out,u,es)=>i<=D0.length/\out.length<=i/\out=(D0.take i).filterMap (selE now l s (Zcp links) old)/\OwnS 74 40 u out.length (insC out) es,λ(i,out,u,es)=>[(50, .int .i64 i),(49, .int .i64 D0.length),(48,vD),(12,u),(0, .int .i64 now),(1, .slice ql l.length cl),(2, .slice qs s.length cs0),(3, .slice qk links.length ck),(4, .slice qo old.length co)],λ(i,out,u,es)=>[es,eD]⟩ (0,[],_,[]) ⟨Q0,by simp,rfl,OwnS.nilL _ _ _⟩ (λa F=>F.only [50,49,48,12,0,1,2,3,4] rfl) Qa ?_)
 rintro⟨i,out,u,es⟩ ⟨hi,hol,hout,hO⟩
 dsimp only
 by_cases hlt:i<D0.length
 ·clear c1
  rcases id hOD with⟨_,h0,_,_⟩|⟨bD,cD,jD,rfl,rfl,_,_,_⟩
  ·omega
  have htd:=hDi _ (List.getElem_mem hlt)
  have htv:=hDv _ (List.getElem_mem hlt)
  have f1:seg (dvsC D0++jD) (0+(i:Int).toNat*35) 35=some (dvC D0[i]):=Zeu (Ziw hDi) jD hlt Q0
  have hst:=Zwu (f:=selE now l s (Zcp links) old) hlt
  rw[<-hout] at hst
  generalize D0[i]=t at*
  have hW:=ZuS (links:=links) l hs htv hn hK
  have hval:=ZgW (now:=now) (s:=s) (links:=links) (t:=t) hx hv l3
  have hsel:selE now l s (Zcp links) old t=aftV now t (getV old t) (ZcA now s (Zcp links) t l) (((l.filter λr=>decide (r.to=t)).filter λr=>(optV now s (Zcp links) t r).isSome).foldl (λm r=>putA r.nb r.said m) []):=rfl
  obtain⟨op,hop⟩:∃o,o=ZcA now s (Zcp links) t l:=⟨_,rfl⟩
  obtain⟨wy,hwy⟩:∃o,o=(l.filter λr=>decide (r.to=t)).filter λr=>(optV now s (Zcp links) t r).isSome:=⟨_,rfl⟩
  have hwyI:∀x∈wy,IsRo x:=λx h=>by rw[hwy] at h;exact hx x (List.mem_filter.1 (List.mem_filter.1 h).1).1
  have hwl:wy.length<=512:=by rw[hwy];exact Nat.le_trans (List.length_filter_le _ _) (Nat.le_trans (List.length_filter_le _ _) l1)
  rw[<-hop,<-hwy] at hW hsel
  rw[<-hop] at hval
  clear hout
  refine W3 [6,0,6,0,0] ?_
  refine Zac λb14=>?_
  refine W3 [0,8,0] ?_
  refine ZaU (ι:=(Value×EN)×(Value×EN)) (λx=> .tuple [x.1.1,x.2.1].toArray) (λx=>OwnS 96 2 x.1.1 op.length (opsC op) x.1.2/\OwnS 76 39 x.2.1 wy.length (rosC wy) x.2.2) (λx=>[x.1.2,x.2.2]) rfl rfl (λw M=>Cal.mono (Zvt l hx s hsr links Q0 Q0 _ _ _ now t htd w (hS.later M.ext) (hSs.later M.ext) (hSk.later M.ext)) λr w'⟨u1,e1,u2,e2,h0,h1,h2,N⟩=>⟨((u1,e1),(u2,e2)),h0,⟨by rw[hW] at h1;exact h1,by rw[hW] at h2;exact h2⟩,by simpa using N⟩) ?_
  rintro⟨⟨u1,e1⟩,⟨u2,e2⟩⟩ ⟨hO1,hO2⟩
  simp only[List.cons_append,List.nil_append]
  dsimp only at hO1 hO2
  cases hg:getV old t with
  |none=>
   have hG:∀w,SlAt w 40 (.slice qo old.length co) old.length (insC old)->Cal prog 55 [.slice qo old.length co, .agg (dvC t).toArray].toArray w _:=λw h=>ZlZ old hy _ t htd w h Q0
   rw[hg] at hG
   simp only[Option.getD_none,Option.isSome_none] at hG
   have hC:=λw v h=>ZkO op (λ_ _=>trivial) hval v now hn ⟨0,0,-1⟩ rfl w h
   obtain⟨c,hc⟩:∃c,c=Zbk now (befV none) op:=⟨_,rfl⟩
   rw[show Zbk now ⟨0,0,-1⟩ op=c from hc.symm] at hC
   refine W4 [10,0,0,3] hG ?_
   refine Zac λb17=>?_
   refine W3 [0,6,0,2,0,1,0] ?_
   refine g_v (λa w F M R r=>Zaq F rfl (ZuD _ _) r) (Zac λb19=>?_)
   refine W3 [0,11] ?_
   refine g_v (λa w F M R r=>Zaq F rfl (ZuD _ _) r) ?_
   refine W4 [0,5,0,1,0] hC ?_
   clear hC hG
   by_cases hc0:c.nb=0
   rotate_left
   ·exact vA4
   have hf:selE now l s (Zcp links) old t=none:=by rw[hsel,hg];exact Zoa (by rw[<-hc];exact hc0)
   refine gQ 3 rfl (Zac λb20=>?_)
   refine W3 [0,7,0,3,0,28,0,2] ?_
   exact yN (i+1,out,u,es) ⟨Q0,by dsimp only;omega,by rw[hst,hf];simp,hO⟩
  |some was=>
   have hG:∀w,SlAt w 40 (.slice qo old.length co) old.length (insC old)->Cal prog 55 [.slice qo old.length co, .agg (dvC t).toArray].toArray w _:=λw h=>ZlZ old hy _ t htd w h Q0
   rw[hg] at hG
   simp only[Option.getD_some,Option.isSome_some] at hG
   have wI:IsIn was:=hy _ (List.mem_of_find?_eq_some hg)
   have wv:ins1 was=true:=hov1 _ (List.mem_of_find?_eq_some hg)
   have hC:=λw v h=>ZkO op (λ_ _=>trivial) hval v now hn ⟨was.nb,was.own.met,was.btn⟩ (ZiC (o:=was) (had:=true) λ_=>wv) w h
   obtain⟨c,hc⟩:∃c,c=Zbk now (befV (some was)) op:=⟨_,rfl⟩
   rw[show Zbk now ⟨was.nb,was.own.met,was.btn⟩ op=c from hc.symm] at hC
   refine W4 [10,0,0,3] hG ?_
   refine Zac λb17=>?_
   refine W3 [0,6,0,2,0,1,0] ?_
   refine g_v (λa w F M R r=>Zaq F rfl (ZoT _ _ _) r) (Zac λb19=>?_)
   refine W4 [0,15,0,1,0] hC ?_
   clear hC hG
   by_cases hc0:c.nb=0
   rotate_left
   ·exact vA4
   have hf:=(hsel.trans (by rw[hg])).trans (Zn9 (now:=now) (t:=t) (op:=op) (said:=wy.foldl (λm r=>putA r.nb r.said m) []) (by rw[<-hc];exact hc0))
   have hne0:(c.nb !=0)=false:=by simp[hc0]
   by_cases hr:was.nb=0
   ·have hr':(!decide (was.nb=0))=false:=by simp[hr]
    rw[if_neg (by simp[hr])] at hf
    by_cases hw:now<was.til
    ·rw[if_pos hw] at hf
     rw[hf] at hst
     refine gQ 3 rfl (Zac λb20=>?_)
     refine W4 [0,7,0,3,0,6,0,0,3,0,5,0,5,0,2,0] @Zdo ?_
     refine g_bs rfl rfl rfl (Zcw Qd) (λb144=>?_)
     refine ZaY 7 0 (enc:=inC) rfl rfl Qd rfl rfl (Zbu Qd) Q4 (λ_=>rfl) (λv145 es145 hO145=>?_) (ZcE _)
     refine W3 [5,0,2] ?_
     exact vBJ
    ·rw[if_neg hw] at hf
     refine gQ 3 rfl (Zac λb20=>?_)
     refine W4 [0,7,0,3,0,6,0,0,3,0,5,0,5,0,4,0,2] @Zdo ?_
     exact yN (i+1,out,u,es) ⟨Q0,by dsimp only;omega,by rw[hst,hf];simp,hO⟩
   ·have hr':(!decide (was.nb=0))=true:=by simp[hr]
    rw[if_pos hr] at hf
    rw[hf] at hst
    have nI:IsIn (⟨t,0,⟨was.own.seq,65535⟩,-1,Zaz now 14⟩:InsV):=⟨htd,trivial⟩
    refine gQ 3 rfl (Zac λb20=>?_)
    refine W4 [0,7,0,3,0,6,0,0,3,0,1010,1,0,2,0] @Zdo ?_
    refine fd_v (λa w F M R r=>Zaq F rfl (Zzg _ _) r) ?_
    refine W4 [1,0] @ZcS ?_
    refine fd_v (λa w F M R r=>Zaq F rfl (ZyQ _ Qd _ _ _) r) ?_
    refine Zmy rfl rfl rfl (Zcw Qd) (λb133=>?_)
    refine ZaY 7 0 (enc:=inC) rfl rfl Qd rfl rfl (Zbu Qd) Q4 (λ_=>rfl) (λv134 es134 hO134=>?_) (ZcE _)
    refine W3 [5,0,2] ?_
    exact vBJ
 ·have hil:i=D0.length:=by omega
  rw[hil,List.take_length] at hout
  rw[<-hout] at c1⊢
  by_cases hlen:512<out.length
  ·rw[if_pos hlen] at c1⊢
   refine W3 [6,0,2,0,6,0,3,0,8] ?_
   exact Zbo rfl rfl rfl rfl λw M=>c1 _ rfl _ M.ext
  ·rw[if_neg hlen] at c1⊢
   clear c1
   refine W3 [6,0,2,0,6,0,3,0,10] ?_
   exact Zbo rfl rfl rfl rfl λw M=>⟨u,es,rfl,hO,M.sub (List.sublist_append_left _ _)⟩
theorem vCR(h:p:=by
  refine W3 [6,0,2,0,9] ?_
  exact Zae rfl rfl rfl λw M=>⟨es,hOs,M.sub (List.sublist_append_left _ _)⟩):p:=h
theorem ZkL(l:List RouV)(hx:∀x∈l,IsRo x)(v:Value)(now:Int)(W:World)(hS:SlAt W 39 v l.length (rosC l)):
  Cal prog 286 [v, .int .i64 now].toArray W λr w'=>∃ent,OwnS 76 39 r (ZaF l now).length (rosC (ZaF l now)) ent/\Mem [] W w' ent:=by
 obtain⟨q,cap,rfl,_⟩:=id hS
 have hm:=hS.memB [] Q5
 have c1:ZaF l now=[]->∀w,Ext [] W w->∃ent,OwnS 76 39 (.slice none 0 0) (ZaF l now).length (rosC (ZaF l now)) ent/\Mem [] W w ent:=λh w E=>by rw[h];exact⟨[],OwnS.nil _ _,Mem.nil E⟩
 refine yS (n:=32) Tryz.func286 rfl rfl ?_
 cases hv:Za7 l
 ·refine W4 [9,0,2,0,14] @ZaN ?_
  exact Zae rfl rfl rfl λw M=>c1 (by unfold ZaF ZcR;simp[hv]) _ M.ext
 cases ht:Zag now
 ·refine W4 [9,0,2,0,1,0,4,0,7] (T2 @ZaN @Zas) ?_
  exact Zae rfl rfl rfl λw M=>c1 (by unfold ZaF;simp[ht]) _ M.ext
 have hl512:=(Zbd.1 hv).1
 refine W4 [9,0,2,0,1,0,4,0,16] (T2 @ZaN @Zas) ?_
 refine Zba (Zau (ι:=Nat×(List RouV)×Value×EN) ⟨λ(i,out,u,es)=>l.length-i,λ(i,out,u,es)=>i<=l.length/\(OwnS 76 39 u out.length (rosC out) es)/\(out=(l.take i).filter (λx=> !decide (x.til<=now))),λ(i,out,u,es)=>[(18, .int .i64 i),(17, .int .i64 l.length),(16, .slice q l.length cap),(5,u),(1, .int .i64 now)],λ(i,out,u,es)=>[es]⟩ (0,[],_,[]) ⟨Q0,OwnS.nilL _ _ _,rfl⟩ (λa F=>F.only [18,17,16,5,1] rfl) Qa ?_)
 rintro⟨i,out,u,es⟩ ⟨hi_i,hOs,ho⟩
 dsimp only
 by_cases hlt_i:i<l.length
 ·obtain⟨b,o,cs,t',fz,rfl,hb,hs⟩:=hm Q0
  obtain⟨x,hx0⟩:∃x,x=l[i]:=⟨_,rfl⟩
  have hxm:x∈l:=by rw[hx0];exact List.getElem_mem hlt_i
  have hxi:IsRo x:=hx _ hxm
  have f1:seg cs (o+(i:Int).toNat*39) 39=some (roC x):=by rw[hx0];exact Zal (Zbw hx) hs hlt_i Q0
  have hx0':=hx0
  clear hx0
  have hst:=ZcV (p:=λx=> !decide (x.til<=now)) hlt_i
  rw[<-ho,<-hx0'] at hst
  have hol:out.length<=i:=by rw[ho];exact Nat.le_trans (List.length_filter_le _ _) (by rw[List.length_take];omega)
  clear ho hx0' c1
  by_cases k:now<x.til
  ·rw[if_pos (by simp;omega)] at hst
   refine W3 [6,0,6,0,0] ?_
   refine Zac λb7=>?_
   refine W3 [0,5,0,4,0,2,0] ?_
   refine g_bs rfl rfl rfl (ZcK Qd) λb28=>?_
   refine ZaY 2 0 (enc:=roC) rfl rfl Qd rfl rfl (Zdy Qd) Q4 (λ_=>rfl) (λv29 es29 hO29=>?_) (Zd1 _)
   refine W3 [5,0,2] ?_
   exact yN (i+1,_,_,_) ⟨Q0,by assumption,hst.symm⟩
  ·rw[if_neg (by simp;omega),List.append_nil] at hst
   refine W3 [6,0,6,0,0] ?_
   refine Zac λb7=>?_
   refine W3 [0,5,0,4,0,4,0,2] ?_
   exact yN (i+1,out,u,es) ⟨Q0,hOs,hst.symm⟩
 ·have hil:i=l.length:=by omega
  rw[hil,List.take_length] at ho
  have he:ZaF l now=out:=by unfold ZaF ZcR;rw[if_pos ht,if_pos hv,ho]
  rw[he]
  clear c1
  exact vCR
theorem ZpV(l:List RouV)(hx:∀x∈l,IsRo x)(hlen:l.length<=100000)(v:Value)(nb:Int)(W:World)(hS:SlAt W 39 v l.length (rosC l)):
  Cal prog 285 [v, .int .u64 nb].toArray W λr w'=>∃ent,OwnS 76 39 r (ZeZ l nb).length (rosC (ZeZ l nb)) ent/\Mem [] W w' ent:=by
 obtain⟨q,cap,rfl,_⟩:=id hS
 have hm:=hS.memB [] Q5
 refine yS (n:=28) Tryz.func285 rfl rfl (gQ 19 rfl (Zba (Zau (ι:=Nat×(List RouV)×Value×EN) ⟨λ(i,out,u,es)=>l.length-i,λ(i,out,u,es)=>i<=l.length/\(OwnS 76 39 u out.length (rosC out) es)/\(out=(l.take i).filter (λx=>Za7 l&& !(x.nb==nb))),λ(i,out,u,es)=>[(10, .int .i64 i),(9, .int .i64 l.length),(8, .slice q l.length cap),(5,u),(0, .slice q l.length cap),(1, .int .u64 nb)],λ(i,out,u,es)=>[es]⟩ (0,[],_,[]) ⟨Q0,OwnS.nilL _ _ _,rfl⟩ (λa F=>F.only [10,9,8,5,0,1] rfl) Qa ?_)))
 rintro⟨i,out,u,es⟩ ⟨hi_i,hOs,ho⟩
 dsimp only
 by_cases hlt_i:i<l.length
 ·obtain⟨b,o,cs,t',fz,rfl,hb,hs⟩:=hm Q0
  obtain⟨x,hx0⟩:∃x,x=l[i]:=⟨_,rfl⟩
  have hxm:x∈l:=by rw[hx0];exact List.getElem_mem hlt_i
  have hxi:IsRo x:=hx _ hxm
  have f1:seg cs (o+(i:Int).toNat*39) 39=some (roC x):=by rw[hx0];exact Zal (Zbw hx) hs hlt_i Q0
  have hx0':=hx0
  clear hx0
  have hst:=ZcV (p:=λx=>Za7 l&& !(x.nb==nb)) hlt_i
  rw[<-ho,<-hx0'] at hst
  have hol:out.length<=i:=by rw[ho];exact Nat.le_trans (List.length_filter_le _ _) (by rw[List.length_take];omega)
  clear ho hx0'
  by_cases k:x.nb=nb
  ·rw[if_neg (by simp[k]),List.append_nil] at hst
   refine W3 [6,0,6,0,0] ?_
   refine Zac λb7=>?_
   refine W3 [0,5,0,3,0,10,0,2] ?_
   exact yN (i+1,out,u,es) ⟨Q0,hOs,hst.symm⟩
  ·by_cases hv:Za7 l=true
   ·rw[if_pos (by simp[k,hv])] at hst
    refine W3 [6,0,6,0,0] ?_
    refine Zac λb7=>?_
    refine W4 [0,5,0,3,0,1,0,3,0,2,0] @ZaN ?_
    refine g_bs rfl rfl rfl (ZcK Qd) λb24=>?_
    refine ZaY 2 0 (enc:=roC) rfl rfl Qd rfl rfl (Zdy Qd) Q4 (λ_=>rfl) (λv25 es25 hO25=>?_) (Zd1 _)
    refine W3 [5,0,2] ?_
    exact yN (i+1,_,_,_) ⟨Q0,by assumption,hst.symm⟩
   ·have hv':Za7 l=false:=by simpa using hv
    rw[if_neg (by simp[hv']),List.append_nil] at hst
    refine W3 [6,0,6,0,0] ?_
    refine Zac λb7=>?_
    refine W4 [0,5,0,3,0,1,0,3,0,4,0,2] @ZaN ?_
    exact yN (i+1,out,u,es) ⟨Q0,hOs,hst.symm⟩
 ·have hil:i=l.length:=by omega
  rw[hil,List.take_length] at ho
  have he:ZeZ l nb=out:=by
   unfold ZeZ ZcR
   cases hv:Za7 l
   ·rw[ho,hv];simp
   ·rw[ho,hv];simp
  rw[he]
  exact vCR
def Zdi(inn:List InsV)(t:DstV):Bool:=match getV inn t with
 |none=>true
 |some x=>decide (x.nb=0)
def Za9(now:Int)(l:List RouV)(s:List SrcV)(inn:List InsV):List DstV:=if !Za7 l|| !ZaK s|| !ZbG inn|| !Zag now then [] else(Zby (ZaF l now) []).filter (Zdi inn)
theorem ZeC(hx:∀x∈l,IsRo x):∀x∈ZaF l now,IsRo x:=λx h=>by
 unfold ZaF ZcR at h
 split at h
 ·split at h
  ·exact hx x (List.mem_filter.1 h).1
  ·cases h
 ·cases h
theorem Zjs(h1:Za7 l=true)(h2:Zag now=true):ZaF l now=l.filter (λx=> !decide (x.til<=now)):=by
 unfold ZaF ZcR
 rw[if_pos h2,if_pos h1]
theorem vBg(h:p:=by
  exact Zae rfl rfl rfl λw M=>c1 (by unfold Za9;simp[*]) _ M.ext):p:=h
theorem Zor(now:Int)(l:List RouV)(hx:∀x∈l,IsRo x)(s:List SrcV)(hsr:∀x∈s,IsSr x)(inn:List InsV)(hy:∀x∈inn,IsIn x)(vl vs vi:Value)(W:World)(hS:SlAt W 39 vl l.length (rosC l))(hSs:SlAt W 38 vs s.length (srsC s))(hSi:SlAt W 40 vi inn.length (insC inn)):
  Cal prog 290 [.int .i64 now,vl,vs,vi].toArray W λr w'=>∃ent,OwnS 67 35 r (Za9 now l s inn).length (dvsC (Za9 now l s inn)) ent/\Mem [] W w' ent:=by
 obtain⟨ql,cl,rfl,_⟩:=id hS
 obtain⟨qs,cs0,rfl,_⟩:=id hSs
 obtain⟨qi,ci,rfl,_⟩:=id hSi
 have c1:Za9 now l s inn=[]->∀w,Ext [] W w->∃ent,OwnS 67 35 (.slice none 0 0) (Za9 now l s inn).length (dvsC (Za9 now l s inn)) ent/\Mem [] W w ent:=λh w E=>by
  rw[h]
  exact⟨[],OwnS.nil _ _,Mem.nil E⟩
 refine yS (n:=60) Tryz.func290 rfl rfl ?_
 cases hv:Za7 l
 ·refine W4 [9,0,2,0,24] @ZaN ?_
  exact vBg
 cases hs:ZaK s
 ·refine W4 [9,0,2,0,1,0,3,0,19] (T2 @ZaN @ZaO) ?_
  exact vBg
 cases ho:ZbG inn
 ·refine W4 [9,0,2,0,1,0,3,0,1,0,3,0,14] (T3 @ZaN @ZaO @Zct) ?_
  exact vBg
 cases hn:Zag now
 ·refine W4 [9,0,2,0,1,0,3,0,1,0,3,0,1,0,4,0,7] (T4 @ZaN @ZaO @Zct @Zas) ?_
  exact vBg
 have hrs:Za9 now l s inn=(Zby (ZaF l now) []).filter (Zdi inn):=by
  unfold Za9
  rw[hv,hs,ho,hn]
  rfl
 rw[hrs]
 clear c1 hrs
 obtain⟨l1,_,hA⟩:=Zbd.1 hv
 obtain⟨l2,_,_⟩:=Za5.1 ho
 refine W4 [9,0,2,0,1,0,3,0,1,0,3,0,1,0,4,0,12] (T4 @ZaN @ZaO @Zct @Zas) ?_
 have hE:=Zjs hv hn
 have hEx:=ZeC (now:=now) hx
 have hEA:AscC cmpR (ZaF l now):=by rw[hE];exact List.Pairwise.filter _ hA
 have hEl:(ZaF l now).length<=512:=by rw[hE];exact Nat.le_trans (List.length_filter_le _ _) l1
 have hDi:=Zkj (old:=[]) hEx Q5
 have hDl:=Zlp (ZaF l now) []
 clear hE
 refine ZaU (ι:=Value×EN) (λx=>x.1) (λx=>OwnS 76 39 x.1 (ZaF l now).length (rosC (ZaF l now)) x.2) (λx=>[x.2]) rfl rfl (λw M=>Cal.mono (ZkL l hx _ now w (hS.later M.ext)) λr w'⟨ent,h,N⟩=>⟨(r,ent),rfl,h,by simpa using N⟩) ?_
 generalize ZaF l now=E at*
 rintro⟨vE,eE⟩ hOE
 simp only[List.cons_append,List.nil_append]
 dsimp only at hOE
 skip
 refine ZaU (ι:=Value×EN) (λx=>x.1) (λx=>OwnS 67 35 x.1 (Zby E []).length (dvsC (Zby E [])) x.2) (λx=>[x.2]) rfl rfl (λw M=>Cal.mono (Zne E hEx hEA [] Q5 .nil Q0 Q5 _ _ w (hOE.slAt M (λp hp=>by simp[hp])) (SlAt.nil _ _)) λr w'⟨ent,h,N⟩=>⟨(r,ent),rfl,h,by simpa using N⟩) ?_
 generalize Zby E []=D0 at*
 rintro⟨vD,eD⟩ hOD
 simp only[List.cons_append,List.nil_append]
 dsimp only at hOD
 simp only[List.length_nil] at hDl
 refine W3 [0,4] ?_
 refine Zba (Zau (ι:=Nat×List DstV×Value×EN) ⟨λ(i,out,u,es)=>D0.length-i,λ(i,out,u,es)=>i<=D0.length/\out.length<=i/\out=(D0.take i).filter (Zdi inn)/\OwnS 67 35 u out.length (dvsC out) es,λ(i,out,u,es)=>[(37, .int .i64 i),(36, .int .i64 D0.length),(35,vD),(9,u),(3, .slice qi inn.length ci)],λ(i,out,u,es)=>[es,eD]⟩ (0,[],_,[]) ⟨Q0,by simp,rfl,OwnS.nilL _ _ _⟩ (λa F=>F.only [37,36,35,9,3] rfl) Qa ?_)
 rintro⟨i,out,u,es⟩ ⟨hi,hol,hout,hO⟩
 dsimp only
 by_cases hlt:i<D0.length
 ·rcases id hOD with⟨_,h0,_,_⟩|⟨bD,cD,jD,rfl,rfl,_,_,_⟩
  ·omega
  have htd:=hDi _ (List.getElem_mem hlt)
  have f1:seg (dvsC D0++jD) (0+(i:Int).toNat*35) 35=some (dvC D0[i]):=Zeu (Ziw hDi) jD hlt Q0
  have hst:=ZcV (p:=Zdi inn) hlt
  rw[<-hout] at hst
  generalize D0[i]=t at*
  clear hout
  have hG:∀w,SlAt w 40 (.slice qi inn.length ci) inn.length (insC inn)->Cal prog 55 [.slice qi inn.length ci, .agg (dvC t).toArray].toArray w _:=λw h=>ZlZ inn hy _ t htd w h Q0
  cases hg:getV inn t with
  |none=>
   rw[hg] at hG
   simp only[Option.getD_none,Option.isSome_none] at hG
   rw[if_pos (by unfold Zdi;rw[hg])] at hst
   refine W3 [6,0,6,0,0] ?_
   refine Zac λb11=>?_
   refine W4 [0,5,0,0] hG ?_
   have hin0:=ZnH
   refine gQ 3 rfl (Zac λb12=>?_)
   refine W3 [0,17,0] ?_
   refine g_bs rfl rfl rfl (ZeE Qd) (λb56=>?_)
   refine ZaY 3 0 (enc:=dvC) rfl rfl Qd rfl rfl (Zbl Qd) Q4 (λ_=>rfl) (λv57 es57 hO57=>?_) (Zek _)
   refine W3 [5,0,2] ?_
   exact vBJ
  |some was=>
   rw[hg] at hG
   simp only[Option.getD_some,Option.isSome_some] at hG
   have wI:IsIn was:=hy _ (List.mem_of_find?_eq_some hg)
   refine W3 [6,0,6,0,0] ?_
   refine Zac λb11=>?_
   refine W4 [0,5,0,0] hG ?_
   by_cases hr:was.nb=0
   ·have hr':(!decide (was.nb=0))=false:=by simp[hr]
    rw[if_pos (by unfold Zdi;rw[hg];simp[hr])] at hst
    refine gQ 3 rfl (Zac λb12=>?_)
    refine W4 [0,8,0,0,4,0,2,0] @Zdo ?_
    refine g_bs rfl rfl rfl (ZeE Qd) (λb56=>?_)
    refine ZaY 3 0 (enc:=dvC) rfl rfl Qd rfl rfl (Zbl Qd) Q4 (λ_=>rfl) (λv57 es57 hO57=>?_) (Zek _)
    refine W3 [5,0,2] ?_
    exact vBJ
   ·have hr':(!decide (was.nb=0))=true:=by simp[hr]
    rw[if_neg (by unfold Zdi;rw[hg];simp[hr]),List.append_nil] at hst
    refine gQ 3 rfl (Zac λb12=>?_)
    refine W4 [0,8,0,0,4,0,4,0,2] @Zdo ?_
    exact yN (i+1,out,u,es) ⟨Q0,by dsimp only;omega,hst.symm,hO⟩
 ·have hil:i=D0.length:=by omega
  rw[hil,List.take_length] at hout
  rw[<-hout]
  refine W3 [6,0,2,0,9] ?_
  exact vC6
theorem Zgs:Zhv prog 67 (λx:DstV=> .agg (dvC x).toArray) IsDv:=Zjc (ks:=dvK) Q7 dvC (λ_ h=>ZaG h) (λ_ _ hx hy=>Zc3 hx hy)
theorem ZjC:Zeb prog 4 (.bool false):=by
 unfold Zeb
 kernel_rfl
theorem ZnC{κ ν:Type} [DecidableEq κ]{x:κ}{v:ν}:∀{m:List (κ×ν)}{p:κ×ν},p∈putA x v m->p.1=x∨p∈m
 |[],p,h=>by
  simp only[putA,List.mem_singleton] at h
  exact .inl (by rw[h])
 |q::m,p,h=>by
  unfold putA at h
  split at h
  ·rcases List.mem_cons.1 h with rfl|h
   ·exact .inl rfl
   ·exact .inr (List.mem_cons_of_mem _ h)
  ·rcases List.mem_cons.1 h with rfl|h
   ·exact .inr Q5
   ·exact(ZnC h).imp id (List.mem_cons_of_mem _)
theorem ZtD{l:List InsV}(h:i<l.length):(l.take (i+1)).any (λx=>decide (x.to=t)&& !decide (x.nb=0))=((l.take i).any (λx=>decide (x.to=t)&& !decide (x.nb=0))||(decide (l[i].to=t)&& !decide (l[i].nb=0))):=by
 rw[List.take_add_one,List.getElem?_eq_getElem h,List.any_append]
 simp
theorem ZoL(hA:AscC cmpN inn)(t:DstV):(inn.any λx=>decide (x.to=t)&& !decide (x.nb=0))= !Zdi inn t:=by
 have huniq:∀x∈inn,∀y∈inn,x.to=y.to->x=y:=λx hx y hy e=>by
  obtain⟨i,hi,rfl⟩:=List.mem_iff_getElem.1 hx
  obtain⟨j,hj,rfl⟩:=List.mem_iff_getElem.1 hy
  rcases Nat.lt_trichotomy i j with h|h|h
  ·have:=(List.pairwise_iff_getElem.1 hA) i j hi hj h
   unfold cmpN at this
   rw[e,Za0] at this
   omega
  ·subst h;rfl
  ·have:=(List.pairwise_iff_getElem.1 hA) j i hj hi h
   unfold cmpN at this
   rw[e,Za0] at this
   omega
 unfold Zdi
 cases hg:getV inn t with
 |none=>
  have hn:=List.find?_eq_none.1 hg
  show(inn.any λx=>decide (x.to=t)&& !decide (x.nb=0))=false
  rw[Bool.eq_false_iff]
  intro h
  obtain⟨x,hx,h1⟩:=List.any_eq_true.1 h
  simp only[Bool.and_eq_true,decide_eq_true_eq] at h1
  exact hn x hx (dqT h1.1)
 |some x=>
  have hm:=List.mem_of_find?_eq_some hg
  have ht:x.to=t:=by simpa using List.find?_some hg
  dsimp only
  rw[Bool.eq_iff_iff]
  constructor
  ·intro h
   obtain⟨y,hy,h1⟩:=List.any_eq_true.1 h
   simp only[Bool.and_eq_true,decide_eq_true_eq] at h1
   rw[<-huniq y hy x hm (h1.1.trans ht.symm)]
   exact h1.2
  ·intro h
   exact List.any_eq_true.2 ⟨x,hm,by rw[ht];simpa using h⟩
structure St2(now:Int)(inn:List InsV)(l:List RouV)(out:List DstV):Prop where
 asc:AscD out
 mem:∀t,t∈out↔∃x∈l,x.to=t/\now<x.til/\Zdi inn t=true
theorem Zu0:St2 now inn [] []:=⟨.nil,λt=>by simp⟩
theorem Zf7{α:Type}{l:List α}(h:j<l.length){x:α}:x∈l.take (j+1)↔x∈l.take j∨x=l[j]:=by
 rw[List.take_add_one,List.getElem?_eq_getElem h,List.mem_append]
 simp
theorem St2.skip(hj:j<l.length)(h:St2 now inn (l.take j) out)(hs:¬now<l[j].til∨Zdi inn l[j].to=false∨l[j].to∈out):St2 now inn (l.take (j+1)) out:=by
 refine⟨h.asc,λt=>⟨λht=>?_,λ⟨x,hx,h1,h2,h3⟩=>?_⟩⟩
 ·obtain⟨x,hx,h1⟩:=(h.mem t).1 ht
  exact⟨x,(Zf7 hj).2 (.inl hx),h1⟩
 ·rcases(Zf7 hj).1 hx with hx|hx
  ·exact(h.mem t).2 ⟨x,hx,h1,h2,h3⟩
  ·subst hx
   rcases hs with g|g|g
   ·exact absurd h2 g
   ·rw[h1,h3] at g;cases g
   ·rw[<-h1];exact g
theorem St2.push(hx:∀x∈l,IsRo x)(hW:Weak RouV.to l)(hj:j<l.length)(h:St2 now inn (l.take j) out)(h1:now<l[j].til)(h2:Zdi inn l[j].to=true)(h3:∀hn:0<out.length,out[out.length-1]≠l[j].to):St2 now inn (l.take (j+1)) (out++[l[j].to]):=by
 have hle:∀t∈out,¬cmpD l[j].to t<0/\IsDv t:=λt ht=>by
  obtain⟨x,hx1,rfl,_⟩:=(h.mem t).1 ht
  obtain⟨q,hq,rfl⟩:=List.mem_iff_getElem.1 hx1
  rw[List.length_take] at hq
  rw[List.getElem_take]
  exact⟨(List.pairwise_iff_getElem.1 hW) q j Q0 hj Q0,(hx _ (List.getElem_mem Q0)).1⟩
 have hjd:=(hx _ (List.getElem_mem hj)).1
 refine⟨List.pairwise_append.2 ⟨h.asc,by simp,λt ht b hb=>?_⟩,λt=>?_⟩
 ·simp only[List.mem_singleton] at hb
  subst hb
  obtain⟨g1,g2⟩:=hle t ht
  have g3:=ZbJ t l[j].to
  rcases Int.lt_or_eq_of_le (show cmpD t l[j].to<=0 by omega) with g4|g4
  ·exact g4
  ·exfalso
   have e:=Zcg g2 hjd g4
   have hn:0<out.length:=List.length_pos_of_mem ht
   obtain⟨p,hp,hpe⟩:=List.mem_iff_getElem.1 ht
   rcases Nat.lt_or_ge p (out.length-1) with g5|g5
   ·have g6:=(List.pairwise_iff_getElem.1 h.asc) p (out.length-1) hp Q0 g5
    rw[hpe,e] at g6
    exact(hle _ (List.getElem_mem Q0)).1 g6
   ·have g6:p=out.length-1:=by omega
    subst g6
    exact h3 hn (hpe.trans e)
 ·rw[List.mem_append,List.mem_singleton,h.mem]
  constructor
  ·rintro(⟨x,hx1,h5⟩|rfl)
   ·exact⟨x,(Zf7 hj).2 (.inl hx1),h5⟩
   ·exact⟨_,(Zf7 hj).2 (.inr rfl),rfl,h1,h2⟩
  ·rintro⟨x,hx1,h5,h6⟩
   rcases(Zf7 hj).1 hx1 with g|g
   ·exact .inl ⟨x,g,h5,h6⟩
   ·subst g
    exact .inr h5.symm
theorem St2.all(hx:∀x∈l,IsRo x)(h:St2 now inn l out)(hE:ZaF l now=l.filter (λx=> !decide (x.til<=now))):out=(Zby (ZaF l now) []).filter (Zdi inn):=by
 have h1:=Zd6 (old:=[]) (ZeC (now:=now) hx) Q5
 refine Ze3 (λt=>t) _ _ h.asc (List.Pairwise.filter _ h1.1) λt=>?_
 rw[h.mem,List.mem_filter,h1.2,hE]
 unfold allD
 simp only[List.map_nil,List.append_nil,List.mem_map,List.mem_filter]
 constructor
 ·rintro⟨x,g1,g2,g3,g4⟩
  exact⟨⟨x,⟨g1,by simp;omega⟩,g2⟩,g4⟩
 ·rintro⟨⟨x,⟨g1,g2⟩,g3⟩,g4⟩
  exact⟨x,g1,g3,by simp at g2;omega,g4⟩
theorem vBl(h:p:=by
  refine g_bs rfl rfl rfl (ZeE Qd) (λb81=>?_)
  refine ZaY 2 0 (enc:=dvC) rfl rfl Qd rfl rfl (Zbl Qd) Q4 (λ_=>rfl) (λv82 es82 hO82=>?_) (Zek _)
  refine W3 [5,0,2] ?_
  exact yN (j+1,_,_,_) ⟨Q0,by assumption,by simp;omega,hn⟩):p:=h
theorem Zpn(now:Int)(l:List RouV)(hx:∀x∈l,IsRo x)(s:List SrcV)(hsr:∀x∈s,IsSr x)(inn:List InsV)(hy:∀x∈inn,IsIn x)(vl vs vi:Value)(W:World)(hS:SlAt W 39 vl l.length (rosC l))(hSs:SlAt W 38 vs s.length (srsC s))(hSi:SlAt W 40 vi inn.length (insC inn)):
  Cal prog 158 [.int .i64 now,vl,vs,vi].toArray W λr w'=>∃ent,OwnS 67 35 r (Za9 now l s inn).length (dvsC (Za9 now l s inn)) ent/\Mem [] W w' ent:=by
 obtain⟨ql,cl,rfl,_⟩:=id hS
 obtain⟨qs,cs0,rfl,_⟩:=id hSs
 obtain⟨qi,ci,rfl,_⟩:=id hSi
 have hm:=hS.memB [] Q5
 have hmi:=hSi.memB [] Q5
 have c1:Za9 now l s inn=[]->∀w,Ext [] W w->∃ent,OwnS 67 35 (.slice none 0 0) (Za9 now l s inn).length (dvsC (Za9 now l s inn)) ent/\Mem [] W w ent:=λh w E=>by
  rw[h]
  exact⟨[],OwnS.nil _ _,Mem.nil E⟩
 refine yS (n:=85) Tryz.func158 rfl rfl ?_
 cases hv:Za7 l
 ·refine gQ 9 rfl ?_
  refine Zb6 rfl rfl (λw M=>Zdx _ Qd _ _ (Qw M.ext)) ?_
  refine gQ 2 rfl (Zji 18 rfl (notT Qd) ?_)
  exact gQ 24 rfl (Zae rfl rfl rfl λw M=>c1 (by unfold Za9;simp[*]) _ M.ext)
 cases hs:ZaK s
 ·refine gQ 9 rfl ?_
  refine Zb6 rfl rfl (λw M=>Zdx _ Qd _ _ (Qw M.ext)) ?_
  refine gQ 2 rfl (Zji 18 rfl (notF Qd) ?_)
  refine gQ 1 rfl (Zb6 rfl rfl (λw M=>Zbq _ Qd _ _ (Qw M.ext)) ?_)
  refine gQ 3 rfl (Zji 23 rfl (notT Qd) ?_)
  exact gQ 19 rfl (Zae rfl rfl rfl λw M=>c1 (by unfold Za9;simp[*]) _ M.ext)
 cases ho:ZbG inn
 ·refine W4 [9,0,2,0,1,0,3,0,1] (T2 @Zdx @Zbq) ?_
  refine Zb6 rfl rfl (λw M=>Zet _ Qd _ _ (Qw M.ext)) ?_
  refine gQ 3 rfl (Zji 28 rfl (notT Qd) ?_)
  exact gQ 14 rfl (Zae rfl rfl rfl λw M=>c1 (by unfold Za9;simp[*]) _ M.ext)
 cases hn:Zag now
 ·refine W4 [9,0,2,0,1,0,3,0,1,0,3,0,1,0,4,0,7] (T4 @Zdx @Zbq @Zet @ZeN) ?_
  exact vBg
 have hrs:Za9 now l s inn=(Zby (ZaF l now) []).filter (Zdi inn):=by
  unfold Za9
  rw[hv,hs,ho,hn]
  rfl
 rw[hrs]
 clear c1 hrs
 obtain⟨l1,_,hA⟩:=Zbd.1 hv
 obtain⟨l2,_,hB⟩:=Za5.1 ho
 have hW:=Zpc hx hA
 have hH:=ZoL hB
 refine W4 [9,0,2,0,1,0,3,0,1,0,3,0,1,0,4,0,4] (T4 @Zdx @Zbq @Zet @ZeN) ?_
 refine Zwp (λx:DstV=> .agg (dvC x).toArray) λvM eM hM0=>gQ 12 rfl (Zau (ι:=Nat×(List (DstV×Value))×EN) ⟨λ(i,m,em)=>inn.length-i,λ(i,m,em)=>i<=inn.length/\(OwnM (λx:DstV=> .agg (dvC x).toArray) vM m em)/\(∀p∈m,IsDv p.1)/\(∀t,(getA t m).getD (.bool false)= .bool ((inn.take i).any λx=>decide (x.to=t)&& !decide (x.nb=0))),λ(i,m,em)=>[(36, .int .i64 i),(35, .int .i64 inn.length),(34, .slice qi inn.length ci),(9,vM),(0, .int .i64 now),(1, .slice ql l.length cl)],λ(i,m,em)=>[em]⟩ (0,[],eM) ⟨Q0,hM0,by simp,λ_=>rfl⟩ (λa F=>F.only [36,35,34,9,0,1] rfl) Qa ?_)
 rintro⟨i,m,em⟩ ⟨hi_i,hM,hmo,hmt⟩
 dsimp only
 by_cases hlt_i:i<inn.length
 ·obtain⟨b,o,cs,t',fz,rfl,hb,hs⟩:=hmi Q0
  obtain⟨x,hx0⟩:∃x,x=inn[i]:=⟨_,rfl⟩
  have hxm:x∈inn:=by rw[hx0];exact List.getElem_mem hlt_i
  have hxi:IsIn x:=hy _ hxm
  have f1:seg cs (o+(i:Int).toNat*40) 40=some (inC x):=by rw[hx0];exact Zal (ZbU hy) hs hlt_i Q0
  have has:=λt=>ZtD (t:=t) hlt_i
  rw[<-hx0] at has
  clear hx0
  by_cases hr:x.nb=0
  ·have hr':(!decide (x.nb=0))=false:=by simp[hr]
   have hn:∀t,(getA t m).getD (.bool false)= .bool ((inn.take (i+1)).any λx=>decide (x.to=t)&& !decide (x.nb=0)):=λt=>by rw[has,hmt,hr',Bool.and_false,Bool.or_false]
   refine W3 [6,0,6,0,0] ?_
   refine Zac λb11=>?_
   refine W4 [0,4,0,0,2,0,4,0,2] @Zge ?_
   exact yN (i+1,m,em) ⟨Q0,hM,hmo,hn⟩
  ·have hr':(!decide (x.nb=0))=true:=by simp[hr]
   have hn:∀t,(getA t (putA x.to (.bool true) m)).getD (.bool false)= .bool ((inn.take (i+1)).any λx=>decide (x.to=t)&& !decide (x.nb=0)):=λt=>by
    rw[has,hr',Zgx]
    by_cases e:t=x.to
    ·rw[if_pos e,dqT e.symm];simp
    ·rw[if_neg e,hmt,dqF (λh=>e h.symm)];simp
   have hmo2:∀p∈putA x.to (.bool true) m,IsDv p.1:=λp hp=>by
    rcases ZnC hp with h|h
    ·rw[h];exact hxi.1
    ·exact hmo p h
   refine W3 [6,0,6,0,0] ?_
   refine Zac λb11=>?_
   refine W4 [0,4,0,0,2,0,3,0] @Zge ?_
   refine Zta 1 Zgs hM rfl (λ_=>rfl) hmo hxi.1 rfl rfl rfl λem2 hM2=>?_
   refine W3 [4,0,2] ?_
   exact yN (i+1,_,em2) ⟨Q0,hM2,hmo2,hn⟩
 ·have hil:i=inn.length:=by omega
  rw[hil,List.take_length] at hmt
  have hlk:∀t,(getA t m).getD (.bool false)= .bool (!Zdi inn t):=λt=>by rw[hmt,hH]
  clear hmt hH
  refine W3 [6,0,2,0,16] ?_
  refine Zba (Zau (ι:=Nat×(List DstV)×Value×EN) ⟨λ(j,out,u,es)=>l.length-j,λ(j,out,u,es)=>j<=l.length/\(OwnS 67 35 u out.length (dvsC out) es)/\(out.length<=j)/\(St2 now inn (l.take j) out),λ(j,out,u,es)=>[(48, .int .i64 j),(47, .int .i64 l.length),(46, .slice ql l.length cl),(12,u),(9,vM),(0, .int .i64 now)],λ(j,out,u,es)=>[es,em]⟩ (0,[],_,[]) ⟨Q0,OwnS.nilL _ _ _,by simp,Zu0⟩ (λa F=>F.only [48,47,46,12,9,0] rfl) Qa ?_)
  rintro⟨j,out,u,es⟩ ⟨hi_j,hO,hol,hSt⟩
  dsimp only
  by_cases hlt_j:j<l.length
  ·obtain⟨b,o,cs,t',fz,rfl,hb,hs⟩:=hm Q0
   obtain⟨x,hx0⟩:∃x,x=l[j]:=⟨_,rfl⟩
   have hxm:x∈l:=by rw[hx0];exact List.getElem_mem hlt_j
   have hxi:IsRo x:=hx _ hxm
   have f1:seg cs (o+(j:Int).toNat*39) 39=some (roC x):=by rw[hx0];exact Zal (Zbw hx) hs hlt_j Q0
   have hsk:(¬now<x.til∨Zdi inn x.to=false∨x.to∈out)->St2 now inn (l.take (j+1)) out:=λh=>by rw[hx0] at h;exact hSt.skip hlt_j h
   have hpu:now<x.til->Zdi inn x.to=true->(∀hn:0<out.length,out[out.length-1]≠x.to)->St2 now inn (l.take (j+1)) (out++[x.to]):=λh1 h2 h3=>by rw[hx0] at h1 h2 h3⊢;exact hSt.push hx hW hlt_j h1 h2 h3
   have hoD:∀t∈out,IsDv t:=λt h=>by
    obtain⟨x',h1,rfl,_⟩:=(hSt.mem t).1 h
    exact(hx x' (List.mem_of_mem_take h1)).1
   clear hx0 hSt
   have hxd:IsDv x.to:=hxi.1
   by_cases k1:x.til<=now
   ·have hn:=hsk (.inl Q0)
    refine W3 [6,0,6,0,0] ?_
    refine Zac λb14=>?_
    refine W3 [0,4,1026,1,0,3,0,21,0,8,0,2] ?_
    exact yN (j+1,out,u,es) ⟨Q0,hO,by dsimp only;omega,hn⟩
   have hl2:=hlk x.to
   cases k2:Zdi inn x.to
   ·rw[k2] at hl2
    have hn:=hsk (.inr (.inl k2))
    refine W3 [6,0,6,0,0] ?_
    refine Zac λb14=>?_
    refine W3 [0,4,1026,1,0,3,0,2,0] ?_
    refine ZhG 2 Zgs ZjC hM rfl hmo hxd rfl rfl hl2 ?_
    refine W3 [17,0,8,0,2] ?_
    exact yN (j+1,out,u,es) ⟨Q0,hO,by dsimp only;omega,hn⟩
   rw[k2] at hl2
   have k1':now<x.til:=by omega
   by_cases k3:0<out.length
   ·have hoI:∀t∈out,IsDv t:=hoD
    rcases id hO with⟨_,h0,_,_⟩|⟨bO,cO,jO,rfl,rfl,_,_,_⟩
    ·omega
    have f3:seg (dvsC out++jO) (0+((out.length:Int)-1).toNat*35) 35=some (dvC out[out.length-1]):=Zeu (Ziw hoI) jO Q0 Q0
    have yD:=hoI _ (List.getElem_mem (show out.length-1<out.length by omega))
    by_cases k4:out[out.length-1]=x.to
    ·have hn:=hsk (.inr (.inr (by rw[<-k4];exact List.getElem_mem _)))
     have k4':=dqT k4
     generalize out[out.length-1]=y at f3 yD k4'
     refine W3 [6,0,6,0,0] ?_
     refine Zac λb14=>?_
     refine W3 [0,4,1026,1,0,3,0,2,0] ?_
     refine ZhG 2 Zgs ZjC hM rfl hmo hxd rfl rfl hl2 ?_
     refine W3 [6,0,3,0,0,0,1,0] ?_
     refine Zjr rfl rfl (ZaG Qd) (ZaG Qd) (Zc3 Qd Qd) ?_
     refine W3 [2,0,2,0,5,0,2] ?_
     exact yN (j+1,out,_,_) ⟨Q0,hO,by dsimp only;omega,hn⟩
    ·have hn:=hpu k1' k2 (λ_=>k4)
     have k4':=dqF k4
     generalize hyg:out[out.length-1]=y at f3 yD k4'
     clear hyg
     refine W3 [6,0,6,0,0] ?_
     refine Zac λb14=>?_
     refine W3 [0,4,1026,1,0,3,0,2,0] ?_
     refine ZhG 2 Zgs ZjC hM rfl hmo hxd rfl rfl hl2 ?_
     refine W3 [6,0,3,0,0,0,1,0] ?_
     refine Zjr rfl rfl (ZaG Qd) (ZaG Qd) (Zc3 Qd Qd) ?_
     refine W3 [2,0,2,0,5,0] ?_
     exact vBl
   ·have hn:=hpu k1' k2 (λh=>absurd h k3)
    refine W3 [6,0,6,0,0] ?_
    refine Zac λb14=>?_
    refine W3 [0,4,1026,1,0,3,0,2,0] ?_
    refine ZhG 2 Zgs ZjC hM rfl hmo hxd rfl rfl hl2 ?_
    refine W3 [3,0,2,0,11,0,8,0] ?_
    exact vBl
  ·have hjl:j=l.length:=by omega
   rw[hjl,List.take_length] at hSt
   rw[<-hSt.all hx (Zjs hv hn)]
   refine W3 [6,0,2,0,9] ?_
   exact vC6
def setB(now:Int)(s:RtV):RtV:=
 if(ZaS now (ZaF (senR now s.ro s.aj) now) (expS s.sr now) (Zb9 (senA now s.aj)) s.ins).2=0
 then{s with aj:=senA now s.aj,sr:=expS s.sr now,ro:=ZaF (senR now s.ro s.aj) now,ins:=(ZaS now (ZaF (senR now s.ro s.aj) now) (expS s.sr now) (Zb9 (senA now s.aj)) s.ins).1}
 else{s with aj:=senA now s.aj,sr:=expS s.sr now,ro:=[],ins:=[],rq:=[],quiet:=Zaz now 16}
def metS(q:List ReqV)(i:InsV):List ReqV:=if i.nb=0 then q else metV q i.to i.own
def setC(now:Int)(s:RtV):RtV:= {setB now s with rq:=(setB now s).ins.foldl metS (setB now s).rq}
def sq1(d:DisV):Int:=IntKind.u16.wrap (d.seq+1)
def stvS(now:Int)(sr:List SrcV)(st:List ReqV×List NotV)(t:DstV):List ReqV×List NotV:=
 match Zds sr now t with
 |none=>st
 |some d=>if(addV st.1 now t (sq1 d) 32 0).err=0 then((addV st.1 now t (sq1 d) 32 0).l,if(addV st.1 now t (sq1 d) 32 0).fresh then st.2++[sqN t (sq1 d) 32] else st.2) else st
def setD(now:Int)(s:RtV)(al:List NotV):List ReqV×List NotV:=if now<(setC now s).quiet then((setC now s).rq,al) else(Za9 now (setC now s).ro (setC now s).sr (setC now s).ins).foldl (stvS now (setC now s).sr) ((setC now s).rq,al)
def setV(now:Int)(s:RtV)(al:List NotV):RtV×List NotV:=({setC now s with rq:=(setD now s al).1},(setD now s al).2)
structure InQu(o:QuaV):Prop where
 k:o.known=true
 h:0<=o.heard/\o.heard<256
 c:0<=o.cnt/\o.cnt<=8
 p:o.heard<shl1 o.cnt
 r:0<=o.rep/\o.rep<=65535
theorem Zu5:shl1 0=1/\shl1 1=2/\shl1 2=4/\shl1 3=8/\shl1 4=16/\shl1 5=32/\shl1 6=64/\shl1 7=128/\shl1 8=256:=by decide+kernel
theorem Zrv{c:Int}(h:0<=c/\c<=8):c=0∨c=1∨c=2∨c=3∨c=4∨c=5∨c=6∨c=7∨c=8:=by omega
theorem ZrO:∀(h:Fin 256)(e:Fin 2),IntKind.u8.wrap (ZbL .and .i64 ((h.val:Int)*2+(e.val:Int)) 255)=((h.val*2+e.val) % 256:Nat):=by decide+kernel
theorem ZuI{h e:Int}(h0:0<=h/\h<256)(he:e=0∨e=1):IntKind.u8.wrap (ZbL .and .i64 (h*2+e) 255)=(h*2+e) % 256:=by
 obtain⟨n,rfl⟩:=Int.eq_ofNat_of_zero_le h0.1
 rcases he with rfl|rfl
 ·have:=ZrO ⟨n,Q0⟩ 0
  simp at this⊢
  omega
 ·have:=ZrO ⟨n,Q0⟩ 1
  simp at this⊢
  omega
theorem Zt2{o:QuaV}(hk:o.known=true)(h:QuP o):Zci o=true:=by rw[Zfe hk];exact dqT h
theorem InQu.of{o:QuaV}(hb:0<=(Zaf o).heard/\(Zaf o).heard<256)(h:(Zaf o).known=true):InQu (Zaf o):=by
 have h1:=Zks h
 obtain⟨a,b,c,d,e,f⟩:=dqU h1
 have hh:0<=(Zaf o).heard/\(Zaf o).heard<256:=hb
 exact⟨h,hh,⟨Q0,b⟩,d,e,f⟩
theorem InQu.add{y:QuaV}{e:Int}(h:InQu y)(he:e=0∨e=1):InQu (addQ y e):=by
 have h1:=h.h
 have h2:=h.c
 have h3:=h.p
 obtain⟨t0,t1,t2,t3,t4,t5,t6,t7,t8⟩:=Zu5
 unfold addQ
 refine⟨h.k,by dsimp only;rw[ZuI h1 he];omega,by dsimp only;split<;>omega,?_,h.r⟩
 dsimp only
 rw[ZuI h1 he]
 rcases Zrv h2 with c|c|c|c|c|c|c|c|c<;>rw[c] at h3⊢<;>simp[t0,t1,t2,t3,t4,t5,t6,t7,t8] at h3⊢<;>omega
theorem Zjb{α:Type}{c:α->Int}{x z:α}:∀{d:Bool}{l:List α},z∈Zbv c x d l->z=x∨z∈l
 |d,[],h=>by
  rw[ZdX] at h
  cases d<;>simp_all
 |d,y::l,h=>by
  rw[Zcv] at h
  rcases List.mem_append.1 h with h|h
  ·split at h
   ·exact .inl (by simpa using h)
   ·cases h
  ·rcases List.mem_append.1 h with h|h
   ·split at h
    ·cases h
    ·exact .inr (by simp at h;simp[h])
   ·exact(Zjb h).imp_right λh=>List.mem_cons_of_mem _ h
theorem ZnB{α:Type}{n:Nat}{e1:α->Bool}{cm:α->α->Int}(f:α->List Int)(hf:∀a b,cm a b=cmpL (f a) (f b)){l:List α}{x:α}(hv:vldL n e1 cm l=true)(hx:e1 x=true){o:List α}(ho:o=Zbv (λy=>cm y x) x false l)(hl:o.length<=n):vldL n e1 cm o=true:=by
 subst ho
 have tr:∀a b c,cm a b<0->cm b c<0->cm a c<0:=λa b c h k=>by
  rw[hf] at h k⊢
  exact Zde h k
 obtain⟨_,h2,h3⟩:=(Zdt tr).1 hv
 have e:Zbv (λy=>cm y x) x false l=l.filter (λy=>decide (cm y x<0))++([x]++l.filter (λy=>decide (0<cm y x))):=by
  rw[Zid]
  ·rfl
  ·refine h3.imp λ{a b}h k=>?_
   rw[hf] at h k⊢
   exact ZmD h k
 refine(Zdt tr).2 ⟨hl,λa ha=>?_,?_⟩
 ·rcases Zjb ha with rfl|h
  ·exact hx
  ·exact h2 a h
 ·rw[e]
  have an:∀a b,cm b a= -cm a b:=λa b=>by rw[hf,hf];exact Zfo _ _
  refine List.pairwise_append.2 ⟨h3.filter _,List.pairwise_append.2 ⟨List.pairwise_singleton _ _,h3.filter _,λa ha b hb=>?_⟩,λa ha b hb=>?_⟩
  ·simp only[List.mem_singleton,List.mem_filter,decide_eq_true_eq] at ha hb
   subst ha
   have:=an b a
   omega
  ·simp only[List.mem_append,List.mem_singleton,List.mem_filter,decide_eq_true_eq] at ha hb
   rcases hb with rfl|⟨_,hb⟩
   ·exact ha.2
   ·have:=an b x
    exact tr _ _ _ ha.2 Q0
theorem Zz3{l o:List SrcV}{x:SrcV}(hv:ZaK l=true)(hx:src1 x=true)(ho:o=Zbv (λy=>cmpS y x) x false l)(hl:o.length<=256):ZaK o=true:=ZnB (n:=256) (e1:=src1) (cm:=cmpS) (λs=>keyD s.to) (λ_ _=>rfl) hv hx ho hl
theorem ZAg(h:finD d=true):ZaA d.met=true/\¬d.met=65535:=by
 unfold finD inf at h
 simpa using h
theorem Zz4{l o:List ReqV}{x:ReqV}(hv:ZaB l=true)(hx:req1 x=true)(ho:o=Zbv (λy=>Zha y x) x false l)(hl:o.length<=64):ZaB o=true:=ZnB (n:=64) (e1:=req1) (cm:=Zha) (λs=>keyD s.to) (λ_ _=>rfl) hv hx ho hl
theorem ZlS(hs:IsRt s):Zbh (ZgS s)=true:=by
 unfold ZgS
 split
 ·rename_i h
  obtain⟨h1,h2,h3⟩:=Zhf h
  obtain⟨a1,a2,_⟩:=Zcq.1 h1
  obtain⟨b1,b2,_⟩:=Za5.1 h2
  refine ZaV.2 ⟨?_,λa ha=>?_,Zky hs h⟩
  ·rw[(ZdD s).length_eq]
   unfold annL
   rw[List.length_append,List.length_map,List.length_map]
   omega
  ·rcases List.mem_append.1 ((ZdD s).mem_iff.1 ha) with k|k
   ·obtain⟨o,ho,rfl⟩:=List.mem_map.1 k
    exact⟨a2 o ho,rfl⟩
   ·obtain⟨z,hz,rfl⟩:=List.mem_map.1 k
    have:=b2 z hz
    unfold ins1 at this
    rw[Bool.and_eq_true] at this
    refine⟨this.1,?_⟩
    have h5:=this.2
    split at h5
    ·simp only[Bool.and_eq_true,decide_eq_true_eq] at h5
     show ZaA z.own.met=true
     rw[h5.1.1]
     rfl
    ·simp only[Bool.and_eq_true] at h5
     exact(ZAg h5.1.1).1
 ·rfl
theorem Zpf{l o:List RouV}(h:Za7 l=true)(hs:o.Sublist l):Za7 o=true:=by
 obtain⟨a,b,c⟩:=Zbd.1 h
 exact Zbd.2 ⟨Nat.le_trans hs.length_le a,λx hx=>b x (hs.subset hx),List.Pairwise.sublist hs c⟩
theorem ZuV{l o:List InsV}(h:ZbG l=true)(hs:o.Sublist l):ZbG o=true:=by
 obtain⟨a,b,c⟩:=Za5.1 h
 exact Za5.2 ⟨Nat.le_trans hs.length_le a,λx hx=>b x (hs.subset hx),List.Pairwise.sublist hs c⟩
theorem Zhg(h0:¬s.self=0)(h1:Zag s.raised=true)(h2:Zag s.quiet=true)(h3:Zag s.nextH=true)(h4:ZdL s.self s.og=true)(h5:Zdu s.self s.aj=true)(h6:ZaK s.sr=true)(h7:Za7 s.ro=true)(h8:ZbG s.ins=true)(h9:ZaB s.rq=true)(h10:Zbh s.av=true)(h11:Zag s.full=true)(h12:∀x∈s.ro,¬x.to.rt=s.self)(h13:∀x∈s.ins,¬x.to.rt=s.self):Zaj s=true:=by
 unfold Zaj
 rw[dqF h0,h1,h2,h3,h4,h5,h6,h7,h8,h9,h10,h11]
 simp only[Bool.not_false,Bool.true_and,Bool.and_true,Bool.and_eq_true,Bool.not_eq_true',List.any_eq_false,decide_eq_true_eq]
 exact⟨h12,h13⟩
theorem Zvh{s:List SrcV}(hi:∀x∈l,IsRo x)(ho:∀x∈old,IsIn x):∀x∈selV now l s o old,IsIn x:=λx hx=>by
 obtain⟨t,ht,h⟩:=List.mem_filterMap.1 hx
 refine Zpw ?_ ho h
 rcases(Zif hi ho).1 ht with⟨r,hr,rfl⟩|⟨r,hr,rfl⟩
 ·exact(hi r hr).1
 ·exact(ho r hr).1
end
section
theorem ZtC(now:Int)(old:ChoV)(b c:OptV):(choB now old b c).btn= -1∨(choB now old b c).btn=now∨(choB now old b c).btn=old.btn:=by
 unfold choB
 split
 ·exact .inl rfl
 ·split
  ·exact .inl rfl
  ·split
   ·exact .inl rfl
   ·split
    ·exact .inr (.inl rfl)
    ·split
     ·exact .inl rfl
     ·exact .inr (.inr rfl)
theorem ZzA{o:Option InsV}(h:∀x,o=some x->ins1 x=true):Zdk (befV o)=true:=by
 cases o with
 |none=>rfl
 |some x=>exact ZiC (o:=x) (had:=true) λ_=>h x rfl
theorem Zs0{now d:Int}(h:Zag now=true)(hd:0<=d):Zag (Zaz now d)=true:=by
 simp only[Zag,Bool.and_eq_true,decide_eq_true_eq] at*
 unfold Zaz
 split<;>omega
theorem Zxd{now:Int}{t:DstV}{o:Option InsV}{op:List OptV}{said:List (Int×DisV)}{x:InsV}(htv:Za8 t=true)(hn:Zag now=true)(ho:∀w,o=some w->ins1 w=true/\w.to=t)(hval:∀q∈op,ZaA q.cost=true)(h:aftV now t o op said=some x):ins1 x=true/\x.to=t:=by
 by_cases hc:(Zbk now (befV o) op).nb=0
 ·cases o with
  |none=>rw[Zoa hc] at h;cases h
  |some w=>
   obtain⟨hw1,hw2⟩:=ho w rfl
   rw[Zn9 hc] at h
   split at h
   ·cases h
    refine⟨?_,rfl⟩
    unfold ins1
    simp[htv,Zs0 hn]
   ·split at h
    ·cases h
     exact⟨hw1,hw2⟩
    ·cases h
 ·rw[ZrN hc] at h
  cases h
  obtain⟨q,hq,h1,_,h3⟩:=Zlv hc
  have hv:=hval q hq
  have hb:=ZzA (o:=o) λw hw=>(ho w hw).1
  have h4:=ZtC now (befV o) (bstO op) (prvO (befV o).nb op)
  have h5:(decide ((Zbk now (befV o) op).btn= -1)||Zag (Zbk now (befV o) op).btn)=true:=by
   unfold Zbk
   simp only[Zdk,Bool.and_eq_true,Bool.or_eq_true,decide_eq_true_eq] at hb⊢
   rcases h4 with e|e|e
   ·exact .inl e
   ·rw[e];exact .inr hn
   ·rw[e];exact hb.2
  have h6:finD ⟨((getA (Zbk now (befV o) op).nb said).getD di0).seq,(Zbk now (befV o) op).cost⟩=true:=by
   unfold finD
   dsimp only
   rw[h3,hv,Bool.true_and,Bool.not_eq_true',decide_eq_false_iff_not]
   omega
  refine⟨?_,rfl⟩
  unfold ins1
  dsimp only
  rw[htv,if_neg hc,h6,h5]
  rfl
theorem Zpu{s:List SrcV}{links:List OptV}(hx:∀x∈l,IsRo x)(hy:∀x∈old,IsIn x)(h:(ZaS now l s links old).2=0):ZbG (ZaS now l s links old).1=true:=by
 unfold ZaS at h⊢
 split at h
 ·cases h
 rename_i h1
 split at h
 ·cases h
 rename_i h2
 split at h
 ·cases h
 rename_i h3
 rw[if_neg h1,if_neg h2,if_neg h3]
 simp only[Bool.or_eq_true,Bool.not_eq_true',not_or,Bool.not_eq_false] at h1 h2
 obtain⟨⟨⟨v1,v2⟩,v3⟩,v4⟩:=h1
 have k:=(Zca.1 v3).1
 have hok:=Zn0 hx hy v1 v4
 have hasc:=(Zd6 hx hy).1
 have hel:∀t∈Zby l old,∀x,selE now l s (Zcp links) old t=some x->ins1 x=true/\x.to=t:=λt ht x h=>Zxd (hok t ht) h2 (λw hw=>⟨(Za5.1 v4).2.1 w (List.mem_of_find?_eq_some hw),by simpa using List.find?_some hw⟩) (λq hq=>by
  have:=(Zca.1 (ZgW (now:=now) (s:=s) (links:=links) (t:=t) hx v1 k)).2.1 q hq
  simp only[opt1,Bool.and_eq_true] at this
  exact this.2) h
 refine Za5.2 ⟨by dsimp only;omega,λx hm=>?_,?_⟩
 ·obtain⟨t,ht,h4⟩:=List.mem_filterMap.1 hm
  exact(hel t ht x h4).1
 ·refine List.Pairwise.filterMap _ ?_ (List.Pairwise.imp_of_mem (S:=λa b=>a∈Zby l old/\b∈Zby l old/\cmpD a b<0) (λha hb hab=>⟨ha,hb,hab⟩) hasc)
  rintro a b ⟨ha,hb,hab⟩ x hx1 y hy1
  unfold cmpN
  rw[(hel a ha x hx1).2,(hel b hb y hy1).2]
  exact hab
end
section
attribute [local irreducible] OpTo wpListIn Code.wpIn MW Cal
theorem ZbT(h:Zaj s=true):¬s.self=0/\Zag s.raised=true/\Zag s.quiet=true/\Zag s.nextH=true/\ZdL s.self s.og=true/\Zdu s.self s.aj=true/\ZaK s.sr=true/\Za7 s.ro=true/\ZbG s.ins=true/\ZaB s.rq=true/\Zbh s.av=true/\Zag s.full=true/\(∀x∈s.ro,¬x.to.rt=s.self)/\∀x∈s.ins,¬x.to.rt=s.self:=by
 unfold Zaj at h
 simp only[Bool.and_eq_true,Bool.not_eq_true',decide_eq_false_iff_not,List.any_eq_false,decide_eq_true_eq] at h
 obtain⟨⟨⟨⟨⟨⟨⟨⟨⟨⟨⟨⟨h0,h1⟩,h2⟩,h3⟩,h4⟩,h5⟩,h6⟩,h7⟩,h8⟩,h9⟩,h10,h11⟩,h12⟩,h13⟩:=h
 exact⟨h0,h1,h2,h3,h4,h5,h6,h7,h8,h9,h10,h11,h12,h13⟩
theorem Zec{l:List AdjV}:Zdu self l=true↔l.length<=16/\(∀a∈l,adj1 self a=true)/\AscC ZiA l:=Zdt (λa b c h k=>by unfold ZiA at*;omega)
theorem Zbp{l:List ReqV}:ZaB l=true↔l.length<=64/\(∀a∈l,req1 a=true)/\AscC Zha l:=Zdt (λ_ _ _ h k=>Za6 h k)
theorem ZuU{l o:List SrcV}(h:ZaK l=true)(hs:o.Sublist l):ZaK o=true:=by
 obtain⟨a,b,c⟩:=Zbc.1 h
 exact Zbc.2 ⟨Nat.le_trans hs.length_le a,λx hx=>b x (hs.subset hx),List.Pairwise.sublist hs c⟩
theorem Zpg{l o:List ReqV}(h:ZaB l=true)(hs:o.Sublist l):ZaB o=true:=by
 obtain⟨a,b,c⟩:=Zbp.1 h
 exact Zbp.2 ⟨Nat.le_trans hs.length_le a,λx hx=>b x (hs.subset hx),List.Pairwise.sublist hs c⟩
theorem ZeY{now d:Int}(h:Zag now=true)(hd:0<=d):Zag (Zaz now d)=true:=by
 simp only[Zag,Bool.and_eq_true,decide_eq_true_eq] at*
 unfold Zaz
 split<;>omega
theorem ZsR{q:QuaV}(h:BdQu q):Zci (Zgo q)=true:=by
 unfold Zgo
 split
 ·rfl
 ·rename_i h1
  rcases Zkr q with e|e
  ·rw[e] at h1;exact absurd rfl h1
  ·have h0:=InQu.of (Zch h).h e
   have hi:=h0.add (e:=0) (.inl rfl)
   rw[ZfD (Zch h)] at hi
   refine Zt2 hi.k ⟨?_,hi.c.2,h1,hi.p,hi.r⟩
   have:=h0.c
   show 1<=(misQ (Zaf q)).cnt
   unfold misQ
   dsimp only
   split<;>omega
theorem ZtA(q:QuaV):Zci (Zaf q)=true:=by
 unfold Zaf
 split
 ·assumption
 ·rfl
theorem Zvy{q:QuaV}{c:Int}(hc:1<=c/\c<=65535):Zci (repV q c)=true:=by
 have h:=ZtA q
 unfold repV
 split
 ·rename_i k
  rw[Zfe k.1] at h
  obtain⟨a,b,d,e,f,g⟩:=dqU h
  exact Zt2 k.1 ⟨a,b,d,e,by dsimp only;omega,hc.2⟩
 ·exact h
theorem Zpt(now:Int)(a:AdjV):(Zer now a).nb=a.nb/\(Zer now a).ans=a.ans/\((Zer now a).til=a.til∨(Zer now a).til=Zaz now 2):=by
 unfold Zer
 split
 ·exact⟨rfl,rfl, .inr rfl⟩
 ·exact⟨rfl,rfl, .inl rfl⟩
theorem Zps(now:Int)(a:AdjV):(senS now a).nb=a.nb/\(senS now a).ans=a.ans/\((senS now a).til=a.til∨(senS now a).til=Zaz now 2):=by
 unfold senS ZgP
 split
 ·exact Zpt now a
 ·exact Zpt now a
theorem ZxH{a:AdjV}(hb:BdQu a.q)(h:Zci a.q=true):Zci (senS now a).q=true:=by
 unfold senS ZgP
 split
 ·exact Zvy Q0
 ·unfold Zer
  split
  ·exact ZsR hb
  ·exact h
theorem Zvf{l:List AdjV}(hn:Zag now=true)(hb:∀a∈l,BdQu a.q)(h:Zdu self l=true):Zdu self (senA now l)=true:=by
 obtain⟨h1,h2,h3⟩:=Zec.1 h
 refine Zec.2 ⟨Nat.le_trans Zga h1,λa ha=>?_,?_⟩
 ·obtain⟨hm,hk⟩:=List.mem_filter.1 ha
  obtain⟨y,hy,rfl⟩:=List.mem_map.1 hm
  have h4:=h2 y hy
  obtain⟨e1,e2,e3⟩:=Zps now y
  unfold adj1 at h4⊢
  simp only[Bool.and_eq_true] at h4
  obtain⟨⟨⟨⟨⟨a1,a2⟩,a3⟩,a4⟩,a5⟩,a6⟩:=h4
  have e4:Zag (senS now y).til=true:=by
   rcases e3 with e|e
   ·rw[e];exact a5
   ·rw[e];exact ZeY hn Q0
  rw[e1,e2,ZxH (hb y hy) a3,hk,e4,a1,a2,a6]
  rfl
 ·refine List.Pairwise.sublist List.filter_sublist ?_
  rw[List.pairwise_map]
  exact h3.imp λ{a b}h=>by unfold ZiA at*;rw[(Zps now a).1,(Zps now b).1];exact h
theorem Zve{a:AdjV}(h:BdQu a.q):BdQu (senS now a).q:=by
 have h1:BdQu (Zer now a).q:=by
  unfold Zer
  split
  ·exact Zj1 h
  ·exact h
 unfold senS ZgP
 split
 ·exact Zvz h1 Q0
 ·exact h1
theorem ZlN{l:List AdjV}(h:∀a∈l,BdQu a.q):∀a∈senA now l,BdQu a.q:=λa ha=>by
 obtain⟨y,hy,rfl⟩:=List.mem_map.1 (List.mem_filter.1 ha).1
 exact Zve (h y hy)
theorem senH(h:Zaj s=true):(∀y∈s.aj,y.q.known=true)/\s.aj.length<=16:=by
 obtain⟨h1,h2,_⟩:=Zec.1 (ZbT h).2.2.2.2.2.1
 refine⟨λy hy=>?_,h1⟩
 have:=h2 y hy
 unfold adj1 at this
 simp only[Bool.and_eq_true] at this
 exact this.1.1.2
theorem ZsS(l:List ReqV)(t:DstV)(d:DisV):(metV l t d).Sublist l:=by
 unfold metV
 split
 ·exact List.filter_sublist
 ·exact List.Sublist.refl _
theorem ZdQ:∀(is:List InsV)(l:List ReqV),(is.foldl metS l).Sublist l
 |[],l=>List.Sublist.refl _
 |i::is,l=>(ZdQ is (metS l i)).trans (by unfold metS;split;exact List.Sublist.refl _;exact ZsS _ _ _)
theorem ZhH(l:List SrcV)(now:Int):(expS l now).Sublist l:=by
 unfold expS
 split
 ·exact List.filter_sublist
 ·exact sC0 _
theorem Zg6(l:List RouV)(now:Int):(ZaF l now).Sublist l:=by
 unfold ZaF
 split
 ·exact ZhO
 ·exact sC0 _
theorem Zpv{s:List SrcV}{p:InsV->Prop}(h:∀x∈selV now l s o old,p x):∀x∈(ZaS now l s o old).1,p x:=λx hx=>by
 unfold ZaS at hx
 split at hx
 ·cases hx
 ·split at hx
  ·cases hx
  ·split at hx
   ·cases hx
   ·exact h x hx
theorem Zvg(now:Int)(l:List RouV)(s:List SrcV)(o:List OptV)(old:List InsV):(ZaS now l s o old).1.length<=512:=by
 unfold ZaS
 split
 ·simp
 ·split
  ·simp
  ·split
   ·simp
   ·dsimp only;omega
theorem ZxI{s:List SrcV}(hi:∀x∈l,IsRo x)(ho:∀x∈old,IsIn x)(h1:∀x∈l,¬x.to.rt=self)(h2:∀x∈old,¬x.to.rt=self):∀x∈(ZaS now l s o old).1,¬x.to.rt=self:=Zpv λx hx=>by
 obtain⟨t,ht,h⟩:=List.mem_filterMap.1 hx
 rw[Zvi h]
 rcases(Zif hi ho).1 ht with⟨r,hr,rfl⟩|⟨r,hr,rfl⟩
 ·exact h1 r hr
 ·exact h2 r hr
theorem Zf9(now:Int)(s:RtV):(setB now s).self=s.self/\(setB now s).og=s.og/\(setB now s).aj=senA now s.aj/\(setB now s).sr=expS s.sr now/\(setB now s).av=s.av:=by
 unfold setB
 split<;>exact⟨rfl,rfl,rfl,rfl,rfl⟩
theorem ZlK(now:Int)(s:RtV):(setB now s).rq.Sublist s.rq:=by
 unfold setB
 split
 ·exact List.Sublist.refl _
 ·exact sC0 _
theorem ZlL(now:Int)(hs:IsRt s):(∀y∈(setB now s).ins,IsIn y)/\(∀y∈(setB now s).rq,IsRq y):=by
 refine⟨?_,λy hy=>hs.rq y ((ZlK now s).subset hy)⟩
 unfold setB
 split
 ·exact Zpv (Zvh (ZeC λy hy=>hs.ro y ((ZdN _ _ _).subset hy)) hs.ins)
 ·simp
theorem ZjL(now:Int)(hv:Zaj s=true):(setB now s).rq.length<=1000/\(setB now s).ins.length<=1000:=by
 have h1:=(Zbp.1 (ZbT hv).2.2.2.2.2.2.2.2.2.1).1
 refine⟨by have:=(ZlK now s).length_le;omega,?_⟩
 unfold setB
 split
 ·have:=Zvg now (ZaF (senR now s.ro s.aj) now) (expS s.sr now) (Zb9 (senA now s.aj)) s.ins
  dsimp only
  omega
 ·simp
theorem Zva(hs:IsRt s):∀y∈(setB now s).ro,IsRo y:=by
 unfold setB
 split
 ·exact λy hy=>hs.ro y ((ZdN _ _ _).subset ((Zg6 _ _).subset hy))
 ·simp
theorem Zvb(hs:IsRt s)(hv:Zaj s=true)(hn:Zag now=true):Zaj (setB now s)=true:=by
 obtain⟨h0,h1,h2,h3,h4,h5,h6,h7,h8,h9,h10,h11,h12,h13⟩:=ZbT hv
 have hr:=(Zg6 (senR now s.ro s.aj) now).trans (ZdN now s.aj s.ro)
 have a1:=Zvf hn hs.q h5
 have a2:=ZuU h6 (ZhH s.sr now)
 have hI:∀x∈ZaF (senR now s.ro s.aj) now,IsRo x:=λx hx=>hs.ro x (hr.subset hx)
 have h12':∀x∈ZaF (senR now s.ro s.aj) now,¬x.to.rt=s.self:=λx hx=>h12 x (hr.subset hx)
 unfold setB
 split
 ·rename_i c
  exact Zhg h0 h1 h2 h3 h4 a1 a2 (Zpf h7 hr) (Zpu hI hs.ins c) h9 h10 h11 h12' (ZxI hI hs.ins h12' h13)
 ·exact Zhg h0 h1 (ZeY hn Q0) h3 h4 a1 a2 (Zpf h7 (List.nil_sublist _)) (ZuV h8 (List.nil_sublist _)) (Zpg h9 (List.nil_sublist _)) h10 h11 Q5 Q5
theorem Zu9(hs:IsRt s):IsRt (setB now s):=by
 obtain⟨e1,e2,e3,e4,e5⟩:=Zf9 now s
 have h:=ZlL now hs
 exact⟨by rw[e2];exact hs.og,λy _=>ZdW _,by rw[e4];exact λy hy=>hs.sr y ((ZhH _ _).subset hy),Zva hs,h.1,h.2,by rw[e5];exact hs.av,by rw[e3];exact ZlN hs.q⟩
structure RqI(l:List ReqV):Prop where
 is:∀y∈l,IsRq y
 sq:Sq16 l
 len:l.length<=1000
theorem RqI.sub{l o:List ReqV}(h:RqI l)(hs:o.Sublist l):RqI o:=⟨λy hy=>h.is y (hs.subset hy),λy hy=>h.sq y (hs.subset hy),Nat.le_trans hs.length_le h.len⟩
theorem Znn{α:Type}{key:α->DstV}{l:List α}{x y:α}(h:y∈plcD key l x):y=x∨y∈l:=by
 unfold plcD at h
 rcases List.mem_append.1 h with h|h
 ·exact .inr (List.mem_filter.1 h).1
 ·rcases List.mem_append.1 h with h|h
  ·exact .inl (List.mem_singleton.1 h)
  ·exact .inr (List.mem_filter.1 h).1
section
variable {l:List ReqV} {now seq hops frm:Int} {t:DstV}
theorem ZrP(l:List ReqV)(now seq hops frm:Int)(t:DstV):(addV l now t seq hops frm).l=[]∨(addV l now t seq hops frm).l=l∨((addV l now t seq hops frm).l=plcD ReqV.to l (newQ now t seq hops frm)/\(plcD ReqV.to l (newQ now t seq hops frm)).length<=64):=by
 unfold addV
 split
 ·exact .inl rfl
 ·split
  ·exact .inl rfl
  ·split
   ·exact .inr (.inl rfl)
   ·split
    ·exact .inl rfl
    ·exact .inr (.inr ⟨rfl,Q0⟩)
theorem RqI.add(h:RqI l)(ht:IsDv t)(hq:0<=seq/\seq<=65535):RqI (addV l now t seq hops frm).l:=by
 rcases ZrP l now seq hops frm t with e|e|⟨e,hl⟩<;>rw[e]
 ·exact h.sub (List.nil_sublist _)
 ·exact h
 ·refine⟨λy hy=>?_,λy hy=>?_,Q0⟩
  ·rcases Znn hy with rfl|hy
   ·exact ht
   ·exact h.is y hy
  ·rcases Znn hy with rfl|hy
   ·exact hq
   ·exact h.sq y hy
theorem Zxf(h:(addV l now t seq hops frm).err=0):ZaB (addV l now t seq hops frm).l=true:=by
 unfold addV at h⊢
 split at h
 ·cases h
 ·rename_i c1
  rw[if_neg c1]
  split at h
  ·cases h
  ·rename_i c2
   rw[if_neg c2]
   simp only[Bool.or_eq_true,Bool.not_eq_true',decide_eq_true_eq,not_or,Bool.not_eq_false] at c1 c2
   split at h
   ·rename_i c3
    rw[if_pos c3]
    exact c1.1
   ·rename_i c3
    rw[if_neg c3]
    split at h
    ·cases h
    ·rename_i c4
     rw[if_neg c4]
     have hs:=(Zbp.1 c1.1).2.2
     have hm:plcD ReqV.to l (newQ now t seq hops frm)=Zbv (λy=>Zha y (newQ now t seq hops frm)) (newQ now t seq hops frm) false l:=(Zi1 hs).symm
     refine Zz4 c1.1 ?_ hm Q6
     show(Za8 t&&decide (1<=hops)&&decide (hops<=32)&&Zag (Zaz now 3)&&decide ((1:Int)<=3)&&decide ((3:Int)<=3))=true
     rw[c1.2,dqT (show 1<=hops by omega),dqT (show hops<=32 by omega),ZeY c2.1.1 Q0]
     rfl
end
theorem ZtQ(d:DisV):0<=sq1 d/\sq1 d<=65535:=by
 unfold sq1
 rw[wr16]
 omega
theorem Zr2{now:Int}{sr:List SrcV}:∀(ts:List DstV)(st:List ReqV×List NotV),(∀t∈ts,IsDv t)->RqI st.1->RqI (ts.foldl (stvS now sr) st).1/\(ts.foldl (stvS now sr) st).2.length<=st.2.length+ts.length
 |[],st,_,h=>⟨h,by simp⟩
 |t::ts,st,ht,h=>by
  rw[List.foldl_cons]
  have h1:RqI (stvS now sr st t).1/\(stvS now sr st t).2.length<=st.2.length+1:=by
   unfold stvS
   split
   ·exact⟨h,Q0⟩
   ·rename_i d _
    split
    ·exact⟨h.add (ht t List.mem_cons_self) (ZtQ d),by dsimp only;split<;>simp⟩
    ·exact⟨h,Q0⟩
  obtain⟨a,b⟩:=Zr2 ts (stvS now sr st t) (λx hx=>ht x (List.mem_cons_of_mem _ hx)) h1.1
  exact⟨a,by rw[List.length_cons];omega⟩
theorem ZtO{now:Int}{sr:List SrcV}:∀(ts:List DstV)(st:List ReqV×List NotV),ZaB st.1=true->ZaB (ts.foldl (stvS now sr) st).1=true
 |[],st,h=>h
 |t::ts,st,h=>by
  rw[List.foldl_cons]
  refine ZtO ts _ ?_
  unfold stvS
  split
  ·exact h
  ·split
   ·rename_i c
    exact Zxf c
   ·exact h
theorem Zfy{s:List SrcV}(hx:∀x∈l,IsRo x):(∀t∈Za9 now l s inn,IsDv t)/\(Za9 now l s inn).length<=512:=by
 unfold Za9
 split
 ·simp
 ·rename_i c
  simp only[Bool.or_eq_true,Bool.not_eq_true',not_or,Bool.not_eq_false] at c
  have hi:=ZeC (now:=now) hx
  refine⟨λt ht=>?_,?_⟩
  ·rcases(Zif hi Q5).1 (List.mem_filter.1 ht).1 with⟨r,hr,rfl⟩|⟨r,hr,_⟩
   ·exact(hi r hr).1
   ·cases hr
  ·refine Nat.le_trans (List.length_filter_le _ _) ?_
   have hd:∀x∈allD (ZaF l now) [],IsDv x:=λx hx=>by
    unfold allD at hx
    rcases List.mem_append.1 hx with h|h
    ·obtain⟨r,hr,rfl⟩:=List.mem_map.1 h
     exact(hi r hr).1
    ·cases h
   have h1:=ZeA hd
   have h2:=Zib h1.1 λx hx=>(h1.2 x).1 hx
   have h3:(allD (ZaF l now) []).length=(ZaF l now).length:=by unfold allD;simp
   have h4:=(Zg6 l now).length_le
   have h5:=(Zbd.1 c.1.1.1).1
   show((allD (ZaF l now) []).foldr insD []).length<=512
   omega
theorem ZlJ(hs:IsRt s)(hv:Zaj s=true)(hn:Zag now=true):Zaj (setC now s)=true:=by
 obtain⟨h0,h1,h2,h3,h4,h5,h6,h7,h8,h9,h10,h11,h12,h13⟩:=ZbT (Zvb hs hv hn)
 exact Zhg h0 h1 h2 h3 h4 h5 h6 h7 h8 (Zpg h9 (ZdQ _ _)) h10 h11 h12 h13
theorem ZgO(hs:IsRt s):IsRt (setC now s):=by
 obtain⟨a1,a2,a3,a4,a5,a6,a7,a8⟩:=Zu9 (now:=now) hs
 exact⟨a1,a2,a3,a4,a5,λy hy=>a6 y ((ZdQ _ _).subset hy),a7,a8⟩
theorem ZjK(hs:IsRt s)(hv:Zaj s=true)(hq:Sq16 s.rq):RqI (setC now s).rq:=⟨(ZgO hs).rq,λy hy=>hq y ((ZlK now s).subset ((ZdQ _ _).subset hy)),Nat.le_trans (ZdQ _ _).length_le (ZjL now hv).1⟩
theorem ZtT(al:List NotV)(hs:IsRt s)(hv:Zaj s=true)(hq:Sq16 s.rq):RqI (setD now s al).1/\(setD now s al).2.length<=al.length+512:=by
 have h:=ZjK (now:=now) hs hv hq
 unfold setD
 split
 ·exact⟨h,by dsimp only;omega⟩
 ·have hb:=Zfy (now:=now) (s:=(setC now s).sr) (inn:=(setC now s).ins) (ZgO (now:=now) hs).ro
  have:=Zr2 (now:=now) (sr:=(setC now s).sr) _ ((setC now s).rq,al) hb.1 h
  exact⟨this.1,by have:=this.2;dsimp only at this;omega⟩
theorem Zu8(al:List NotV)(hs:IsRt s)(hv:Zaj s=true)(hn:Zag now=true):Zaj (setV now s al).1=true:=by
 have hC:=ZlJ hs hv hn
 obtain⟨h0,h1,h2,h3,h4,h5,h6,h7,h8,h9,h10,h11,h12,h13⟩:=ZbT hC
 refine Zhg h0 h1 h2 h3 h4 h5 h6 h7 h8 ?_ h10 h11 h12 h13
 show ZaB (setD now s al).1=true
 unfold setD
 split
 ·exact h9
 ·exact ZtO _ _ h9
theorem Zu7(al:List NotV)(hs:IsRt s)(hv:Zaj s=true)(hq:Sq16 s.rq):IsRt (setV now s al).1:=by
 obtain⟨a1,a2,a3,a4,a5,a6,a7,a8⟩:=ZgO (now:=now) hs
 exact⟨a1,a2,a3,a4,a5,(ZtT al hs hv hq).1.is,a7,a8⟩
def raiV(now:Int)(s:RtV):RtV:=if 0<s.og.length/\s.raised+8<=now then{s with seq:=IntKind.u16.wrap (s.seq+1),raised:=now} else s
def helV(now:Int)(s:RtV)(al:List NotV):RtV×List NotV:=if s.nextH<=now then(greS s now,greV s al) else(s,al)
def annQ(now:Int)(s:RtV):RtV:= {s with rq:=(dueR s.rq now).aft}
def annA(now:Int)(s:RtV):List SrcV×List AdvV:=alwV now s.sr (annV (annQ now s))
def annU(now:Int)(s:RtV):DueR:=dueV s.av s.full now (annA now s).2
def rqN(q:ReqV):NotV:=sqN q.to q.seq q.hops
def annS(now:Int)(s:RtV):RtV:= {annQ now s with sr:=(annA now s).1,av:=(annU now s).told,full:=(annU now s).full}
def annN(now:Int)(s:RtV)(al:List NotV):List NotV:=al++(dueR s.rq now).due.map rqN++(annU now s).sent.map upN
def annT(now:Int)(st:RtV×List NotV):RtV×List NotV:=if now<st.1.quiet then st else(annS now st.1,annN now st.1 st.2)
def tk1(now:Int)(s:RtV):RtV×List NotV:=setV now (raiV now s) []
def tk2(now:Int)(s:RtV):RtV×List NotV:=helV now (tk1 now s).1 (tk1 now s).2
def ZbF(now:Int)(s:RtV):RtV×List NotV:=annT now (tk2 now s)
theorem Zng(hv:Zaj s=true)(hn:Zag now=true):Zaj (raiV now s)=true:=by
 obtain⟨h0,h1,h2,h3,h4,h5,h6,h7,h8,h9,h10,h11,h12,h13⟩:=ZbT hv
 unfold raiV
 split
 ·exact Zhg h0 hn h2 h3 h4 h5 h6 h7 h8 h9 h10 h11 h12 h13
 ·exact hv
theorem ZkP(hs:IsRt s):IsRt (raiV now s):=by
 obtain⟨a1,a2,a3,a4,a5,a6,a7,a8⟩:=hs
 unfold raiV
 split<;>exact⟨a1,a2,a3,a4,a5,a6,a7,a8⟩
theorem ZqX{al:List NotV}(hv:Zaj s=true)(hn:Zag now=true):Zaj (helV now s al).1=true:=by
 obtain⟨h0,h1,h2,h3,h4,h5,h6,h7,h8,h9,h10,h11,h12,h13⟩:=ZbT hv
 unfold helV
 split
 ·exact Zhg h0 h1 h2 (ZeY hn Q0) h4 h5 h6 h7 h8 h9 h10 h11 h12 h13
 ·exact hv
theorem ZqW{al:List NotV}(hs:IsRt s):IsRt (helV now s al).1:=by
 obtain⟨a1,a2,a3,a4,a5,a6,a7,a8⟩:=hs
 unfold helV
 split<;>exact⟨a1,a2,a3,a4,a5,a6,a7,a8⟩
theorem Zkg(now:Int)(x:ReqV):(dueX now x).to=x.to/\(dueX now x).hops=x.hops/\(dueX now x).left<=x.left/\((dueX now x).next=x.next∨(dueX now x).next=Zaz now 3):=by
 unfold dueX
 split
 ·exact⟨rfl,rfl,by dsimp only;omega, .inr rfl⟩
 ·exact⟨rfl,rfl,Q0, .inl rfl⟩
theorem Zzd{l:List ReqV}(hv:ZaB l=true)(hn:Zag now=true):dueR l now=⟨dueD now l,dueA now l,0⟩:=by
 unfold dueR
 rw[hv,hn]
 rfl
theorem ZwM{l:List ReqV}(hv:ZaB l=true)(hn:Zag now=true):ZaB (dueA now l)=true:=by
 obtain⟨h1,h2,h3⟩:=Zbp.1 hv
 refine Zbp.2 ⟨?_,λa ha=>?_,?_⟩
 ·unfold dueA
  refine Nat.le_trans (List.length_filter_le _ _) ?_
  rw[List.length_map]
  exact h1
 ·obtain⟨hm,hk⟩:=List.mem_filter.1 ha
  obtain⟨y,hy,rfl⟩:=List.mem_map.1 hm
  obtain⟨e1,e2,e3,e4⟩:=Zkg now y
  have h4:=h2 y hy
  unfold req1 at h4⊢
  simp only[Bool.and_eq_true,decide_eq_true_eq] at h4 hk⊢
  rw[e1,e2]
  refine⟨⟨⟨h4.1.1.1,?_⟩,Q0⟩,Q0⟩
  rcases e4 with e|e
  ·rw[e];exact h4.1.1.2
  ·rw[e];exact ZeY hn Q0
 ·refine List.Pairwise.sublist List.filter_sublist ?_
  rw[List.pairwise_map]
  exact h3.imp λ{a b}h=>by unfold Zha at*;rw[(Zkg now a).1,(Zkg now b).1];exact h
theorem ZwN{l:List ReqV}(h:∀y∈l,IsRq y):∀y∈dueA now l,IsRq y:=λy hy=>by
 obtain⟨z,hz,rfl⟩:=List.mem_map.1 (List.mem_filter.1 hy).1
 show IsDv (dueX now z).to
 rw[(Zkg now z).1]
 exact h z hz
theorem ZkA(hv:Zaj s=true)(hn:Zag now=true):Zaj (annQ now s)=true:=by
 obtain⟨h0,h1,h2,h3,h4,h5,h6,h7,h8,h9,h10,h11,h12,h13⟩:=ZbT hv
 refine Zhg h0 h1 h2 h3 h4 h5 h6 h7 h8 ?_ h10 h11 h12 h13
 show ZaB (dueR s.rq now).aft=true
 rw[Zzd h9 hn]
 exact ZwM h9 hn
theorem Zhd(hs:IsRt s):IsRt (annQ now s):=by
 obtain⟨a1,a2,a3,a4,a5,a6,a7,a8⟩:=hs
 refine⟨a1,a2,a3,a4,a5,?_,a7,a8⟩
 show∀y∈(dueR s.rq now).aft,IsRq y
 unfold dueR
 split
 ·simp
 ·split
  ·simp
  ·exact ZwN a6
theorem ZmL{now:Int}:∀(l:List AdvV)(o:List AdvV)(st:List SrcV),∃m,(l.foldl (alwS now) (st,o)).2=o++m/\m.Sublist l
 |[],o,st=>⟨[],by simp,List.nil_sublist _⟩
 |a::l,o,st=>by
  rw[List.foldl_cons]
  by_cases h:(alwS now (st,o) a).2=o++[a]
  ·obtain⟨m,h1,h2⟩:=ZmL (now:=now) l (alwS now (st,o) a).2 (alwS now (st,o) a).1
   exact⟨a::m,by rw[h1,h,List.append_assoc];rfl,h2.cons_cons a⟩
  ·obtain⟨m,h1,h2⟩:=ZmL (now:=now) l (alwS now (st,o) a).2 (alwS now (st,o) a).1
   refine⟨m,?_,h2.cons a⟩
   rw[h1]
   congr 1
   unfold alwS at h⊢
   split at h
   ·exact absurd rfl h
   ·rename_i c
    rw[if_neg c]
    split at h
    ·exact absurd rfl h
    ·rename_i c2
     rw[if_neg c2]
theorem Zow{l:List SrcV}(h:(ZaQ l now t d).2=0):ZaK (ZaQ l now t d).1=true:=by
 unfold ZaQ at h⊢
 split at h
 ·cases h
 ·rename_i c1
  split at h
  ·cases h
  ·rename_i c2
   split at h
   ·cases h
   ·rename_i c3
    rw[if_neg c1,if_neg c2,if_neg c3]
    simp only[Bool.or_eq_true,Bool.not_eq_true',decide_eq_true_eq,not_or,Bool.not_eq_false] at c1 c2
    obtain⟨⟨⟨v1,v2⟩,v3⟩,v4⟩:=c1
    have hm:putS l (newS l now t d)=Zbv (λy=>cmpS y (newS l now t d)) (newS l now t d) false l:=(ZiZ (Zbc.1 v1).2.2).symm
    refine Zz3 v1 ?_ hm Q6
    have hd:finD d=true:=by
     unfold finD
     rw[v3,dqF (show ¬d.met=inf from v4)]
     rfl
    have hb:finD (newS l now t d).bst=true:=by
     show finD (match Zds l now t with|none=>d|some b=>lowQ d b)=true
     cases hq:Zds l now t with
     |none=>exact hd
     |some b=>
      dsimp only
      unfold lowQ
      split
      ·exact hd
      ·unfold Zds at hq
       rw[Option.map_eq_some_iff] at hq
       obtain⟨x,hx,rfl⟩:=hq
       have:=(Zbc.1 v1).2.1 x (List.mem_of_find?_eq_some hx)
       unfold src1 at this
       simp only[Bool.and_eq_true] at this
       exact this.1.2
    unfold src1
    rw[hb,show Za8 (newS l now t d).to=true from v2,show Zag (newS l now t d).til=true from ZeY c2 Q0]
    rfl
theorem ZuH{now:Int}:∀(l:List AdvV)(o:List AdvV)(st:List SrcV),ZaK st=true->ZaK (l.foldl (alwS now) (st,o)).1=true
 |[],o,st,h=>h
 |a::l,o,st,h=>by
  rw[List.foldl_cons]
  refine ZuH l (alwS now (st,o) a).2 (alwS now (st,o) a).1 ?_
  unfold alwS
  split
  ·exact h
  ·split
   ·rename_i c
    exact Zow c
   ·exact h
theorem ZuW{l o:List AdvV}(h:Zbh l=true)(hs:o.Sublist l):Zbh o=true:=by
 obtain⟨a,b,c⟩:=ZaV.1 h
 exact ZaV.2 ⟨Nat.le_trans hs.length_le a,λx hx=>b x (hs.subset hx),List.Pairwise.sublist hs c⟩
theorem ZgI(now:Int)(s:RtV):(annA now s).2.Sublist (annV (annQ now s)):=by
 obtain⟨m,h1,h2⟩:=ZmL (now:=now) (annV (annQ now s)) [] s.sr
 unfold annA alwV
 rw[h1]
 exact h2
theorem Zf2(hs:IsRt s):∀x∈annV s,IsAv x:=λx hx=>ZmK hs x ((ZdD s).mem_iff.1 hx)
theorem ZmJ(hs:IsRt s)(hv:Zaj s=true):Zbh (annV s)=true:=by
 have:=ZlS hs
 unfold ZgS at this
 rwa[if_pos hv] at this
section
variable {now:Int} {s:RtV} (hs:IsRt s) (hv:Zaj s=true) (hn:Zag now=true)
include hs hv hn
theorem Zfu:Zbh (annA now s).2=true:=ZuW (ZmJ (Zhd hs) (ZkA hv hn)) (ZgI now s)
theorem Zhc:annU now s=⟨(annA now s).2,if decide (s.full<=now) then Zaz now 3 else s.full,mrg (decide (s.full<=now)) (annA now s).2 s.av,(mrg (decide (s.full<=now)) (annA now s).2 s.av).any λa=>decide (a.own.met=inf),0⟩:=by
 obtain⟨h0,h1,h2,h3,h4,h5,h6,h7,h8,h9,h10,h11,h12,h13⟩:=ZbT hv
 unfold annU dueV
 rw[h10,h11,Zfu hs hv hn,hn]
 rfl
theorem Zxa:Zaj (annS now s)=true:=by
 obtain⟨h0,h1,h2,h3,h4,h5,h6,h7,h8,h9,h10,h11,h12,h13⟩:=ZbT (ZkA hv hn)
 have h6':ZaK (annA now s).1=true:=ZuH _ _ _ h6
 have e:=Zhc hs hv hn
 refine Zhg h0 h1 h2 h3 h4 h5 h6' h7 h8 h9 ?_ ?_ h12 h13
 ·show Zbh (annU now s).told=true
  rw[e]
  exact Zfu hs hv hn
 ·show Zag (annU now s).full=true
  rw[e]
  dsimp only
  split
  ·exact ZeY hn Q0
  ·exact h11
end
theorem ZmW(hs:IsRt s)(hv:Zaj s=true)(hq:Sq16 s.rq)(hn:Zag now=true):Zaj (tk1 now s).1=true/\IsRt (tk1 now s).1:=by
 have h1:=Zng hv hn
 have h2:=ZkP (now:=now) hs
 have h3:Sq16 (raiV now s).rq:=by unfold raiV;split<;>exact hq
 exact⟨Zu8 _ h2 h1 hn,Zu7 _ h2 h1 h3⟩
theorem ZmV(hs:IsRt s)(hv:Zaj s=true)(hq:Sq16 s.rq)(hn:Zag now=true):Zaj (tk2 now s).1=true/\IsRt (tk2 now s).1:=by
 obtain⟨h1,h2⟩:=ZmW hs hv hq hn
 exact⟨ZqX h1 hn,ZqW h2⟩
theorem Zpj(hs:IsRt s)(hv:Zaj s=true)(hq:Sq16 s.rq)(hn:Zag now=true):Zaj (ZbF now s).1=true:=by
 obtain⟨h1,h2⟩:=ZmV hs hv hq hn
 unfold ZbF annT
 split
 ·exact h1
 ·exact Zxa h2 h1 hn
theorem Zgf(s:RtV)(x:RtX)(now:Int)(W:World):Cal prog 131 [.agg (rtC s x).toArray, .int .i64 now].toArray W λv w'=>v= .bool (decide (now<s.quiet))/\Ext [] W w':=by
 cases h1:decide (now<s.quiet)
 ·refine yS (n:=9) Tryz.func131 rfl rfl ?_
  refine gQ 2 rfl (Zai rfl rfl λb2=>?_)
  refine W3 [7,0,5] ?_
  exact vAu
 ·refine yS (n:=9) Tryz.func131 rfl rfl ?_
  refine gQ 2 rfl (Zai rfl rfl λb2=>?_)
  refine W3 [7,0,5] ?_
  exact vAu
theorem Zsp(l:List SrcV)(hx:∀x∈l,IsSr x)(v:Value)(now:Int)(t:DstV)(ht:IsDv t)(W:World)(hS:SlAt W 38 v l.length (srsC l)):
  Cal prog 75 [v, .int .i64 now, .agg (dvC t).toArray].toArray W λr w'=>r= .tuple [diV ((Zcd l now t).getD di0), .bool (Zcd l now t).isSome].toArray/\Ext [] W w':=vA3
section
variable {c:Cx} {Q:Exit->Act->World->Prop} {ks:List KF} {fr:FN} {row:Row} {d:Nat} {ty:TypeId} {pos:String} {af:Array Edge} {g:Option (Nat×Bool)} {aa:Array Oper} {rest:List Oper}
theorem ZfY{ι:Type}(val:ι->Value)(p:ι->Prop)(li:ι->Row){sel rst:Row}{y:Operand}{fn:FuncId}{ys:List Operand}{ts:Array TypeId}{vs:List Value} [hb:Zad c.P fn](hsel:PkL row sel rst)(hx:Ev fr y=some (.func (.func fn) #[] #[]))(ha:evL fr ys=some vs)
  (hc:∀w,Mem c.S c.W w row.flatten->InW w sel.flatten->Cal c.P fn vs.toArray w λv w'=>∃j,v=val j/\p j/\Mem (sel.flatten.map (·.1)) w w' (li j).flatten)
  (hk:∀j,p j->G c Q ks (.ops aa rest) ((d,val j)::fr) (li j++rst)) (hd:Nat.blt d c.n=true:=by rfl) (hg:gOk aa fr g=some true:=by rfl):G c Q ks (.ops aa (⟨some d, .call ⟨.value y,ys.toArray,ts⟩,ty,pos,af,g⟩::rest)) fr row:=
 g_op rfl hd hg λa w F M=>by
  have hp:=M.perm hsel.perm
  refine Zav (F.e hx) (F.evs ha) (Cal.mono (hc w M (hp.inW (List.sublist_append_left _ _))) λu w' h a' F'=>?_)
  obtain⟨j,rfl,h2,N⟩:=h
  refine hk j h2 a' w' F' ?_
  rw[List.flatten_append]
  exact hp.joinB N
end
theorem Zm0(now:Int){v6 v7 v8 v9 v10 v11 v12:Value}{e6 e7 e8 e9 e10 e11 e12:EN}(o6:OwnS 85 34 v6 s.og.length (ogsC s.og) e6)(o7:OwnS 124 8 v7 ((senA now s.aj)).length (ajsC ((senA now s.aj))) e7)(o8:OwnS 166 38 v8 ((expS s.sr now)).length (srsC ((expS s.sr now))) e8)(o9:OwnS 76 39 v9 ((setB now s).ro).length (rosC ((setB now s).ro)) e9)(o10:OwnS 74 40 v10 ((setB now s).ins).length (insC ((setB now s).ins)) e10)(o11:OwnS 171 40 v11 (((setB now s).ins.foldl metS (setB now s).rq)).length (rqsC (((setB now s).ins.foldl metS (setB now s).rq))) e11)(o12:OwnS 100 37 v12 s.av.length (avsC s.av) e12):RtOw (setC now s) ⟨v6,v7,v8,v9,v10,v11,v12⟩ ⟨e6,e7,e8,e9,e10,e11,e12⟩:=by
 obtain⟨_,h2,h3,h4,h5⟩:=Zf9 now s
 exact⟨by show OwnS _ _ _ (setB now s).og.length (ogsC (setB now s).og) _;rw[h2];exact o6,by show OwnS _ _ _ (setB now s).aj.length (ajsC (setB now s).aj) _;rw[h3];exact o7,by show OwnS _ _ _ (setB now s).sr.length (srsC (setB now s).sr) _;rw[h4];exact o8,o9,o10,o11,by show OwnS _ _ _ (setB now s).av.length (avsC (setB now s).av) _;rw[h5];exact o12⟩
theorem ZtS{al:List NotV}(h:now<(setB now s).quiet):setV now s al=(setC now s,al):=by
 have e:setD now s al=((setC now s).rq,al):=if_pos h
 unfold setV
 rw[e]
def PhSe(s':RtV)(al:List NotV)(now frm:Int)(vs:Value)(b:Nat)(l0:List Nat)(W w':World):Prop:=∃x' e' va' ea',RtOw s' x' e'/\OwnS 69 40 va' al.length (nosC al) ea'/\Mem l0 W w' (ea'::[(b, .cells (stC s' x' now frm va' vs).toArray 142 (0,0))]::e'.row:Row).flatten
theorem vB3(h:p:=by
  exact gR (_,_,_,_) ⟨by show OwnS _ _ _ _ _ _;rw[hnx];exact oQ2,by show OwnS _ _ _ _ _ _;rw[hnx];exact oA2⟩):p:=h
theorem vCJ(h:p:=by
  exact gR (_,_,_,_) ⟨by show OwnS _ _ _ _ _ _;rw[hnx];exact oQ3,by show OwnS _ _ _ _ _ _;rw[hnx];exact oA2⟩):p:=h
theorem ZmZ(s:RtV)(x:RtX)(now frm:Int)(va vs:Value)(b:Nat)(al:List NotV)(ea:EN)(e:RtE)(hs:IsRt s)(hv:Zaj s=true)(hsq:Sq16 s.rq)(hal:al.length<=1000)(hnow:Zag now=true)(hA:OwnS 69 40 va al.length (nosC al) ea)(hO:RtOw s x e)(W:World)(hH:InW W ((ea::[(b, .cells (stC s x now frm va vs).toArray 142 (0,0))]::e.row):Row).flatten):Cal prog 67 [.pointer (some ⟨b,0,none⟩)].toArray W λr w'=>r= .tuple #[]/\PhSe (setV now s al).1 (setV now s al).2 now frm vs b (((ea::[(b, .cells (stC s x now frm va vs).toArray 142 (0,0))]::e.row):Row).flatten.map (·.1)) W w':=by
 obtain⟨v6,v7,v8,v9,v10,v11,v12⟩:=x
 obtain⟨e6,e7,e8,e9,e10,e11,e12⟩:=e
 obtain⟨o6,o7,o8,o9,o10,o11,o12⟩:=hO
 dsimp only at o6 o7 o8 o9 o10 o11 o12
 obtain⟨hn0,hn1⟩:=Zbt hnow
 refine Zdw (n:=193) (ea::[(b, .cells (stC s ⟨v6,v7,v8,v9,v10,v11,v12⟩ now frm va vs).toArray 142 (0,0))]::(⟨e6,e7,e8,e9,e10,e11,e12⟩:RtE).row) hH Zbj Zbi Tryz.func67 rfl rfl rfl ?_
 dsimp only[RtE.row]
 have ht:=senH hv
 have ht2:=ht.2
 refine gQ 3 rfl ?_
 refine ZfY (ι:=Value×Value×EN×EN) (λ_=> .tuple #[]) (λj=>OwnS 124 8 j.1 ((senA now s.aj)).length (ajsC ((senA now s.aj))) j.2.2.1/\OwnS 76 39 j.2.1 ((senR now s.ro s.aj)).length (rosC ((senR now s.ro s.aj))) j.2.2.2) (λj=>[j.2.2.2,j.2.2.1,[(b, .cells (stC s ⟨v6,j.1,v8,j.2.1,v10,v11,v12⟩ now frm va vs).toArray 142 (0,0))]]) (.cons (.s .z) (.cons (.s (.s (.s (.s (.s (.s .z)))))) (.cons (.s (.s (.s (.s .z)))) .nil))) rfl rfl (λw M hH2=>Cal.mono (Zvc s ⟨v6,v7,v8,v9,v10,v11,v12⟩ now frm va vs b e7 e9 hs.aj hs.q ht.1 hs.ro Q0 hnow o7 o9 w hH2) λr w2 h=>by obtain⟨v7b,v9b,e7b,e9b,h1,h2,h3,h4⟩:=h;exact⟨(v7b,v9b,e7b,e9b),h1,⟨h2,h3⟩,h4⟩) ?_
 rintro⟨w7,w9,f7,f9⟩ ⟨o7b,o9b⟩
 dsimp only[List.cons_append,List.nil_append] at o7b o9b⊢
 have hr1:∀y∈senR now s.ro s.aj,IsRo y:=λy hy=>hs.ro y ((ZdN _ _ _).subset hy)
 have hr2:=ZeC (now:=now) hr1
 have hs2:∀y∈expS s.sr now,IsSr y:=λy hy=>hs.sr y ((ZhH _ _).subset hy)
 refine W3 [5,0,5] ?_
 refine Zms 10 193 [9] rfl Q7 (Zaw 2 rfl (fe_v (λa w F M R r=>Zan (F.e rfl) rfl r) (Zaw 1 rfl (Zc1 2 rfl rfl rfl (Zaw 1 rfl (fe_v (λa w F M R r=>Zan (F.e rfl) rfl r) (Zaw 1 rfl (Zc1 2 rfl rfl rfl (Zir (λf=>rfl) (λ_ _=>rfl) (λ_ _ w M=>Zti _ hr1 w9 now w (o9b.slAt M λq hq=>List.mem_flatten_of_mem Q5 hq)) (Zf0 rfl rfl (λi hi=>rfl) (λi hi=>?_)))))))))))
 obtain⟨_,w9,f9⟩:=i
 obtain⟨_,o9c⟩:=hi
 dsimp only at o9c⊢
 refine W3 [0,1,0,3] ?_
 refine Zms 10 193 [9] rfl Q7 (Zaw 2 rfl (fe_v (λa w F M R r=>Zan (F.e rfl) rfl r) (Zaw 1 rfl (Zc1 3 rfl rfl rfl (Zaw 1 rfl (fe_v (λa w F M R r=>Zan (F.e rfl) rfl r) (Zaw 1 rfl (Zc1 3 rfl rfl rfl (Zir (λf=>rfl) (λ_ _=>rfl) (λ_ _ w M=>Zpp _ hs.sr v8 now w (o8.slAt M λq hq=>List.mem_flatten_of_mem Q5 hq)) (Zf0 rfl rfl (λi hi=>rfl) (λi hi=>?_)))))))))))
 obtain⟨_,w8,f8⟩:=i
 obtain⟨_,o8c⟩:=hi
 dsimp only at o8c⊢
 refine W3 [0,1,0,2] ?_
 have hsI:IsRt {s with aj:=senA now s.aj,sr:=expS s.sr now,ro:=ZaF (senR now s.ro s.aj) now}:=⟨hs.og,λy _=>ZdW _,hs2,hr2,hs.ins,hs.rq,hs.av,ZlN hs.q⟩
 refine gQ 1 rfl (Zjj 25 193 [15,20,21,22,24] [(23,21)] rfl Q7 (ZaT 1 rfl (fk_v (λa w F M R r=>Zan (F.e rfl) rfl r) (ZaT 1 rfl (Zdc 4 rfl rfl rfl (ZaT 1 rfl (fk_v (λa w F M R r=>Zan (F.e rfl) rfl r) (ZaT 1 rfl (Zdc 4 rfl rfl rfl (ZaT 1 rfl (fk_v (λa w F M R r=>Zan (F.e rfl) rfl r) (ZaT 1 rfl (Zdc 4 rfl rfl rfl (ZaT 1 rfl (fk_v (λa w F M R r=>Zan (F.e rfl) rfl r) (Zjk 4 rfl rfl rfl ?_))))))))))))))))
 refine Zfm (κ:=Value×EN) (λ_ j=>j.1) (λ_ j=>OwnS 96 2 j.1 ((Zb9 (senA now s.aj))).length (opsC ((Zb9 (senA now s.aj)))) j.2) (λ_ j=>[j.2]) (.x .any) (λf=>rfl) (λ_ _=>rfl) (λ_ _ w M=>Cal.mono (ZsT {s with aj:=senA now s.aj,sr:=expS s.sr now,ro:=ZaF (senR now s.ro s.aj) now} ⟨v6,w7,w8,w9,v10,v11,v12⟩ hsI (Nat.le_trans Zga ht.2) w ⟨(o6.slAt M λq hq=>List.mem_flatten_of_mem Q5 hq),(o7b.slAt M λq hq=>List.mem_flatten_of_mem Q5 hq),(o8c.slAt M λq hq=>List.mem_flatten_of_mem Q5 hq),(o9c.slAt M λq hq=>List.mem_flatten_of_mem Q5 hq),(o10.slAt M λq hq=>List.mem_flatten_of_mem Q5 hq),(o11.slAt M λq hq=>List.mem_flatten_of_mem Q5 hq),(o12.slAt M λq hq=>List.mem_flatten_of_mem Q5 hq)⟩) λr w' h=>by obtain⟨ent,h2,h3⟩:=h;exact⟨(r,ent),rfl,h2,by simpa using h3⟩) (λ_ _ _ _=>trivial) (λ_ _ _ _ _ _=>trivial) ?_
 refine ZaT 1 rfl (fk_v (λa w F M R r=>Zan (F.e rfl) rfl r) (ZaT 1 rfl (Zdc 4 rfl rfl rfl ?_)))
 obtain⟨sl,hsl⟩:∃sl,sl=(ZaS now (ZaF (senR now s.ro s.aj) now) (expS s.sr now) (Zb9 (senA now s.aj)) s.ins):=⟨_,rfl⟩
 refine Zfm (κ:=Value×EN) (λ_ j=> .tuple [j.1, .int .i64 sl.2].toArray) (λ_ j=>OwnS 74 40 j.1 sl.1.length (insC sl.1) j.2) (λ_ j=>[j.2]) (.x .any) (λf=>rfl) (λ_ _=>rfl) (λi hi w M=>Cal.mono (Zsa now _ hr2 _ hs2 (Zb9 (senA now s.aj)) s.ins hs.ins w9 w8 i.2.1 v10 w (o9c.slAt M λq hq=>List.mem_flatten_of_mem Q5 hq) (o8c.slAt M λq hq=>List.mem_flatten_of_mem Q5 hq) (hi.2.slAt M λq hq=>List.mem_flatten_of_mem Q5 hq) (o10.slAt M λq hq=>List.mem_flatten_of_mem Q5 hq)) λr w' h=>by obtain⟨u,ent,h1,h2,h3⟩:=h;exact⟨(u,ent),by rw[hsl];exact h1,by rw[hsl];exact h2,by simpa using h3⟩) (λ_ _ _ _=>trivial) (λ_ _ _ _ _ _=>trivial) ?_
 refine ZeB (λq=> .tuple [q.2.1, .int .i64 sl.2].toArray) (.tn 2) (λ_ _=>rfl) (λ_ _ _=>⟨_,rfl,rfl⟩) (λ_ _ _ _=>trivial) (ZeB (λq=>q.2.1) (.x .any) (λ_ _=>rfl) (λ_ _ _=>trivial) (λ_ _ _ _=>trivial) (Zio 2 21 (.tail _ (.head _)) Q0 (ZeB (λq=>q.2.1) (.x .any) (λ_ _=>rfl) (λ_ _ _=>trivial) (λ_ _ _ _=>trivial) (ZfJ rfl (λi hi=>rfl) (λi hi=>⟨_,rfl,?_⟩)))))
 obtain⟨⟨_,uk,fk⟩,w10,f10⟩:=i
 obtain⟨_,o10b⟩:=hi
 dsimp only at o10b⊢
 refine W3 [7,0,1,0,3] ?_
 refine Zao (.s (.s (.s (.s (.s (.s (.s (.s (.s .z))))))))) (Zao (.s (.s (.s (.s .z)))) (Zao (.s (.s .z)) (Zc0 (ι:=Value×EN×Value×EN×Value×EN) ⟨λ(u10,g10,u9,g9,u11,g11)=>OwnS 74 40 u10 ((setB now s).ins).length (insC ((setB now s).ins)) g10/\OwnS 76 39 u9 ((setB now s).ro).length (rosC ((setB now s).ro)) g9/\OwnS 171 40 u11 ((setB now s).rq).length (rqsC ((setB now s).rq)) g11,λ_=>[(0, .pointer (some ⟨b,0,none⟩)),(2, .pointer (some ⟨b,0+0,none⟩))],λ(u10,g10,u9,g9,u11,g11)=>[g10,g9,g11,f8,f7,[(b, .cells (stC (setB now s) ⟨v6,w7,w8,u9,u10,u11,v12⟩ now frm va vs).toArray 142 (0,0))],ea,e12,e6]⟩ ?_ ?_)))
 ·by_cases c2:sl.2=0
  ·have e1:setB now s= {s with aj:=senA now s.aj,sr:=expS s.sr now,ro:=ZaF (senR now s.ro s.aj) now,ins:=sl.1}:=by unfold setB;rw[<-hsl,if_pos c2]
   rw[e1]
   refine W3 [6,0,1] ?_
   exact gJ (_,_,_,_,_,_) ⟨o10b,o9c,o11⟩ rfl (List.Sublist.cons_cons _ (List.Sublist.cons_cons _ (List.Sublist.cons_cons _ (List.Sublist.cons _ (List.Sublist.cons_cons _ (List.Sublist.cons _ (List.Sublist.cons_cons _ (List.Sublist.cons_cons _ (List.Sublist.cons_cons _ (List.Sublist.cons_cons _ (List.Sublist.cons _ (List.Sublist.cons _ (List.Sublist.cons_cons _ (List.Sublist.refl _))))))))))))))
  ·have e1:setB now s= {s with aj:=senA now s.aj,sr:=expS s.sr now,ro:=[],ins:=[],rq:=[],quiet:=Zaz now 16}:=by unfold setB;rw[<-hsl,if_neg c2]
   rw[e1]
   refine Zba (Zba (Zba ?_))
   refine W4 [6,0,5,0,1,0,0,1,0,0,1,0,5,0,1,0,0,0,1,0,1] @Zfc ?_
   exact gJ (_,[],_,[],_,[]) ⟨OwnS.nilL _ _ _,OwnS.nilL _ _ _,OwnS.nilL _ _ _⟩ rfl (List.Sublist.cons_cons _ (List.Sublist.cons_cons _ (List.Sublist.cons_cons _ (List.Sublist.cons _ (List.Sublist.cons _ (List.Sublist.cons _ (List.Sublist.cons _ (List.Sublist.cons_cons _ (List.Sublist.cons _ (List.Sublist.cons_cons _ (List.Sublist.cons_cons _ (List.Sublist.cons_cons _ (List.Sublist.cons_cons _ (List.Sublist.cons _ (List.Sublist.cons _ (List.Sublist.cons_cons _ (List.Sublist.refl _)))))))))))))))))
 rintro⟨u10,g10,u9,g9,u11,g11⟩ ⟨o10,o9,o11⟩
 dsimp only at o10 o9 o11⊢
 obtain⟨q10,c10,rfl,hq10⟩:=Zbr o10
 have hB:=ZlL now hs
 have hBl:=ZjL now hv
 have hBi:=hBl.2
 refine W3 [5,0,1,0,5] ?_
 refine Zao (.s (.s .z)) (ZcT 96 95 94 (ZbU hB.1) hq10 (λi(j:Value×EN)=>OwnS 171 40 j.1 ((((setB now s).ins.take i).foldl metS (setB now s).rq)).length (rqsC ((((setB now s).ins.take i).foldl metS (setB now s).rq))) j.2) (λj=>[(0, .pointer (some ⟨b,0,none⟩)),(2, .pointer (some ⟨b,0+0,none⟩))]) (λj=>[j.2,g10,g9,f8,f7,[(b, .cells (stC (setB now s) ⟨v6,w7,w8,u9, .slice q10 (setB now s).ins.length c10,j.1,v12⟩ now frm va vs).toArray 142 (0,0))],ea,e12,e6]) (_,_) o11 ?_ ?_)
 ·rintro i ⟨u,es⟩ y hi hy hym bq jq rfl rfl f1 oQ
  have yI:=hB.1 y hym
  have yd:=yI.1
  dsimp only at oQ⊢
  have hnx:((setB now s).ins.take (i+1)).foldl metS (setB now s).rq=metS (((setB now s).ins.take i).foldl metS (setB now s).rq) y:=by rw[List.take_succ_eq_append_getElem hi,List.foldl_append,<-hy];rfl
  obtain⟨qs,hqs⟩:∃qs,qs=((setB now s).ins.take i).foldl metS (setB now s).rq:=⟨_,rfl⟩
  have hqI:∀y∈qs,IsRq y:=by rw[hqs];exact λy hy=>hB.2 y ((ZdQ _ _).subset hy)
  have hql:qs.length<=1000:=by rw[hqs];exact Nat.le_trans (ZdQ _ _).length_le hBl.1
  rw[<-hqs] at oQ hnx
  by_cases c3:y.nb=0
  ·have e1:metS qs y=qs:=by unfold metS;rw[if_pos c3]
   rw[e1] at hnx
   refine W3 [6,0,6,0,0] ?_
   refine Zac λb6=>?_
   refine W3 [0,5,0,3,0,4,0,2] ?_
   exact gR (_,_) (by show OwnS _ _ _ _ _ _;rw[hnx];exact oQ)
  ·have e1:metS qs y=metV qs y.to y.own:=by unfold metS;rw[if_neg c3]
   rw[e1] at hnx
   refine W3 [6,0,6,0,0] ?_
   refine Zac λb6=>?_
   refine W3 [0,5,0,3,0] ?_
   refine Zms 10 193 [9] rfl Q7 (Zaw 2 rfl (fe_v (λa w F M R r=>Zan (F.e rfl) rfl r) (Zaw 1 rfl (Zc1 6 rfl rfl rfl (Zaw 1 rfl (ZfK 0 rfl rfl (Zgu Qd) ?_))))))
   refine Zaw 1 rfl (ZfK 0 rfl rfl (Zuk Qd) ?_)
   refine Zir (λf=>rfl) (λ_ _=>rfl) (λ_ _ w M=>Zvm _ hqI u hql y.to yd y.own w (oQ.slAt M λq hq=>List.mem_flatten_of_mem Q5 hq)) (Zf0 rfl rfl (λi hi=>rfl) (λi hi=>?_))
   obtain⟨_,u2,f2⟩:=i
   obtain⟨_,oQ2⟩:=hi
   dsimp only at oQ2⊢
   rw[<-hnx] at oQ2
   refine W3 [0,1,0,4,0,2] ?_
   exact gR (_,_) oQ2
 ·rintro⟨u,es⟩ i hi oQ
  subst hi
  dsimp only at oQ⊢
  rw[List.take_length] at oQ
  refine Zao (.s (.s (.s (.s (.s (.s (.s (.z)))))))) (Zao (.s (.s (.s (.s (.s (.s (.z))))))) (Zao (.s (.s (.s (.s (.s (.s (.s (.z)))))))) ?_))
  refine W3 [6,0,2,0,6] ?_
  refine Zb6 (v:= .bool (decide (now<(setB now s).quiet))) rfl rfl (λw M=>ZjJ (setB now s) _ now frm va vs b w (M.at_ _ (Zak (i:=1) rfl))) ?_
  have oS:=Zm0 now o6 o7b o8c o9 o10 oQ o12
  by_cases c4:now<(setB now s).quiet
  ·have e1:=ZtS (al:=al) c4
   rw[e1]
   refine W3 [2,0,2] ?_
   refine ZdT rfl rfl (λa w F M=> .nil) ?_;intro w M;(try dsimp only[Zce])
   exact⟨rfl,_,_,_,_,oS,hA,M⟩
  ·have hC:=ZgO (now:=now) hs
   have hCs:ZaK (setC now s).sr=true:=(ZbT (ZlJ hs hv hnow)).2.2.2.2.2.2.1
   have c4b:¬now<(setC now s).quiet:=c4
   have o8d:OwnS 166 38 w8 (setC now s).sr.length (srsC (setC now s).sr) f8:=by show OwnS _ _ _ (setB now s).sr.length (srsC (setB now s).sr) _;rw[(Zf9 now s).2.2.2.1];exact o8c
   obtain⟨ds,hds⟩:∃ds,ds=Za9 now (setC now s).ro (setC now s).sr (setC now s).ins:=⟨_,rfl⟩
   have hdb:(∀t∈ds,IsDv t)/\ds.length<=512:=by rw[hds];exact Zfy hC.ro
   have e0:setV now s al=({setC now s with rq:=(ds.foldl (stvS now (setC now s).sr) ((setC now s).rq,al)).1},(ds.foldl (stvS now (setC now s).sr) ((setC now s).rq,al)).2):=by unfold setV setD;rw[if_neg c4b,<-hds]
   refine W3 [2,0,3] ?_
   refine Zjj 19 193 [16,17] [] rfl Q7 (ZaT 1 rfl (fk_v (λa w F M R r=>Zan (F.e rfl) rfl r) (ZaT 1 rfl (Zdc 1 rfl rfl rfl (ZaT 1 rfl (fk_v (λa w F M R r=>Zan (F.e rfl) rfl r) (ZaT 1 rfl (Zdc 1 rfl rfl rfl (ZaT 1 rfl (fk_v (λa w F M R r=>Zan (F.e rfl) rfl r) (ZaT 1 rfl (Zdc 1 rfl rfl rfl (ZaT 1 rfl (fk_v (λa w F M R r=>Zan (F.e rfl) rfl r) (ZaT 1 rfl (Zdc 1 rfl rfl rfl ?_))))))))))))))))
   refine Zfm (κ:=Option Addr×Nat×EN) (λ_ j=> .slice j.1 ds.length j.2.1) (λ_ j=>OwnS 67 35 (.slice j.1 ds.length j.2.1) ds.length (dvsC ds) j.2.2) (λ_ j=>[j.2.2]) (.x .any) (λf=>rfl) (λ_ _=>rfl) (λ_ _ w M=>Cal.mono (Zpn now (setC now s).ro hC.ro (setC now s).sr hC.sr (setC now s).ins hC.ins u9 w8 (.slice q10 (setB now s).ins.length c10) w (o9.slAt M λq hq=>List.mem_flatten_of_mem Q5 hq) (o8d.slAt M λq hq=>List.mem_flatten_of_mem Q5 hq) (o10.slAt M λq hq=>List.mem_flatten_of_mem Q5 hq)) λr w2 h=>by rw[<-hds] at h;obtain⟨ent,hO,M2⟩:=h;obtain⟨q3,c3,rfl,_⟩:=Zbr hO;exact⟨(q3,c3,ent),rfl,hO,by simpa using M2⟩) (λ_ _ _ _=>trivial) (λ_ _ _ _ _ _=>trivial) ?_
   refine ZeB (λ_=> .int .i64 ds.length) (.x .any) (λ_ _=>rfl) (λ_ _ _=>trivial) (λ_ _ _ _=>trivial) (ZaT 1 rfl (ZfJ rfl (λi hi=>rfl) (λi hi=>⟨_,rfl,?_⟩)))
   obtain⟨_,qd,cd,ed⟩:=i
   obtain⟨_,oD⟩:=hi
   dsimp only at oD⊢
   obtain⟨q3,c3,e,hqd⟩:=Zbr oD
   cases e
   refine gQ 3 rfl (Zao (.s (.s .z)) (Zao (.s (.s (.s (.s .z)))) (Zao (.s (.s (.s .z))) (ZcT 136 135 134 (Ziw hdb.1) hqd (λi(j:Value×EN×Value×EN)=>OwnS 171 40 j.1 (((ds.take i).foldl (stvS now (setC now s).sr) ((setC now s).rq,al)).1).length (rqsC (((ds.take i).foldl (stvS now (setC now s).sr) ((setC now s).rq,al)).1)) j.2.1/\OwnS 69 40 j.2.2.1 (((ds.take i).foldl (stvS now (setC now s).sr) ((setC now s).rq,al)).2).length (nosC (((ds.take i).foldl (stvS now (setC now s).sr) ((setC now s).rq,al)).2)) j.2.2.2) (λ_=>[(0, .pointer (some ⟨b,0,none⟩)),(2, .pointer (some ⟨b,0+0,none⟩))]) (λj=>[j.2.2.2,j.2.1,[(b, .cells (stC (setB now s) ⟨v6,w7,w8,u9, .slice q10 (setB now s).ins.length c10,j.1,v12⟩ now frm j.2.2.1 vs).toArray 142 (0,0))],ed,e12,g10,g9,f8,f7,e6]) (_,_,_,_) ⟨oQ,hA⟩ ?_ ?_))))
   ·rintro i ⟨u,es,va2,ea2⟩ y hi hy hym bq jq rfl rfl f1 ⟨oQ2,oA2⟩
    have yd:=hdb.1 y hym
    dsimp only at oQ2 oA2⊢
    have hnx:((ds.take (i+1)).foldl (stvS now (setC now s).sr) ((setC now s).rq,al))=stvS now (setC now s).sr ((ds.take i).foldl (stvS now (setC now s).sr) ((setC now s).rq,al)) y:=by rw[List.take_succ_eq_append_getElem hi,List.foldl_append,<-hy];rfl
    obtain⟨st,hst⟩:∃st,st=((ds.take i).foldl (stvS now (setC now s).sr) ((setC now s).rq,al)):=⟨_,rfl⟩
    have hI:RqI st.1/\st.2.length<=al.length+i:=by rw[hst];have:=Zr2 (now:=now) (sr:=(setC now s).sr) (ds.take i) ((setC now s).rq,al) (λt ht=>hdb.1 t (List.mem_of_mem_take ht)) (ZjK hs hv hsq);exact⟨this.1,Nat.le_trans this.2 (by rw[List.length_take];dsimp only;omega)⟩
    rw[<-hst] at oQ2 oA2 hnx
    refine W3 [6,0,6,0,0] ?_
    refine Zac λb8=>?_
    refine W3 [0,3] ?_
    refine Zus 15 193 [14] [] [13] rfl Q7 (ZaT 1 rfl (fk_v (λa w F M R r=>Zan (F.e rfl) rfl r) (ZaT 1 rfl (Zdc 3 rfl rfl rfl (ZaT 1 rfl (fk_v (λa w F M R r=>Zan (F.e rfl) rfl r) (ZaT 1 rfl (Zdc 3 rfl rfl rfl (Zjk 0 rfl rfl (Zcx Qd) ?_)))))))))
    refine Zww (v:= .tuple [diV ((Zds (setC now s).sr now y).getD di0), .bool (Zds (setC now s).sr now y).isSome].toArray) rfl rfl (λw M=>Zm5 (setC now s).sr hC.sr hCs w8 now hnow y yd w (o8d.slAt M λq hq=>List.mem_flatten_of_mem Q5 hq)) ?_
    rcases hb:Zds (setC now s).sr now y with _|d
    ·have e1:stvS now (setC now s).sr st y=st:=by unfold stvS;rw[hb]
     rw[e1] at hnx
     refine ZaT 3 rfl (Zwx (Zwv (len:=2) 13 (λ_=>diC di0) (.head _) (.head _) (by decide) (λ_ _=>rfl) (λ_ _=>rfl) (λ_ _=>rfl) (λ_ _ p hp=> .inl (.inr hp)) rfl (λ_ _ _ _=>trivial) (ZfJ rfl (λi hi=>rfl) (λi hi=>⟨_,rfl,?_⟩))))
     obtain⟨_,b9⟩:=i
     dsimp only
     refine W3 [16,0,2] ?_
     exact vB3
    ·obtain⟨aq,haq⟩:∃aq,aq=addV st.1 now y (sq1 d) 32 0:=⟨_,rfl⟩
     refine ZaT 3 rfl (Zwx (Zwv (len:=2) 13 (λ_=>diC d) (.head _) (.head _) (by decide) (λ_ _=>rfl) (λ_ _=>rfl) (λ_ _=>rfl) (λ_ _ p hp=> .inl (.inr hp)) rfl (λ_ _ _ _=>trivial) (ZfJ rfl (λi hi=>rfl) (λi hi=>⟨_,rfl,?_⟩))))
     obtain⟨_,b9⟩:=i
     dsimp only
     refine W3 [16,0,0,4] ?_
     refine Zjj 17 193 [10,11,12,15,16] [(13,11),(14,11)] rfl Q7 (ZaT 1 rfl (fk_v (λa w F M R r=>Zan (F.e rfl) rfl r) (ZaT 1 rfl (Zdc 4 rfl rfl rfl (ZaT 1 rfl (fk_v (λa w F M R r=>Zan (F.e rfl) rfl r) (ZaT 1 rfl (Zdc 4 rfl rfl rfl (Zjk 1 rfl rfl (Zcx yd) (ZaT 1 rfl ?_))))))))))
     refine Zfm (κ:=Value×EN) (λ_ j=> .tuple [j.1, .bool aq.fresh, .int .i64 aq.err].toArray) (λ_ j=>OwnS 171 40 j.1 aq.l.length (rqsC aq.l) j.2) (λ_ j=>[j.2]) (.x .any) (λf=>rfl) (λ_ _=>rfl) (λ_ _ w M=>Cal.mono (Zv5 st.1 hI.1.is u hI.1.sq now y yd (sq1 d) (ZtQ d) 32 0 w (oQ2.slAt M λq hq=>List.mem_flatten_of_mem Q5 hq)) λr w2 h=>by rw[<-haq] at h;obtain⟨u2,ent,h1,h2,h3⟩:=h;exact⟨(u2,ent),h1,h2,by simpa using h3⟩) (λ_ _ _ _=>trivial) (λ_ _ _ _ _ _=>trivial) ?_
     refine ZeB (λq=> .tuple [q.2.1, .bool aq.fresh, .int .i64 aq.err].toArray) (.tn 3) (λ_ _=>rfl) (λ_ _ _=>⟨_,rfl,rfl⟩) (λ_ _ _ _=>trivial) (ZeB (λq=>q.2.1) (.x .any) (λ_ _=>rfl) (λ_ _ _=>trivial) (λ_ _ _ _=>trivial) (Zio 3 11 (.tail _ (.head _)) Q0 (Zio 3 11 (.tail _ (.head _)) Q0 (ZeB (λq=>q.2.1) (.x .any) (λ_ _=>rfl) (λ_ _ _=>trivial) (λ_ _ _ _=>trivial) (Ztf 13 11 (λq=> .tuple [q.2.1, .bool aq.fresh, .int .i64 aq.err].toArray) (λ_=> .bool aq.fresh) (λ_=> .bool aq.fresh) (.x .any) (.head _) (λ_ _=>rfl) (λ_ _=>rfl) (λ_ _=>rfl) (λ_ _ _=>trivial) (λ_ _ _ _=>trivial) (ZfJ rfl (λi hi=>rfl) (λi hi=>⟨_,rfl,?_⟩)))))))
     obtain⟨_,u2,es2⟩:=i
     obtain⟨_,oQ3⟩:=hi
     dsimp only at oQ3⊢
     by_cases c5:aq.err=0
     ·rcases c6:aq.fresh with _| _
      ·have e1:stvS now (setC now s).sr st y=(aq.l,st.2):=by unfold stvS;rw[hb];dsimp only;rw[<-haq,if_pos c5,c6];rfl
       rw[e1] at hnx
       refine W3 [10,0,6,0,1,0,11] ?_
       refine Zao (.s (.s (.s .z))) ?_
       refine W3 [1,0,2] ?_
       exact vCJ
      ·have e1:stvS now (setC now s).sr st y=(aq.l,st.2++[sqN y (sq1 d) 32]):=by unfold stvS;rw[hb];dsimp only;rw[<-haq,if_pos c5,c6];rfl
       rw[e1] at hnx
       have hI2:IsNo (sqN y (sq1 d) 32):=yd
       refine W3 [10,0,6,0,1,0,8] ?_
       refine Zao (.s (.s (.s .z))) (Zil 10 193 9 rfl Q7 (Zaw 2 rfl (fe_v (λa w F M R r=>Zan (F.e rfl) rfl r) (Zaw 1 rfl (Zc1 4 rfl rfl rfl (ZfK 2 rfl rfl (Zcx yd) (Zaw 1 rfl (Zf1 rfl rfl (λw M=>Zm1 _ Qd _ _ _) ?_))))))))
       refine Zln rfl rfl rfl (ZcM Qd) ?_
       refine Zjp 8 rfl oA2 (.head _) (Zez hI2) Q0 Q0 (Zfk _) (λv2 ent2 oA3=>?_)
       refine W3 [0,1,0,4,0,2] ?_
       exact gR (_,_,_,_) ⟨by show OwnS _ _ _ _ _ _;rw[hnx];exact oQ3,by show OwnS _ _ _ _ _ _;rw[hnx];exact oA3⟩
     ·have e1:stvS now (setC now s).sr st y=st:=by unfold stvS;rw[hb];dsimp only;rw[<-haq,if_neg c5]
      rw[e1] at hnx
      refine W3 [10,0,5,0,2] ?_
      exact vB3
   ·rintro⟨u,es,va2,ea2⟩ i hi ⟨oQ2,oA2⟩
    subst hi
    dsimp only at oQ2 oA2⊢
    rw[List.take_length] at oQ2 oA2
    refine Zao (.s .z) (Zao (.s (.s (.s (.s .z)))) (Zao (.s (.s (.s .z))) (Zao (.s (.s (.s .z))) ?_)))
    rw[e0]
    refine W3 [6,0,2,0,1] ?_
    exact Zmr rfl rfl λw M=>⟨rfl,⟨v6,w7,w8,u9,_,u,v12⟩,⟨e6,f7,f8,g9,g10,es,e12⟩,_,_,⟨oS.og,oS.aj,oS.sr,oS.ro,oS.ins,oQ2,oS.av⟩,oA2,M.sub (subO (.cons_cons _ (.cons_cons _ (.cons_cons _ (.cons_cons _ (.cons _ (.refl _)))))))⟩
theorem RtOw.one{x:RtX}{e:RtE}(h:RtOw s x e):(rtC s x).all (·.oneCell')=true:=by
 obtain⟨a1,a2,a3,a4,a5,a6,a7⟩:=h
 simp only[rtC,List.all_cons,List.all_nil,Zc7 a1,Zc7 a2,Zc7 a3,Zc7 a4,Zc7 a5,Zc7 a6,Zc7 a7]
 rfl
abbrev rtZ:List Value:=[.int .u64 0, .int .u16 0, .int .i64 0, .int .i64 0, .int .u16 0, .int .i64 0, .slice none 0 0, .slice none 0 0, .slice none 0 0, .slice none 0 0, .slice none 0 0, .slice none 0 0, .slice none 0 0, .int .i64 0]
def PhSR(s':RtV)(al:List NotV)(r:Value)(l0:List Nat)(W w':World):Prop:=∃x' e' va ea,r= .tuple #[.agg (rtC s' x').toArray,va]/\RtOw s' x' e'/\OwnS 69 40 va al.length (nosC al) ea/\Mem l0 W w' (ea::e'.row:Row).flatten
theorem ZpI(s:RtV)(x:RtX)(now:Int)(e:RtE)(hs:IsRt s)(hv:Zaj s=true)(hsq:Sq16 s.rq)(hnow:Zag now=true)(hO:RtOw s x e)(W:World)(hH:InW W e.row.flatten):Cal prog 206 [.agg (rtC s x).toArray, .int .i64 now].toArray W λr w'=>PhSR (setV now s []).1 (setV now s []).2 r (e.row.flatten.map (·.1)) W w':=by
 obtain⟨v6,v7,v8,v9,v10,v11,v12⟩:=x
 obtain⟨e6,e7,e8,e9,e10,e11,e12⟩:=e
 obtain⟨o6,o7,o8,o9,o10,o11,o12⟩:=hO
 dsimp only at o6 o7 o8 o9 o10 o11 o12
 obtain⟨hn0,hn1⟩:=Zbt hnow
 obtain⟨q7,c7,rfl,hq7⟩:=Zbr o7
 refine Zdw (n:=169) (⟨e6,e7,e8,e9,e10,e11,e12⟩:RtE).row hH Zbj Zbi Tryz.func206 rfl rfl rfl ?_
 dsimp only[RtE.row]
 have ht:=senH hv
 have ht2:=ht.2
 refine gQ 2 rfl (Zai rfl rfl λb2=>Zac λb4=>?_)
 refine W3 [12,0,5] ?_
 refine Zao (.s (.s (.s (.s (.s .z))))) (Zba (ZcT 24 23 22 (ZdI hs.aj) hq7 (λi(j:Value×EN×Value×EN)=>OwnS 124 8 j.1 ((senA now (s.aj.take i))).length (ajsC ((senA now (s.aj.take i)))) j.2.1/\OwnS 76 39 j.2.2.1 ((senR now s.ro (s.aj.take i))).length (rosC ((senR now s.ro (s.aj.take i)))) j.2.2.2) (λj=>[(1, .int .i64 now),(2, .pointer (some ⟨b2,0,none⟩)),(4, .pointer (some ⟨b4,0,none⟩)),(6,j.1)]) (λj=>[j.2.1,j.2.2.2,[(b4, .cells rtZ.toArray 53 (0,0))],[(b2, .cells (rtC s ⟨v6, .slice q7 s.aj.length c7,v8,j.2.2.1,v10,v11,v12⟩).toArray 53 (0,0))],e12,e11,e10,e8,e7,e6]) (_,[],_,_) ⟨OwnS.nilL _ _ _,o9⟩ ?_ ?_))
 ·rintro i ⟨u,es,u9,es9⟩ y hi hy hym bq jq rfl rfl f1 ⟨hO,hR⟩
  have yj:=hs.aj y hym
  have yq:=hs.q y hym
  dsimp only at hO hR⊢
  have hal:(senA now (s.aj.take i)).length<=1000:=Nat.le_trans Zga (by rw[List.length_take];omega)
  refine W3 [6,0,6,0,0] ?_
  refine Zac λb8=>?_
  refine W3 [0,3] ?_
  obtain⟨a1,ha1⟩:∃a1,a1=Zer now y:=⟨_,rfl⟩
  refine Zc0 (ι:=Unit) ⟨λ_=>True,λ_=>[(24, .int .i64 i),(23, .int .i64 s.aj.length),(22, .slice (some ⟨bq,0,none⟩) s.aj.length c7),(1, .int .i64 now),(2, .pointer (some ⟨b2,0,none⟩)),(4, .pointer (some ⟨b4,0,none⟩)),(6,u),(8, .pointer (some ⟨b8,0,none⟩))],λ_=>[[(b8, .cells (ajC a1).toArray 124 (0,0))],es,es9,[(b4, .cells rtZ.toArray 53 (0,0))],[(b2, .cells (rtC s ⟨v6, .slice (some ⟨bq,0,none⟩) s.aj.length c7,v8,u9,v10,v11,v12⟩).toArray 53 (0,0))],e12,e11,e10,e8,[(bq, .cells (ajsC s.aj++jq).toArray 124 (0,0))],e6]⟩ ?_ ?_
  ·by_cases c1:y.til<=now
   ·have e1:a1=⟨y.nb,Zgo y.q,Zaz now 2,y.ans⟩:=by rw[ha1];unfold Zer;rw[if_pos c1]
    clear ha1
    subst e1
    refine W4 [3,0,4,0,3,0,0,1] @ZlU ?_
    refine Zdf 0 rfl rfl (Zhj Qd) (ZkR _) rfl (ZhM Qd Qd) rfl ?_
    refine W4 [4,0,1,0,1] @ZcS ?_
    exact gJ () trivial
   ·have e1:a1=y:=by rw[ha1];unfold Zer;rw[if_neg c1]
    clear ha1
    subst e1
    refine W3 [3,0,4,0,1] ?_
    exact gJ () trivial
  rintro⟨⟩-
  dsimp only
  have a1I:IsAj a1:=ZdW _
  have a1q:BdQu a1.q:=by rw[ha1];unfold Zer;split<;>first|exact Zj1 yq|exact yq
  have a1n:a1.nb=y.nb:=by rw[ha1];unfold Zer;split<;>rfl
  refine gQ 2 rfl ?_
  obtain⟨a2,ha2⟩:∃a2,a2=ZgP now a1:=⟨_,rfl⟩
  refine Zc0 (ι:=Unit) ⟨λ_=>True,λ_=>[(24, .int .i64 i),(23, .int .i64 s.aj.length),(22, .slice (some ⟨bq,0,none⟩) s.aj.length c7),(1, .int .i64 now),(2, .pointer (some ⟨b2,0,none⟩)),(4, .pointer (some ⟨b4,0,none⟩)),(6,u),(8, .pointer (some ⟨b8,0,none⟩))],λ_=>[[(b8, .cells (ajC a2).toArray 124 (0,0))],es,es9,[(b4, .cells rtZ.toArray 53 (0,0))],[(b2, .cells (rtC s ⟨v6, .slice (some ⟨bq,0,none⟩) s.aj.length c7,v8,u9,v10,v11,v12⟩).toArray 53 (0,0))],e12,e11,e10,e8,[(bq, .cells (ajsC s.aj++jq).toArray 124 (0,0))],e6]⟩ ?_ ?_
  ·by_cases c1:a1.ans<=now
   ·have e1:a2=⟨a1.nb,repV a1.q 65535,a1.til,a1.ans⟩:=by rw[ha2];unfold ZgP;rw[if_pos c1]
    clear ha2
    subst e1
    refine W4 [3,0,4,0,2,0,0,1] @ZlT ?_
    refine Zdf 0 rfl rfl (Zhj Qd) (ZkR _) rfl (ZhM Qd Qd) rfl ?_
    exact gQ 1 rfl (gJ () trivial)
   ·have e1:a2=a1:=by rw[ha2];unfold ZgP;rw[if_neg c1]
    clear ha2
    subst e1
    refine W3 [3,0,4,0,1] ?_
    exact gJ () trivial
  rintro⟨⟩-
  dsimp only
  have a2I:IsAj a2:=ZdW _
  have a2n:a2.nb=y.nb:=by rw[ha2,<-a1n];unfold ZgP;split<;>rfl
  have ha:a2=senS now y:=by rw[ha2,ha1];rfl
  clear ha2
  cases hkn:a2.q.known
  ·have hF:=ZxG (ro:=s.ro) hi hy (ha▸hkn)
   have hr2:∀y∈senR now s.ro (s.aj.take i),IsRo y:=λy hy=>hs.ro y ((ZdN _ _ _).subset hy)
   have hr3:(senR now s.ro (s.aj.take i)).length<=100000:=Nat.le_trans (ZdN _ _ _).length_le (by have:=(Zbd.1 (ZbT hv).2.2.2.2.2.2.2.1).1;omega)
   rw[<-a2n] at hF
   refine W3 [5,0,2,0,2,0,1,0] ?_
   refine Zdr rfl rfl (λw M=>ZpV _ Qd Qd _ _ _ (OwnS.slAt Qd M (λq hq=>by simp[hq]))) (λv58 e58 hO58=>?_)
   refine W3 [1,0,3] ?_
   refine Zao (.s (.s .z)) ?_
   refine W3 [1,0,2] ?_
   exact gR (_,_,_,_) ⟨by show OwnS _ _ _ _ _ _;rw[hF.1];assumption,by show OwnS _ _ _ _ _ _;rw[hF.2];assumption⟩
  ·have hT:=ZxF (ro:=s.ro) hi hy (ha▸hkn)
   rw[<-ha] at hT
   refine W3 [5,0,2,0,2,0] ?_
   refine g_bs rfl rfl rfl (Zfv Qd) (λb52=>?_)
   refine ZaY 2 0 (enc:=ajC) rfl rfl Qd rfl rfl (Zhn Qd) Q4 (λ_=>rfl) (λv53 es53 hO53=>?_) (Zhm _)
   exact vCi
 ·rintro⟨u,es,u9,es9⟩ i hi ⟨hO,hR⟩
  subst hi
  dsimp only at hO hR⊢
  rw[List.take_length] at hO hR
  have hr1:∀y∈senR now s.ro s.aj,IsRo y:=λy hy=>hs.ro y ((ZdN _ _ _).subset hy)
  have hr2:=ZeC (now:=now) hr1
  have hsr:=hs.sr
  have hs2:∀y∈expS s.sr now,IsSr y:=λy hy=>hs.sr y ((ZhH _ _).subset hy)
  refine W3 [6,0,2,0,6,0,5,0,1] ?_
  refine Zdr rfl rfl (λw M=>ZkL _ hr1 u9 now w (hR.slAt M λq hq=>List.mem_flatten_of_mem Q5 hq)) (λv66 e66 hO66=>?_)
  refine W3 [1,0,5,0,1] ?_
  refine Zdr rfl rfl (λw M=>Zvw _ hs.sr v8 now w (o8.slAt M λq hq=>List.mem_flatten_of_mem Q5 hq)) (λv71 e71 hO71=>?_)
  refine W3 [1,0,2] ?_
  have hsI:IsRt {s with aj:=senA now s.aj,sr:=expS s.sr now,ro:=ZaF (senR now s.ro s.aj) now}:=⟨hs.og,λy _=>ZdW _,hs2,hr2,hs.ins,hs.rq,hs.av,ZlN hs.q⟩
  refine gQ 1 rfl (Zjj 14 169 [6,9,10,11,13] [(12,10)] rfl Q7 (ZaT 2 rfl (Zdc 5 rfl rfl rfl (ZaT 1 rfl (Zdc 5 rfl rfl rfl (Zjk 5 rfl rfl rfl ?_))))))
  refine Zfm (κ:=Value×EN) (λ_ j=>j.1) (λ_ j=>OwnS 96 2 j.1 ((Zb9 (senA now s.aj))).length (opsC ((Zb9 (senA now s.aj)))) j.2) (λ_ j=>[j.2]) (.x .any) (λf=>rfl) (λ_ _=>rfl) (λ_ _ w M=>Cal.mono (Zss {s with aj:=senA now s.aj,sr:=expS s.sr now,ro:=ZaF (senR now s.ro s.aj) now} ⟨v6,u,v71,v66,v10,v11,v12⟩ hsI (Nat.le_trans Zga ht.2) w ⟨(o6.slAt M λq hq=>List.mem_flatten_of_mem Q5 hq),(hO.slAt M λq hq=>List.mem_flatten_of_mem Q5 hq),(hO71.slAt M λq hq=>List.mem_flatten_of_mem Q5 hq),(hO66.slAt M λq hq=>List.mem_flatten_of_mem Q5 hq),(o10.slAt M λq hq=>List.mem_flatten_of_mem Q5 hq),(o11.slAt M λq hq=>List.mem_flatten_of_mem Q5 hq),(o12.slAt M λq hq=>List.mem_flatten_of_mem Q5 hq)⟩) λr w' h=>by obtain⟨ent,h2,h3⟩:=h;exact⟨(r,ent),rfl,h2,by simpa using h3⟩) (λ_ _ _ _=>trivial) (λ_ _ _ _ _ _=>trivial) ?_
  refine ZaT 1 rfl (Zdc 5 rfl rfl rfl ?_)
  obtain⟨sl,hsl⟩:∃sl,sl=(ZaS now (ZaF (senR now s.ro s.aj) now) (expS s.sr now) (Zb9 (senA now s.aj)) s.ins):=⟨_,rfl⟩
  refine Zfm (κ:=Value×EN) (λ_ j=> .tuple [j.1, .int .i64 sl.2].toArray) (λ_ j=>OwnS 74 40 j.1 sl.1.length (insC sl.1) j.2) (λ_ j=>[j.2]) (.x .any) (λf=>rfl) (λ_ _=>rfl) (λi hi w M=>Cal.mono (ZpJ now _ hr2 _ hs2 (Zb9 (senA now s.aj)) s.ins hs.ins v66 v71 i.2.1 v10 w (hO66.slAt M λq hq=>List.mem_flatten_of_mem Q5 hq) (hO71.slAt M λq hq=>List.mem_flatten_of_mem Q5 hq) (hi.2.slAt M λq hq=>List.mem_flatten_of_mem Q5 hq) (o10.slAt M λq hq=>List.mem_flatten_of_mem Q5 hq)) λr w' h=>by obtain⟨u,ent,h1,h2,h3⟩:=h;exact⟨(u,ent),by rw[hsl];exact h1,by rw[hsl];exact h2,by simpa using h3⟩) (λ_ _ _ _=>trivial) (λ_ _ _ _ _ _=>trivial) ?_
  refine ZeB (λq=> .tuple [q.2.1, .int .i64 sl.2].toArray) (.tn 2) (λ_ _=>rfl) (λ_ _ _=>⟨_,rfl,rfl⟩) (λ_ _ _ _=>trivial) (ZeB (λq=>q.2.1) (.x .any) (λ_ _=>rfl) (λ_ _ _=>trivial) (λ_ _ _ _=>trivial) (Zio 2 10 (.tail _ (.head _)) Q0 (ZeB (λq=>q.2.1) (.x .any) (λ_ _=>rfl) (λ_ _ _=>trivial) (λ_ _ _ _=>trivial) (ZfJ rfl (λi hi=>rfl) (λi hi=>⟨_,rfl,?_⟩)))))
  obtain⟨⟨_,uk,fk⟩,w10,f10⟩:=i
  obtain⟨_,o10b⟩:=hi
  dsimp only at o10b⊢
  refine W3 [7,0,3] ?_
  refine Zao (.s (.s (.s (.s (.s (.s (.s (.s (.s (.z)))))))))) (Zao (.s (.s (.s (.s (.z))))) (Zao (.s (.s (.z))) (Zc0 (ι:=Value×EN×Value×EN×Value×EN) ⟨λ(u10,g10,u9,g9,u11,g11)=>OwnS 74 40 u10 ((setB now s).ins).length (insC ((setB now s).ins)) g10/\OwnS 76 39 u9 ((setB now s).ro).length (rosC ((setB now s).ro)) g9/\OwnS 171 40 u11 ((setB now s).rq).length (rqsC ((setB now s).rq)) g11,λ_=>[(1, .int .i64 now),(2, .pointer (some ⟨b2,0,none⟩)),(4, .pointer (some ⟨b4,0,none⟩))],λ(u10,g10,u9,g9,u11,g11)=>[g10,g9,g11,e71,es,[(b4, .cells rtZ.toArray 53 (0,0))],[(b2, .cells (rtC (setB now s) ⟨v6,u,v71,u9,u10,u11,v12⟩).toArray 53 (0,0))],e12,e6]⟩ ?_ ?_)))
  ·by_cases c2:sl.2=0
   ·have e1:setB now s= {s with aj:=senA now s.aj,sr:=expS s.sr now,ro:=ZaF (senR now s.ro s.aj) now,ins:=sl.1}:=by unfold setB;rw[<-hsl,if_pos c2]
    rw[e1]
    refine W3 [6,0,1] ?_
    exact gJ (_,_,_,_,_,_) ⟨o10b,hO66,o11⟩ rfl (List.Sublist.cons_cons _ (List.Sublist.cons_cons _ (List.Sublist.cons_cons _ (List.Sublist.cons _ (List.Sublist.cons_cons _ (List.Sublist.cons_cons _ (List.Sublist.cons _ (List.Sublist.cons_cons _ (List.Sublist.cons_cons _ (List.Sublist.cons_cons _ (List.Sublist.cons _ (List.Sublist.cons _ (List.Sublist.cons _ (List.Sublist.cons_cons _ (List.Sublist.refl _)))))))))))))))
   ·have e1:setB now s= {s with aj:=senA now s.aj,sr:=expS s.sr now,ro:=[],ins:=[],rq:=[],quiet:=Zaz now 16}:=by unfold setB;rw[<-hsl,if_neg c2]
    rw[e1]
    refine Zba (Zba (Zba ?_))
    refine W4 [6,0,3,0,1,0,1,0,4,0,1,0,1] @ZcS ?_
    exact gJ (_,[],_,[],_,[]) ⟨OwnS.nilL _ _ _,OwnS.nilL _ _ _,OwnS.nilL _ _ _⟩ rfl (List.Sublist.cons_cons _ (List.Sublist.cons_cons _ (List.Sublist.cons_cons _ (List.Sublist.cons _ (List.Sublist.cons _ (List.Sublist.cons _ (List.Sublist.cons _ (List.Sublist.cons_cons _ (List.Sublist.cons_cons _ (List.Sublist.cons _ (List.Sublist.cons_cons _ (List.Sublist.cons_cons _ (List.Sublist.cons_cons _ (List.Sublist.cons _ (List.Sublist.cons _ (List.Sublist.cons _ (List.Sublist.cons_cons _ (List.Sublist.refl _))))))))))))))))))
  rintro⟨u10,g10,u9,g9,u11,g11⟩ ⟨o10,o9,o11⟩
  dsimp only at o10 o9 o11⊢
  obtain⟨q10,c10,rfl,hq10⟩:=Zbr o10
  have hB:=ZlL now hs
  have hBl:=ZjL now hv
  have hBi:=hBl.2
  refine W3 [5,0,5] ?_
  refine Zao (.s (.s (.z))) (ZcT 99 98 97 (ZbU hB.1) hq10 (λi(j:Value×EN)=>OwnS 171 40 j.1 (((((setB now s).ins.take i).foldl metS (setB now s).rq))).length (rqsC ((((setB now s).ins.take i).foldl metS (setB now s).rq))) j.2) (λj=>[(1, .int .i64 now),(2, .pointer (some ⟨b2,0,none⟩)),(4, .pointer (some ⟨b4,0,none⟩))]) (λj=>[j.2,g10,g9,e71,es,[(b4, .cells rtZ.toArray 53 (0,0))],[(b2, .cells (rtC (setB now s) ⟨v6,u,v71,u9, .slice q10 (setB now s).ins.length c10,j.1,v12⟩).toArray 53 (0,0))],e12,e6]) (_,_) o11 ?_ ?_)
  ·rintro i ⟨u2,es2⟩ y hi hy hym bq jq rfl rfl f1 oQ
   have yI:=hB.1 y hym
   have yd:=yI.1
   dsimp only at oQ⊢
   have hnx:((setB now s).ins.take (i+1)).foldl metS (setB now s).rq=metS (((setB now s).ins.take i).foldl metS (setB now s).rq) y:=by rw[List.take_succ_eq_append_getElem hi,List.foldl_append,<-hy];rfl
   obtain⟨qs,hqs⟩:∃qs,qs=((setB now s).ins.take i).foldl metS (setB now s).rq:=⟨_,rfl⟩
   have hqI:(∀y∈qs,IsRq y)/\qs.length<=100000:=by rw[hqs];exact⟨λy hy=>hB.2 y ((ZdQ _ _).subset hy),Nat.le_trans (ZdQ _ _).length_le Q0⟩
   rw[<-hqs] at oQ hnx
   by_cases c3:y.nb=0
   ·have e1:metS qs y=qs:=by unfold metS;rw[if_pos c3]
    rw[e1] at hnx
    refine W3 [6,0,6,0,0] ?_
    refine Zac λb12=>?_
    refine W4 [0,4,0,0,2,0,4,0,2] @Zdo ?_
    exact gR (_,_) (by show OwnS _ _ _ _ _ _;rw[hnx];exact oQ)
   ·have e1:metS qs y=metV qs y.to y.own:=by unfold metS;rw[if_neg c3]
    rw[e1] at hnx
    refine W3 [6,0,6,0,0] ?_
    refine Zac λb12=>?_
    refine W4 [0,4,0,0,2] @Zdo ?_
    refine g_if rfl (λh1=>?_) (λh1=>?_)
    ·replace h1:=Zbx h1
     refine W3 [2,0,1,0,1,0] ?_
     refine Zdr rfl rfl (λw M=>Zvv _ (And.left Qd) _ Q0 _ Qd _ _ (OwnS.slAt Qd M (λq hq=>by simp[hq]))) (λv111 e111 hO111=>?_)
     refine W3 [1,0,4,0,2] ?_
     exact gR (_,_) (by show OwnS _ _ _ _ _ _;rw[hnx];exact hO111)
    ·replace h1:=ZaJ h1
     exfalso;omega
  ·rintro⟨u2,es2⟩ i hi oQ
   subst hi
   dsimp only at oQ⊢
   rw[List.take_length] at oQ
   have oS:=Zm0 now o6 hO hO71 o9 o10 oQ o12
   by_cases c4:now<(setB now s).quiet
   ·have e1:=ZtS (al:=[]) c4
    rw[e1]
    refine Zao (.s (.s (.s (.s (.s (.s (.s (.z)))))))) (Zba ?_)
    refine W4 [6,0,2,0,10,0,1,0,2,0,2,0] @Zgf ?_
    refine Zdf 7 rfl rfl rfl oS.one rfl rfl rfl ?_
    exact gQ 5 rfl (Zcb 7 rfl rfl rfl rfl rfl rfl λw M=>⟨⟨v6,u,v71,u9,_,u2,v12⟩,⟨e6,es,e71,g9,g10,es2,e12⟩,_,[],rfl,oS,OwnS.nilL _ _ _,M.sub (subO (.cons_cons _ (.cons_cons _ (.cons_cons _ (.cons_cons _ (.cons_cons _ (.cons_cons _ (.cons_cons _ (.cons _ (.cons _ (.cons_cons _ (.refl _))))))))))))⟩)
   ·have hC:=ZgO (now:=now) hs
    have hCs:ZaK (setC now s).sr=true:=(ZbT (ZlJ hs hv hnow)).2.2.2.2.2.2.1
    have c4b:¬now<(setC now s).quiet:=c4
    have o8d:OwnS 166 38 v71 (setC now s).sr.length (srsC (setC now s).sr) e71:=by show OwnS _ _ _ (setB now s).sr.length (srsC (setB now s).sr) _;rw[(Zf9 now s).2.2.2.1];exact hO71
    obtain⟨ds,hds⟩:∃ds,ds=Za9 now (setC now s).ro (setC now s).sr (setC now s).ins:=⟨_,rfl⟩
    have hdb:(∀t∈ds,IsDv t)/\ds.length<=512:=by rw[hds];exact Zfy hC.ro
    have e0:setV now s []=({setC now s with rq:=(ds.foldl (stvS now (setC now s).sr) ((setC now s).rq,[])).1},(ds.foldl (stvS now (setC now s).sr) ((setC now s).rq,[])).2):=by unfold setV setD;rw[if_neg c4b,<-hds]
    clear hO71 hs2
    refine W4 [6,0,2,0,10,0,1,0,2,0,7,0,1,0,1,0] @Zgf ?_
    refine Zdr rfl rfl (λw M=>Zor now (setC now s).ro hC.ro (setC now s).sr hC.sr (setC now s).ins hC.ins u9 v71 (.slice q10 (setB now s).ins.length c10) w (o9.slAt M λq hq=>List.mem_flatten_of_mem Q5 hq) (o8d.slAt M λq hq=>List.mem_flatten_of_mem Q5 hq) (o10.slAt M λq hq=>List.mem_flatten_of_mem Q5 hq)) (λv125 ed oD=>?_)
    rw[<-hds] at oD
    obtain⟨qd,cd,rfl,hqd⟩:=Zbr oD
    refine gQ 5 rfl (Zba (ZcT 127 126 125 (Ziw hdb.1) hqd (λi(j:Value×EN×Value×EN)=>OwnS 171 40 j.1 (((ds.take i).foldl (stvS now (setC now s).sr) ((setC now s).rq,[])).1).length (rqsC (((ds.take i).foldl (stvS now (setC now s).sr) ((setC now s).rq,[])).1)) j.2.1/\OwnS 69 40 j.2.2.1 (((ds.take i).foldl (stvS now (setC now s).sr) ((setC now s).rq,[])).2).length (nosC (((ds.take i).foldl (stvS now (setC now s).sr) ((setC now s).rq,[])).2)) j.2.2.2) (λj=>[(1, .int .i64 now),(2, .pointer (some ⟨b2,0,none⟩)),(4, .pointer (some ⟨b4,0,none⟩)),(13,j.2.2.1)]) (λj=>[j.2.2.2,ed,j.2.1,g10,g9,e71,es,[(b4, .cells rtZ.toArray 53 (0,0))],[(b2, .cells (rtC (setB now s) ⟨v6,u,v71,u9, .slice q10 (setB now s).ins.length c10,j.1,v12⟩).toArray 53 (0,0))],e12,e6]) (_,_,_,[]) ⟨oQ,OwnS.nilL _ _ _⟩ ?_ ?_))
    ·rintro i ⟨u3,es3,va3,ea3⟩ y hi hy hym bq jq rfl rfl f1 ⟨oQ2,oA2⟩
     have yd:=hdb.1 y hym
     dsimp only at oQ2 oA2⊢
     have hnx:((ds.take (i+1)).foldl (stvS now (setC now s).sr) ((setC now s).rq,[]))=stvS now (setC now s).sr ((ds.take i).foldl (stvS now (setC now s).sr) ((setC now s).rq,[])) y:=by rw[List.take_succ_eq_append_getElem hi,List.foldl_append,<-hy];rfl
     obtain⟨st,hst⟩:∃st,st=((ds.take i).foldl (stvS now (setC now s).sr) ((setC now s).rq,[])):=⟨_,rfl⟩
     have hI:RqI st.1/\st.2.length<=0+i:=by rw[hst];have:=Zr2 (now:=now) (sr:=(setC now s).sr) (ds.take i) ((setC now s).rq,[]) (λt ht=>hdb.1 t (List.mem_of_mem_take ht)) (ZjK hs hv hsq);exact⟨this.1,Nat.le_trans this.2 (by rw[List.length_take];dsimp only[List.length_nil];omega)⟩
     rw[<-hst] at oQ2 oA2 hnx
     have hrf:Zcd (setC now s).sr now y=Zds (setC now s).sr now y:=by unfold Zcd;rw[hCs,hnow];rfl
     refine W3 [6,0,6,0,0] ?_
     refine Zac λb15=>?_
     refine W3 [0,5,0,1,0] ?_
     refine Zb6 (v:= .tuple [diV ((Zds (setC now s).sr now y).getD di0), .bool (Zds (setC now s).sr now y).isSome].toArray) rfl rfl (λw M=>by rw[<-hrf];exact Zsp (setC now s).sr hC.sr v71 now y yd w (o8d.slAt M λq hq=>List.mem_flatten_of_mem Q5 hq)) ?_
     rcases hb:Zds (setC now s).sr now y with _|d
     ·have e1:stvS now (setC now s).sr st y=st:=by unfold stvS;rw[hb]
      rw[e1] at hnx
      refine gQ 3 rfl (Zac λb16=>?_)
      refine W3 [0,16,0,2] ?_
      exact vB3
     ·obtain⟨aq,haq⟩:∃aq,aq=addV st.1 now y (sq1 d) 32 0:=⟨_,rfl⟩
      refine gQ 3 rfl (Zac λb16=>?_)
      refine W3 [0,16,0,1,0,1,0,0] ?_
      refine ZaU (ι:=Value×EN) (λj=> .tuple [j.1, .bool aq.fresh, .int .i64 aq.err].toArray) (λj=>OwnS 171 40 j.1 aq.l.length (rqsC aq.l) j.2) (λj=>[j.2]) rfl rfl (λw M=>Cal.mono (ZpX st.1 hI.1.is u3 now y yd (sq1 d) 32 0 w (oQ2.slAt M λq hq=>List.mem_flatten_of_mem Q5 hq)) λr w2 h=>by rw[<-haq] at h;obtain⟨u2,ent,h1,h2,h3⟩:=h;exact⟨(u2,ent),h1,h2,by simpa using h3⟩) ?_
      rintro⟨u4,es4⟩ oQ3
      dsimp only[List.cons_append,List.nil_append] at oQ3⊢
      by_cases c5:aq.err=0
      ·rcases c6:aq.fresh with _| _
       ·have e1:stvS now (setC now s).sr st y=(aq.l,st.2):=by unfold stvS;rw[hb];dsimp only;rw[<-haq,if_pos c5,c6];rfl
        rw[e1] at hnx
        refine Zao (.s (.s (.s (.s (.z))))) (Zao (.s (.s (.s (.s (.z))))) ?_)
        refine W3 [16,0,6,0,12,0,2] ?_
        exact vCJ
       ·have e1:stvS now (setC now s).sr st y=(aq.l,st.2++[sqN y (sq1 d) 32]):=by unfold stvS;rw[hb];dsimp only;rw[<-haq,if_pos c5,c6];rfl
        rw[e1] at hnx
        have hI2:IsNo (sqN y (sq1 d) 32):=yd
        refine Zao (.s (.s (.s (.s (.z))))) (Zao (.s (.s (.s (.s (.z))))) ?_)
        refine W3 [16,0,6,0,11,0,0,0] ?_
        refine g_v (λa w F M R r=>Zaq F rfl (Zqu _ Qd _ _) r) ?_
        refine g_bs rfl rfl rfl (ZcM Qd) (λb164=>?_)
        refine ZaY 1 0 (enc:=noC) rfl rfl Qd rfl rfl (Zez Qd) Q4 (λ_=>rfl) (λv165 es165 hO165=>?_) (Zfk _)
        refine W3 [5,0,2] ?_
        exact gR (_,_,_,_) ⟨by show OwnS _ _ _ _ _ _;rw[hnx];exact oQ3,by show OwnS _ _ _ _ _ _;rw[hnx];exact hO165⟩
      ·have e1:stvS now (setC now s).sr st y=st:=by unfold stvS;rw[hb];dsimp only;rw[<-haq,if_neg c5]
       rw[e1] at hnx
       refine W3 [16,0,5,0,2] ?_
       exact vB3
    ·rintro⟨u3,es3,va3,ea3⟩ i hi ⟨oQ2,oA2⟩
     subst hi
     dsimp only at oQ2 oA2⊢
     rw[List.take_length] at oQ2 oA2
     rw[e0]
     refine Zao (.s (.s (.s (.s (.s (.s (.s (.s (.s (.z)))))))))) (Zao (.s (.z)) ?_)
     have oS2:RtOw {setC now s with rq:=(ds.foldl (stvS now (setC now s).sr) ((setC now s).rq,[])).1} ⟨v6,u,v71,u9, .slice q10 (setB now s).ins.length c10,u3,v12⟩ ⟨e6,es,e71,g9,g10,es3,e12⟩:=⟨oS.og,oS.aj,oS.sr,oS.ro,oS.ins,oQ2,oS.av⟩
     refine W3 [6,0,2,0,4,0,1] ?_
     refine Zdf 8 rfl rfl rfl oS2.one rfl rfl rfl ?_
     exact gQ 4 rfl (Zcb 8 rfl rfl rfl rfl rfl rfl λw M=>⟨⟨v6,u,v71,u9,_,u3,v12⟩,⟨e6,es,e71,g9,g10,es3,e12⟩,_,_,rfl,oS2,oA2,M.sub (subO (.cons_cons _ (.cons_cons _ (.cons _ (.cons_cons _ (.cons_cons _ (.cons_cons _ (.cons_cons _ (.cons_cons _ (.cons _ (.cons _ (.cons_cons _ (.refl _)))))))))))))⟩)
theorem ZtV{x:RtX}(l:List SrcV){u:Value}(h:(rtC s x).all (·.oneCell')=true)(hu:u.oneCell'=true):(rtC {s with sr:=l} {x with sr:=u}).all (·.oneCell')=true:=by
 simp only[rtC,List.all_cons,List.all_nil,Bool.and_eq_true] at h⊢
 obtain⟨a0,a1,a2,a3,a4,a5,a6,a7,a8,a9,a10,a11,a12,a13,a14⟩:=h
 exact⟨a0,a1,a2,a3,a4,a5,a6,a7,hu,a9,a10,a11,a12,a13,a14⟩
theorem Zst(s:RtV)(x:RtX)(now:Int)(e8:EN)(l:List AdvV)(hx:∀y∈l,IsAv y)(hl:l.length<=1000)(hsr:∀y∈s.sr,IsSr y)(h1:(rtC s x).all (·.oneCell')=true)(hS8:OwnS 166 38 x.sr s.sr.length (srsC s.sr) e8)(v:Value)(W:World)(hH:InW W ([e8]:Row).flatten)(hL:SlAt W 37 v l.length (avsC l))(hn:∀b' o s' k c,v= .slice (some ⟨b',o,s'⟩) k c->b'∉([e8]:Row).flatten.map (·.1)):Cal prog 209 [.agg (rtC s x).toArray, .int .i64 now,v].toArray W λr w'=>∃va ea u8 e8',r= .tuple #[.agg (rtC {s with sr:=(alwV now s.sr l).1} {x with sr:=u8}).toArray,va]/\OwnS 100 37 va ((alwV now s.sr l).2).length (avsC ((alwV now s.sr l).2)) ea/\OwnS 166 38 u8 ((alwV now s.sr l).1).length (srsC ((alwV now s.sr l).1)) e8'/\Mem (([e8]:Row).flatten.map (·.1)) W w' ([ea,e8']:Row).flatten:=by
 obtain⟨v6,v7,v8,v9,v10,v11,v12⟩:=x
 dsimp only at hS8
 obtain⟨q,cap,rfl,_⟩:=id hL
 have hm:=hL.memB _ (λb' o s' h=>hn b' o s' _ _ (by rw[h]))
 refine Zdw (n:=45) [e8] hH Zbj Zbi Tryz.func209 rfl rfl rfl (gQ 2 rfl (Zai rfl rfl λb3=>Zac λb6=>gQ 17 rfl (Zao (.s (.s .z)) (Zba (ZfW 15 14 13 (ZbV hx) hm (λi(j:Value×EN×Value×EN)=>OwnS 100 37 j.1 ((alwV now s.sr (l.take i)).2).length (avsC ((alwV now s.sr (l.take i)).2)) j.2.1/\OwnS 166 38 j.2.2.1 ((alwV now s.sr (l.take i)).1).length (srsC ((alwV now s.sr (l.take i)).1)) j.2.2.2) (λj=>[(1, .int .i64 now),(3, .pointer (some ⟨b3,0,none⟩)),(6, .pointer (some ⟨b6,0,none⟩)),(8,j.1)]) (λj=>[j.2.1,j.2.2.2,[(b6, .cells rtZ.toArray 53 (0,0))],[(b3, .cells (rtC s ⟨v6,v7,j.2.2.1,v9,v10,v11,v12⟩).toArray 53 (0,0))]]) (_,[],_,_) ⟨OwnS.nilL _ _ _,hS8⟩ ?_ ?_)))))
 ·rintro i ⟨u,es,u8,es8⟩ y hi hy hym bb o cs t2 fz rfl hb f1 ⟨hO,hS⟩
  have yI:=hx y hym
  dsimp only at hO hS⊢
  have hnx:=Zly (now:=now) (sr:=s.sr) hi hy
  obtain⟨st,hst⟩:∃st,st=(alwV now s.sr (l.take i)):=⟨_,rfl⟩
  have hsl:st.2.length<=1000:=by rw[hst];exact Nat.le_trans (ZmM _ _ _) (by rw[List.length_take,List.length_nil];omega)
  have hsi:∀y∈st.1,IsSr y:=by rw[hst];exact Zn8 hsr _ _ _ (λx hx2=>hx x (List.mem_of_mem_take hx2)) hsr
  rw[<-hst] at hO hS hnx
  have yd:=yI.1
  by_cases c1:y.own.met=65535
  ·have e1:alwS now st y=(st.1,st.2++[y]):=by unfold alwS;rw[if_pos c1]
   rw[e1] at hnx
   refine W3 [6,0,6,0,0] ?_
   refine Zac λb10=>?_
   refine W3 [0,7,0,3,0,4,0] ?_
   refine g_bs rfl rfl rfl (ZbS Qd) (λb40=>?_)
   refine ZaY 2 0 (enc:=avC) rfl rfl Qd rfl rfl (Zcy Qd) Q4 (λ_=>rfl) (λv41 es41 hO41=>?_) (Zco _)
   refine W3 [5,0,2] ?_
   exact vBw
  ·refine W3 [6,0,6,0,0] ?_
   refine Zac λb10=>?_
   refine W3 [0,7,0,3,0,3,0,2,0,1,0] ?_
   refine ZaU (ι:=Value×EN) (λj=> .tuple [j.1, .int .i64 (ZaQ st.1 now y.to y.own).2].toArray) (λj=>OwnS 166 38 j.1 ((ZaQ st.1 now y.to y.own).1).length (srsC ((ZaQ st.1 now y.to y.own).1)) j.2) (λj=>[j.2]) rfl rfl (λw M=>Cal.mono (ZpK st.1 hsi u8 now y.to yd y.own w (hS.slAt M λq hq=>List.mem_flatten_of_mem Q5 hq)) λr w2 h=>by obtain⟨u2,ent,h1,h2,h3⟩:=h;exact⟨(u2,ent),h1,h2,by simpa using h3⟩) ?_
   rintro⟨u9,es9⟩ hS2
   dsimp only[List.cons_append,List.nil_append] at hS2⊢
   by_cases c2:(ZaQ st.1 now y.to y.own).2=0
   ·have e1:alwS now st y=((ZaQ st.1 now y.to y.own).1,st.2++[y]):=by unfold alwS;rw[if_neg c1,if_pos c2]
    rw[e1] at hnx
    refine Zao (.s (.s .z)) ?_
    refine W3 [14,0,5,0,4,0] ?_
    refine g_bs rfl rfl rfl (ZbS Qd) (λb40=>?_)
    refine ZaY 1 0 (enc:=avC) rfl rfl Qd rfl rfl (Zcy Qd) Q4 (λ_=>rfl) (λv41 es41 hO41=>?_) (Zco _)
    exact vCk
   ·have e1:alwS now st y=st:=by unfold alwS;rw[if_neg c1,if_neg c2]
    rw[e1] at hnx
    refine W3 [14,0,6,0,2] ?_
    exact vBw
 ·rintro⟨u,es,u8,es8⟩ i hi ⟨hO,hS⟩
  subst hi
  dsimp only at hO hS⊢
  rw[List.take_length] at hO hS
  refine W3 [6,0,2,0,4,0,1] ?_
  refine Zdf 2 rfl rfl rfl (ZtV (alwV now s.sr l).1 h1 (Zc7 hS)) rfl rfl rfl ?_
  exact gQ 4 rfl (Zcb 2 rfl rfl rfl rfl rfl rfl λw M=>⟨_,_,_,_,rfl,hO,hS,M.sub (subO (.cons_cons _ (.cons_cons _ (List.nil_sublist _))))⟩)
def sdn(n:Nat):Nat:=if 0<n then 1 else 0
def sdC(n:Nat)(va:Value):List Value:=if 0<n then [.int .u64 0,va] else []
theorem ZlF{P:Program}{w:World}{sz:Nat}:Zcc P w (.slice none 0 0) 0 sz []:=(SlAt.nil w sz).src rfl
theorem ZxJ(q:Option Addr)(n c:Nat):ZaD [(0,1),(1,1)] [.int .u64 0, .slice none 0 0] [(1,[.slice q n c])]=some [.int .u64 0, .slice q n c]:=rfl
theorem vB7(h:p:=by
  refine Zba (ZcF 0 rfl rfl (OwnS.nil _ _) rfl (λw M=>ZlF) Q5 Q5 (λ_=>rfl) (λu ent hO=>?_))
  rw[Nat.add_zero,List.append_nil] at hO
  refine gQ 4 rfl (Zae rfl rfl rfl λw M=>?_)
  exact⟨ent,by unfold sdn sdC;rw[if_neg h0,if_neg h0];exact hO,M.sub (List.sublist_append_left _ _)⟩):p:=h
theorem vBI(h:p:=by
  rw[Nat.add_zero,List.append_nil] at hO
  refine gQ 4 rfl (Zae rfl rfl rfl λw M=>?_)
  exact⟨ent,by unfold sdn sdC;rw[if_pos h0,if_pos h0];exact hO,M.sub (List.sublist_append_left _ _)⟩):p:=h
theorem Zpr(s:RtV)(x:RtX)(now frm:Int)(va:Value)(al:List NotV)(b:Nat)(hal:al.length<=100000)(hva:∃q c,va= .slice q al.length c)(W:World)(hb:W.heap[b]? =some (.cells (stC s x now frm va (.slice none 0 0)).toArray 142 (0,0))):Cal prog 71 [.pointer (some ⟨b,0,none⟩)].toArray W λr w'=>∃ent,OwnS 61 2 r (sdn al.length) (sdC al.length va) ent/\Mem [] W w' ent:=by
 obtain⟨q,c,rfl⟩:=hva
 have hB:∀w',Ext [] W w'->w'.heap[b]? =some (.cells (stC s x now frm (.slice q al.length c) (.slice none 0 0)).toArray 142 (0,0)):=λw' E=>(E.block b (Array.getElem?_eq_some_iff.1 hb).1 Q5).trans hb
 have e1:nth (stC s x now frm (.slice q al.length c) (.slice none 0 0)) (0+16)=some (.slice q al.length c):=rfl
 have e2:nth (stC s x now frm (.slice q al.length c) (.slice none 0 0)) (0+17)=some (.slice none 0 0):=rfl
 refine yS (n:=24) Tryz.func71 rfl rfl ?_
 by_cases h0:0<al.length
 ·refine W3 [14,0,1,0,4,0,3,0,1,0] ?_
  refine g_v (λa w F M R r=>Zaq F rfl (ZxJ _ _ _) r) (g_bs rfl rfl rfl rfl (λb16=>?_))
  refine Zba (ZaY (x0:=()) (enc:=λ_=>[.int .u64 0, .slice q al.length c]) (out:=[]) 0 1 rfl rfl (OwnS.nil _ _) rfl rfl rfl Q5 (λ_=>rfl) (λv ent hO=>?_) rfl)
  refine W3 [7,0,1,0] ?_
  refine ZcF 0 rfl rfl hO rfl (λw M=>ZlF) Q5 Q5 (λ_=>rfl) (λu ent hO=>?_)
  exact vBI
 ·refine W3 [14,0,1,0,4,0,6,0,1,0] ?_
  exact vB7
theorem Zwc(va:Value)(al:List NotV)(hal:al.length<=100000)(hva:∃q c,va= .slice q al.length c)(W:World):Cal prog 212 [va, .slice none 0 0].toArray W λr w'=>∃ent,OwnS 61 2 r (sdn al.length) (sdC al.length va) ent/\Mem [] W w' ent:=by
 obtain⟨q,c,rfl⟩:=hva
 refine yS (n:=17) Tryz.func212 rfl rfl ?_
 by_cases h0:0<al.length
 ·refine W3 [18,0,3] ?_
  refine g_v (λa w F M R r=>Zaq F rfl (ZxJ _ _ _) r) (g_bs rfl rfl rfl rfl (λb12=>?_))
  refine Zba (ZaY (x0:=()) (enc:=λ_=>[.int .u64 0, .slice q al.length c]) (out:=[]) 0 1 rfl rfl (OwnS.nil _ _) rfl rfl rfl Q5 (λ_=>rfl) (λv ent hO=>?_) rfl)
  refine gQ 7 rfl (ZcF 0 rfl rfl hO rfl (λw M=>ZlF) Q5 Q5 (λ_=>rfl) (λu ent hO=>?_))
  exact vBI
 ·refine W3 [18,0,6] ?_
  exact vB7
end
end Go.Proofs.YtfhkmgcalcfibaaGreat
